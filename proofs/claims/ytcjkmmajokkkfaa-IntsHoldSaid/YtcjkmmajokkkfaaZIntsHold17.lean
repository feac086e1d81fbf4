/- Words and proofs that IntsHold leans on; put together by wip/tools/shake.py. -/
import Derived.Test.YtcjkmmajokkkfaaZIntsHold16
import Derived.ArgAppend
import Derived.Below
import Derived.BigQuiet
import Derived.Deep.AppendLies
import Derived.Deep.CutBlock
import Derived.Deep.DeepCutAuto
import Derived.Deep.Draws
import Derived.Deep.LoopGhost
import Derived.Deep.OwnRows
import Derived.Deep.QuietTactic
import Derived.Deep.RegionHeld3
import Derived.KernelRfl
import Derived.Laws.BitsAllLaws
import Derived.Laws.BitsLemmas
import Derived.Laws.BytesArg
import Derived.Laws.Cover1
import Derived.Laws.IdiomCopy
import Derived.Laws.MakeOwn
import Derived.Laws.OwnMore
import Derived.Laws.Rows
import Derived.Laws.Slices
import Derived.Laws.StructEq
import Derived.Lib.AppendStr
import Derived.Lib.BitFns
import Derived.Lib.ConvBytes
import Derived.Lib.Slices
import Derived.Lib.Small
import Derived.Lib.Strings
import Derived.Lib.Walk
import Derived.LoopIn
import Derived.LoopNIn
import Derived.Maps.AppendAt
import Derived.OrdersHeld
import Derived.OwnWalk
import Derived.OwnWalkIn
import Derived.RangeFuncBound
import Derived.RangeFuncBox
import Derived.RangeFuncCalls
import Derived.RangeFuncFrom
import Derived.RangeFuncLeaves
import Derived.RangeFuncNested
import Derived.RowKit
import Derived.RowKit3
import Derived.ScopeJumps
import Derived.Shelf.Abstract
import Derived.Sort.QuietIn
import Derived.Tactics
import Derived.TacticsInMore
import Derived.Test.YtcjkmmajokkkfaaChecked
import Derived.Test.YtcjkmmajokkkfaaProg
import Derived.WalkKit
import Derived.WalkMore
import Derived.WalkSpells
import Derived.WideLaws
section
namespace Go.Proofs.YtcjkmmajokkkfaaQ
open Go.RowKit Go.Proofs.YtcjkmmajokkkfaaW.PrintWords Go.Proofs.YtcjkmmajokkkfaaW.PrintMore Go.Proofs.YtcjkmmajokkkfaaW.PrintLast Go.Proofs.Ytcjkmmajokkkfaa.P
def up (l : List Nat) : List Int := l.map fun (n : Nat) => (n : Int)
def Lt64 (l : List Nat) : Prop := ∀ x ∈ l, x < 2 ^ 64
@[simp] theorem up_length (l : List Nat) : (up l).length = l.length := by simp [up]
theorem up_take (l : List Nat) (n : Nat) : (up l).take n = up (l.take n) := by simp [up, List.map_take]
theorem up_drop (l : List Nat) (n : Nat) : (up l).drop n = up (l.drop n) := by simp [up, List.map_drop]
theorem u64_up {l : List Nat} (h : Lt64 l) : U64 (up l) := fun x hx => by
 obtain ⟨n, hn, rfl⟩ := List.mem_map.1 hx
 have := h n hn
 omega
theorem up_get (l : List Nat) (i : Nat) (h : i < l.length) : (up l)[i]'(by simpa using h) = (l[i] : Int) := by simp [up]
theorem rd_up (l : List Nat) (i : Nat) (h : i < l.length) : rd (up l) (i : Int) = (l[i] : Int) := by
 rw [rd_nat _ _ (by simpa using h), up_get l i h]
theorem Lt64.get {l : List Nat} (h : Lt64 l) (i : Nat) (hi : i < l.length) : l[i] < 18446744073709551616 := h _ (List.getElem_mem hi)
theorem Lt64.drop {l : List Nat} (h : Lt64 l) (n : Nat) : Lt64 (l.drop n) := fun x hx => h x (List.mem_of_mem_drop hx)
theorem Lt64.take {l : List Nat} (h : Lt64 l) (n : Nat) : Lt64 (l.take n) := fun x hx => h x (List.mem_of_mem_take hx)
def fill (es : List Int) (i : Nat) : List Int := es.take i ++ List.replicate (es.length - i) 0
theorem fill_zero (es : List Int) : fill es 0 = List.replicate es.length 0 := by simp [fill]
theorem fill_all (es : List Int) : fill es es.length = es := by simp [fill]
theorem fill_length (es : List Int) (i : Nat) (h : i ≤ es.length) : (fill es i).length = es.length := by simp [fill]; omega
theorem fill_set (es : List Int) (i : Nat) (h : i < es.length) : (fill es i).set i es[i] = fill es (i + 1) := by
 have e : es.length - i = (es.length - (i + 1)) + 1 := by omega
 unfold fill
 rw [e, List.replicate_succ, List.set_append_right _ _ (by simp; omega), List.length_take, Nat.min_eq_left (by omega), Nat.sub_self, List.set_cons_zero, List.take_succ_eq_append_getElem h, List.append_assoc]
 rfl
def tailOf (w : Nat) : Nat → List Nat → List Int
 | _, [] => []
 | i, d :: ds => (if 0 < d / 2 ^ w then (i : Int) :: numEnc (d / 2 ^ w) else []) ++ tailOf w (i + 1) ds
def tailLen (w : Nat) : List Nat → Nat
 | [] => 0
 | d :: ds => (if 0 < d / 2 ^ w then 1 + (numEnc (d / 2 ^ w)).length else 0) + tailLen w ds
def cntOf (w : Nat) : List Nat → Nat
 | [] => 0
 | d :: ds => (if 0 < d / 2 ^ w then 1 else 0) + cntOf w ds
def lowOf (w : Nat) (ds : List Nat) : List Int := up (ds.map fun d => d % 2 ^ w)
def costOf (ds : List Nat) (w : Nat) : Nat := (ds.length * w + 7) / 8 + tailLen w ds
theorem length_tailOf (w : Nat) : ∀ (ds : List Nat) (i : Nat), (tailOf w i ds).length = tailLen w ds
 | [], _ => rfl
 | d :: ds, i => by
  rw [tailOf, tailLen, List.length_append, length_tailOf w ds (i + 1)]
  split <;> simp; omega
theorem tailOf_append (w : Nat) : ∀ (a : List Nat) (i : Nat) (b : List Nat), tailOf w i (a ++ b) = tailOf w i a ++ tailOf w (i + a.length) b
 | [], i, b => by simp [tailOf]
 | d :: a, i, b => by
  rw [List.cons_append, tailOf, tailOf, tailOf_append w a (i + 1) b, List.append_assoc, List.length_cons, show i + 1 + a.length = i + (a.length + 1) by omega]
theorem cntOf_append (w : Nat) : ∀ (a b : List Nat), cntOf w (a ++ b) = cntOf w a + cntOf w b
 | [], b => by simp [cntOf]
 | d :: a, b => by rw [List.cons_append, cntOf, cntOf, cntOf_append w a b]; omega
theorem tailOf_snoc (w : Nat) (ds : List Nat) (i : Nat) (h : i < ds.length) :
  tailOf w 0 (ds.take (i + 1)) = tailOf w 0 (ds.take i) ++ (if 0 < ds[i] / 2 ^ w then (i : Int) :: numEnc (ds[i] / 2 ^ w) else []) := by
 rw [List.take_succ_eq_append_getElem h, tailOf_append, List.length_take, Nat.min_eq_left (by omega), Nat.zero_add]
 simp [tailOf]
theorem cntOf_snoc (w : Nat) (ds : List Nat) (i : Nat) (h : i < ds.length) : cntOf w (ds.take (i + 1)) = cntOf w (ds.take i) + (if 0 < ds[i] / 2 ^ w then 1 else 0) := by
 rw [List.take_succ_eq_append_getElem h, cntOf_append]
 simp [cntOf]
theorem div_lt64 {d : Nat} (h : d < 2 ^ 64) (w : Nat) : d / 2 ^ w < 2 ^ 64 := Nat.lt_of_le_of_lt (Nat.div_le_self _ _) h
theorem tailLen_le (w : Nat) : ∀ (ds : List Nat), Lt64 ds → tailLen w ds ≤ 10 * ds.length
 | [], _ => Nat.zero_le _
 | d :: ds, h => by
  have h1 := tailLen_le w ds (fun x hx => h x (List.mem_cons_of_mem _ hx))
  have h2 := length_numEnc_le (div_lt64 (h d List.mem_cons_self) w)
  rw [tailLen, List.length_cons]
  split <;> omega
theorem cntOf_le (w : Nat) : ∀ (ds : List Nat), cntOf w ds ≤ ds.length
 | [] => Nat.le_refl _
 | d :: ds => by
  have := cntOf_le w ds
  rw [cntOf, List.length_cons]
  split <;> omega
theorem length_lowOf (w : Nat) (ds : List Nat) : (lowOf w ds).length = ds.length := by simp [lowOf]
theorem lowOf_get (w : Nat) (ds : List Nat) (i : Nat) (h : i < ds.length) : (lowOf w ds)[i]'(by rw [length_lowOf]; exact h) = ((ds[i] % 2 ^ w : Nat) : Int) := by simp [lowOf, up]
theorem u64_lowOf {ds : List Nat} (h : Lt64 ds) (w : Nat) : U64 (lowOf w ds) := by
 refine u64_up fun x hx => ?_
 obtain ⟨d, hd, rfl⟩ := List.mem_map.1 hx
 exact Nat.lt_of_le_of_lt (Nat.mod_le _ _) (h d hd)
theorem fit_lowOf (w : Nat) (ds : List Nat) : Fit w (lowOf w ds) := fun x hx => by
 obtain ⟨n, hn, rfl⟩ := List.mem_map.1 hx
 obtain ⟨d, hd, rfl⟩ := List.mem_map.1 hn
 rw [Int.toNat_natCast]
 exact Nat.mod_lt _ (two_pow_pos' _)
theorem fits64 {d w : Nat} (h : d < 2 ^ 64) (hw : 64 ≤ w) : d / 2 ^ w = 0 := Nat.div_eq_of_lt (Nat.lt_of_lt_of_le h (Nat.pow_le_pow_right (by decide) hw))
theorem high_eq {d w : Nat} (hd : d < 2 ^ 64) (hw : w ≤ 64) : pfor_high.f (d : Int) (w : Int) = some ((d / 2 ^ w : Nat) : Int) := by
 unfold pfor_high.f
 by_cases h : w = 64
 ·rw [if_pos (by omega), fits64 hd (by omega)]; rfl
 ·rw [if_neg (by omega), if_pos (by omega), shr_u64 _ _ hw]
  simp
theorem psize_ev {v : Nat} (hv : v < 2 ^ 64) : Ev (fun k => pfor_size.f k (v : Int)) ((numEnc v).length : Int) := by
 unfold pfor_size.f
 exact Ev.bind (put_ev [] (by simp) hv) (Ev.now _)
def bestW (c : Nat → Nat) : Nat → Nat
 | 0 => 0
 | k + 1 => if c (k + 1) < c (bestW c k) then k + 1 else bestW c k
theorem bestW_le (c : Nat → Nat) : ∀ k, bestW c k ≤ k
 | 0 => Nat.le_refl _
 | k + 1 => by
  have := bestW_le c k
  rw [bestW]; split <;> omega
theorem tailLen_drop (w : Nat) (ds : List Nat) (i : Nat) (h : i < ds.length) : tailLen w (ds.drop i) = (if 0 < ds[i] / 2 ^ w then 1 + (numEnc (ds[i] / 2 ^ w)).length else 0) + tailLen w (ds.drop (i + 1)) := by
 rw [List.drop_eq_getElem_cons h, tailLen]
theorem pwidth_inner {ds : List Nat} (hd : Lt64 ds) (hl : ds.length ≤ 32) (best least : Int) {w : Nat} (hw : w ≤ 64) (r : Int) : ∀ (m i n : Nat), i + m = ds.length → n ≤ 1000 + 10 * i →
  Ev (fun k => if least < 0 then pfor_width.l0 k (up ds) (w : Int) ((n + tailLen w (ds.drop i) : Nat) : Int) (wrap64 ((w : Int) + 1)) else if ((n + tailLen w (ds.drop i) : Nat) : Int) < least then pfor_width.l0 k (up ds) (w : Int) ((n + tailLen w (ds.drop i) : Nat) : Int) (wrap64 ((w : Int) + 1)) else pfor_width.l0 k (up ds) best least (wrap64 ((w : Int) + 1))) r →
  Ev (fun k => pfor_width.l1 k (up ds) best least (w : Int) (n : Int) (up ds) (ds.length : Int) (i : Int)) r
 | 0, i, n, hi, hn, h => by
  rw [List.drop_of_length_le (by omega)] at h
  apply Ev.succ
  simp only [pfor_width.l1]
  exact Ev.if_f (by omega) h
 | m + 1, i, n, hi, hn, h => by
  have hil : i < ds.length := by omega
  have hx := hd.get i hil
  rw [tailLen_drop w ds i hil] at h
  apply Ev.succ
  simp only [pfor_width.l1]
  refine Ev.if_t (by omega) (Ev.if_t (by omega) (Ev.if_t (by simp; omega) ?_))
  rw [rd_up ds i hil, inc i (by omega)]
  refine Ev.obind (high_eq hx hw) ?_
  by_cases hp : 0 < ds[i] / 2 ^ w
  ·rw [if_pos hp] at h
   have h9 := length_numEnc_le (div_lt64 hx w)
   refine Ev.if_t (by omega) (Ev.bind (psize_ev (div_lt64 hx w)) ?_)
   rw [show (1 : Int) = ((1 : Nat) : Int) from rfl, add64 1 _ (by omega), add64 n _ (by omega)]
   refine pwidth_inner hd hl best least hw r m (i + 1) _ (by omega) (by omega) ?_
   rw [← Nat.add_assoc] at h
   exact h
  ·rw [if_neg hp, Nat.zero_add] at h
   refine Ev.if_f (by omega) ?_
   exact pwidth_inner hd hl best least hw r m (i + 1) n (by omega) (by omega) h
theorem cost_small {ds : List Nat} (hd : Lt64 ds) (hl : ds.length ≤ 32) {w : Nat} (hw : w ≤ 64) : (ds.length * w + 7) / 8 ≤ 257 ∧ costOf ds w ≤ 600 := by
 have h1 := tailLen_le w ds hd
 have h2 : ds.length * w ≤ 32 * 64 := Nat.mul_le_mul hl hw
 unfold costOf
 omega
theorem pwidth_round {ds : List Nat} (hd : Lt64 ds) (hl : ds.length ≤ 32) (best least : Int) {w : Nat} (hw : w ≤ 64) (r : Int)
  (h : Ev (fun k => if least < 0 then pfor_width.l0 k (up ds) (w : Int) (costOf ds w : Int) ((w + 1 : Nat) : Int) else if (costOf ds w : Int) < least then pfor_width.l0 k (up ds) (w : Int) (costOf ds w : Int) ((w + 1 : Nat) : Int) else pfor_width.l0 k (up ds) best least ((w + 1 : Nat) : Int)) r) :
  Ev (fun k => pfor_width.l0 k (up ds) best least (w : Int)) r := by
 apply Ev.succ
 simp only [pfor_width.l0]
 refine Ev.if_t (by omega) ?_
 rw [up_length, wrap_size ds.length w hw (by omega)]
 have hs := (cost_small hd hl hw).1
 refine pwidth_inner hd hl best least hw r ds.length 0 _ (by omega) (by omega) ?_
 rw [inc w (by omega), List.drop_zero]
 exact h
theorem pwidth_loop {ds : List Nat} (hd : Lt64 ds) (hl : ds.length ≤ 32) : ∀ (m w : Nat), w + m = 64 →
  Ev (fun k => pfor_width.l0 k (up ds) (bestW (costOf ds) w : Int) (costOf ds (bestW (costOf ds) w) : Int) ((w + 1 : Nat) : Int)) (bestW (costOf ds) 64 : Int)
 | 0, w, hm => by
  obtain rfl : w = 64 := by omega
  apply Ev.succ
  simp only [pfor_width.l0]
  exact Ev.if_f (by omega) (Ev.now _)
 | m + 1, w, hm => by
  refine pwidth_round hd hl _ _ (by omega) _ ?_
  have ih := pwidth_loop hd hl m (w + 1) (by omega)
  refine Ev.if_f (by omega) ?_
  rw [bestW] at ih
  by_cases h : costOf ds (w + 1) < costOf ds (bestW (costOf ds) w)
  ·rw [if_pos h] at ih
   exact Ev.if_t (by omega) ih
  ·rw [if_neg h] at ih
   exact Ev.if_f (by omega) ih
theorem pwidth_ev {ds : List Nat} (hd : Lt64 ds) (hl : ds.length ≤ 32) : Ev (fun k => pfor_width.f k (up ds)) (bestW (costOf ds) 64 : Int) := by
 unfold pfor_width.f
 have := pwidth_round hd hl 0 (-1) (w := 0) (by omega) (bestW (costOf ds) 64 : Int) (Ev.if_t (by decide) (pwidth_loop hd hl 64 0 (by omega)))
 exact this
theorem rd_L2_nat (ls : List (List Int)) (i : Nat) (h : i < ls.length) : rd_L5 ls (i : Int) = ls[i] := by
 unfold rd_L5
 rw [Int.toNat_natCast, List.getD_eq_getElem?_getD, List.getElem?_eq_getElem h]; rfl
theorem concat_l1 (ls : List (List Int)) (hn : ls.length ≤ 1000000) : ∀ (m i : Nat) (acc : List Int), i + m = ls.length → acc.length + (ls.drop i).flatten.length < 140737488355328 →
  Ev (fun k => slices_Concat_byte_byte.l1 k acc ls (ls.length : Int) (i : Int)) (acc ++ (ls.drop i).flatten)
 | 0, i, acc, hi, hb => by
  apply Ev.succ
  simp only [slices_Concat_byte_byte.l1]
  rw [List.drop_of_length_le (by omega)]
  simp only [List.flatten_nil, List.append_nil]
  exact Ev.if_f (by omega) (Ev.now _)
 | m + 1, i, acc, hi, hb => by
  have hil : i < ls.length := by omega
  rw [List.drop_eq_getElem_cons hil, List.flatten_cons, List.length_append] at hb
  apply Ev.succ
  simp only [slices_Concat_byte_byte.l1]
  rw [rd_L2_nat ls i hil, inc i (by omega), List.drop_eq_getElem_cons hil, List.flatten_cons, ← List.append_assoc]
  refine Ev.if_t (by omega) (Ev.if_t (by omega) (Ev.if_t (by omega) (Ev.if_t (by omega) ?_)))
  exact concat_l1 ls hn m (i + 1) _ (by omega) (by rw [List.length_append]; omega)
theorem concat_l0 (ls : List (List Int)) (hn : ls.length ≤ 1000000) (hb : ls.flatten.length < 140737488355328) : ∀ (m i s : Nat), i + m = ls.length → s + (ls.drop i).flatten.length = ls.flatten.length →
  Ev (fun k => slices_Concat_byte_byte.l0 k ls (s : Int) ls (ls.length : Int) (i : Int)) ls.flatten
 | 0, i, s, hi, hs => by
  apply Ev.succ
  simp only [slices_Concat_byte_byte.l0]
  refine Ev.if_f (by omega) (Ev.obind (a := []) ?_ ?_)
  ·unfold slices_Grow_byte_byte.f
   rw [if_pos (by omega), if_pos (by simp; omega)]
  ·have := concat_l1 ls hn ls.length 0 [] (by omega) (by simpa using hb)
   simpa using this
 | m + 1, i, s, hi, hs => by
  have hil : i < ls.length := by omega
  rw [List.drop_eq_getElem_cons hil, List.flatten_cons, List.length_append] at hs
  apply Ev.succ
  simp only [slices_Concat_byte_byte.l0]
  rw [rd_L2_nat ls i hil, inc i (by omega), add64 s _ (by omega)]
  refine Ev.if_t (by omega) (Ev.if_t (by omega) (Ev.if_t (by omega) (Ev.if_f (by omega) ?_)))
  exact concat_l0 ls hn hb m (i + 1) _ (by omega) (by omega)
theorem concat_ev (ls : List (List Int)) (hn : ls.length ≤ 1000000) (hb : ls.flatten.length < 140737488355328) : Ev (fun k => slices_Concat_byte_byte.f k ls) ls.flatten := by
 unfold slices_Concat_byte_byte.f
 exact concat_l0 ls hn hb ls.length 0 0 (by omega) (by simp)
def minN : Nat → List Nat → Nat
 | m, [] => m
 | m, x :: r => minN (min m x) r
theorem minN_le : ∀ (l : List Nat) (m : Nat), minN m l ≤ m ∧ ∀ x ∈ l, minN m l ≤ x
 | [], m => ⟨Nat.le_refl _, fun x h => by cases h⟩
 | y :: r, m => by
  have ih := minN_le r (min m y)
  rw [minN]
  refine ⟨by omega, fun x hx => ?_⟩
  rcases List.mem_cons.1 hx with rfl | h
  ·omega
  ·exact ih.2 x h
theorem mn_nat (a b : Nat) : mn (a : Int) (b : Int) = ((min a b : Nat) : Int) := mn_eq a b
theorem min_loop (l : List Nat) (hn : l.length ≤ 1000000) : ∀ (m i a : Nat), i + m = l.length →
  Ev (fun k => slices_Min_uint64_uint64.l0 k (up l) (a : Int) (i : Int)) (minN a (l.drop i) : Int)
 | 0, i, a, hi => by
  apply Ev.succ
  simp only [slices_Min_uint64_uint64.l0]
  rw [List.drop_of_length_le (by omega)]
  exact Ev.if_f (by simp; omega) (Ev.now _)
 | m + 1, i, a, hi => by
  have hil : i < l.length := by omega
  apply Ev.succ
  simp only [slices_Min_uint64_uint64.l0]
  rw [rd_up l i hil, inc i (by omega), mn_nat, List.drop_eq_getElem_cons hil, minN]
  exact Ev.if_t (by simp; omega) (Ev.if_t (by omega) (min_loop l hn m (i + 1) _ (by omega)))
theorem min_ev (x : Nat) (r : List Nat) (hn : r.length ≤ 1000) : Ev (fun k => slices_Min_uint64_uint64.f k (up (x :: r))) (minN x r : Int) := by
 unfold slices_Min_uint64_uint64.f
 rw [show rd (up (x :: r)) 0 = (x : Int) from rd_up (x :: r) 0 (by simp)]
 refine Ev.if_f (by simp; omega) (Ev.if_t (by simp) ?_)
 have := min_loop (x :: r) (by simp; omega) r.length 1 x (by simp; omega)
 simpa using this
def baseOf : List Nat → Nat
 | [] => 0
 | x :: r => minN x r
def lessOf (ns : List Nat) : List Nat := ns.map fun n => n - baseOf ns
def byOf (base : Nat) (ds : List Nat) (w : Nat) : List Int := (ds.length : Int) :: (numEnc base ++ ((w : Int) :: (cntOf w ds : Int) :: (packOf w (lowOf w ds) ++ tailOf w 0 ds)))
def widthB (ns : List Nat) : Nat := bestW (costOf (lessOf ns)) 64
def blockOf (ns : List Nat) : List Int := byOf (baseOf ns) (lessOf ns) (widthB ns)
theorem length_byOf (base : Nat) (ds : List Nat) (w : Nat) : (byOf base ds w).length = 3 + (numEnc base).length + costOf ds w := by
 unfold byOf costOf
 simp only [List.length_cons, List.length_append, length_packOf, length_lowOf, length_tailOf]
 rw [Nat.mul_comm w]
 omega
theorem baseOf_le (ns : List Nat) (i : Nat) (h : i < ns.length) : baseOf ns ≤ ns[i] := by
 cases ns with
 | nil => simp at h
 | cons x r =>
  have := minN_le r x
  cases i with
  | zero => exact this.1
  | succ i => exact this.2 _ (List.getElem_mem _)
theorem baseOf_lt {ns : List Nat} (h : Lt64 ns) : baseOf ns < 2 ^ 64 := by
 cases ns with
 | nil => decide
 | cons x r => exact Nat.lt_of_le_of_lt (minN_le r x).1 (h x List.mem_cons_self)
theorem lt_lessOf {ns : List Nat} (h : Lt64 ns) : Lt64 (lessOf ns) := fun x hx => by
 obtain ⟨n, hn, rfl⟩ := List.mem_map.1 hx
 exact Nat.lt_of_le_of_lt (Nat.sub_le _ _) (h n hn)
@[simp] theorem length_lessOf (ns : List Nat) : (lessOf ns).length = ns.length := by simp [lessOf]
theorem lessOf_get (ns : List Nat) (i : Nat) (h : i < ns.length) : (lessOf ns)[i]'(by simpa using h) = ns[i] - baseOf ns := by simp [lessOf]
theorem widthB_le (ns : List Nat) : widthB ns ≤ 64 := bestW_le _ _
theorem low_bits (d w : Nat) (hd : d < 2 ^ 64) (hw : w ≤ 64) : Go.bits .andNot .u64 (d : Int) (shl .u64 ((d / 2 ^ w : Nat) : Int) (w : Int)) = ((d % 2 ^ w : Nat) : Int) := by
 have hle : d / 2 ^ w * 2 ^ w ≤ d := Nat.div_mul_le_self _ _
 rw [shl_u64 _ _ hw, show (((d / 2 ^ w : Nat) : Int) * 2 ^ w) = ((d / 2 ^ w * 2 ^ w : Nat) : Int) by simp, wu64 (by omega) (by omega), u64_andNot_nat d _ (by omega) (by omega)]
 congr 1
 apply Nat.eq_of_testBit_eq
 intro i
 rw [Nat.testBit_and, show 18446744073709551615 - d / 2 ^ w * 2 ^ w = 2 ^ 64 - (d / 2 ^ w * 2 ^ w + 1) by omega, Nat.testBit_two_pow_sub_succ (by omega), Nat.testBit_mod_two_pow, Nat.testBit_mul_two_pow, Nat.testBit_div_two_pow]
 by_cases hi : i < w
 ·simp [hi, show ¬ w ≤ i by omega]; omega
 ·by_cases hb : d.testBit i = true
  ·have : i < 64 := by
    rcases Nat.lt_or_ge i 64 with h | h
    ·exact h
    ·rw [Nat.testBit_lt_two_pow (Nat.lt_of_lt_of_le hd (Nat.pow_le_pow_right (by decide) h))] at hb; exact absurd hb (by decide)
   simp [hi, show w ≤ i by omega, hb, show i - w + w = i by omega]
  ·simp [hi, hb]
end Go.Proofs.YtcjkmmajokkkfaaQ
end
section
namespace Go.Proofs.YtcjkmmajokkkfaaQ
open Go.RowKit Go.Proofs.YtcjkmmajokkkfaaW.PrintWords Go.Proofs.YtcjkmmajokkkfaaW.PrintMore Go.Proofs.YtcjkmmajokkkfaaW.PrintLast Go.Proofs.Ytcjkmmajokkkfaa.P
theorem byte_nat (n : Nat) (h : n ≤ 255) : ((n : Int)) % 256 = (n : Int) := by omega
theorem blockCost_small {ns : List Nat} (h : Lt64 ns) (hl : ns.length ≤ 32) {w : Nat} (hw : w ≤ 64) : costOf (lessOf ns) w ≤ 600 := (cost_small (lt_lessOf h) (by simpa using hl) hw).2
theorem length_blockOf_le {ns : List Nat} (h : Lt64 ns) (hl : ns.length ≤ 32) : (blockOf ns).length ≤ 700 := by
 have h1 := blockCost_small h hl (widthB_le ns)
 have h2 := length_numEnc_le (baseOf_lt h)
 unfold blockOf
 rw [length_byOf]
 omega
theorem put_l1 (b : List Int) (hb : b.length ≤ 140737488352000) (l1 : List Int) (ln : Nat) (hln : l1.length = ln) (h32 : ln ≤ 32) (base : Nat) (hbase : base < 2 ^ 64) {ds : List Nat} (hd : Lt64 ds) (hl : ds.length = ln) {w : Nat} (hw : w ≤ 64) : ∀ (m i : Nat), i + m = ds.length →
    Ev (fun k => pfor_PutBlock.l1 k b l1 (base : Int) (w : Int) (tailOf w 0 (ds.take i)) (cntOf w (ds.take i) : Int) (fill (lowOf w ds) i) (up ds) (ds.length : Int) (i : Int)) (b ++ byOf base ds w, 0)
  | 0, i, hi => by
    obtain rfl : i = ds.length := by omega
    have hk := cntOf_le w ds
    have hs := cost_small hd (by omega) hw
    have ht := tailLen_le w ds hd
    have h9 := length_numEnc_le hbase
    apply Ev.succ
    simp only [pfor_PutBlock.l1]
    rw [List.take_length, show fill (lowOf w ds) ds.length = lowOf w ds by rw [← length_lowOf w ds]; exact fill_all _]
    refine Ev.if_f (by omega) (Ev.bind (pack_ok (u64_lowOf hd w) (by rw [length_lowOf]; omega) hw (fit_lowOf w ds)) (Ev.if_t rfl (Ev.obind (clone8 (by omega)) (Ev.if_t (by omega) ?_))))
    rw [hln, ← hl, byte_nat _ (by omega), byte_nat w (by omega), byte_nat (cntOf w ds) (by omega)]
    refine Ev.bind (put_ev (b ++ [(ds.length : Int)]) (by simp; omega) hbase) ?_
    simp only [Option.bind_some]
    refine Ev.if_t (by simp only [List.length_append, List.length_cons, List.length_nil]; omega) ?_
    have e : [b ++ [(ds.length : Int)] ++ numEnc base ++ [(w : Int), (cntOf w ds : Int)], packOf w (lowOf w ds), tailOf w 0 ds].flatten = b ++ byOf base ds w := by
      unfold byOf
      simp
    have hc := concat_ev [b ++ [(ds.length : Int)] ++ numEnc base ++ [(w : Int), (cntOf w ds : Int)], packOf w (lowOf w ds), tailOf w 0 ds] (by simp) (by
      rw [e, List.length_append, length_byOf]; omega)
    rw [e] at hc
    exact Ev.bind hc (Ev.now _)
  | m + 1, i, hi => by
    have hil : i < ds.length := by omega
    have hx := hd.get i hil
    have hk := cntOf_le w (ds.take i)
    have ht := tailLen_le w (ds.take i) (hd.take i)
    rw [List.length_take] at hk ht
    have ih := put_l1 b hb l1 ln hln h32 base hbase hd hl hw m (i + 1) (by omega)
    rw [tailOf_snoc w ds i hil, cntOf_snoc w ds i hil, ← fill_set _ i (by rw [length_lowOf]; exact hil), lowOf_get w ds i hil] at ih
    apply Ev.succ
    simp only [pfor_PutBlock.l1]
    rw [rd_up ds i hil, inc i (by omega), Int.toNat_natCast, fill_length _ _ (by rw [length_lowOf]; omega), length_lowOf, up_length]
    refine Ev.if_t (by omega) (Ev.if_t (by omega) (Ev.if_t (by omega) (Ev.obind (high_eq hx hw) (Ev.if_t (by omega) ?_))))
    simp only [Option.bind_some]
    by_cases hp : 0 < ds[i] / 2 ^ w
    · rw [if_pos hp, if_pos hp] at ih
      refine Ev.if_t (by omega) (Ev.if_t (by omega) (Ev.if_t (by rw [length_tailOf]; omega) ?_))
      rw [byte_nat i (by omega), inc (cntOf w (ds.take i)) (by omega), low_bits _ w hx hw, List.set_set]
      refine Ev.bind (put_ev _ (by rw [List.length_append, length_tailOf]; simp; omega) (div_lt64 hx w)) ?_
      rw [List.append_assoc]
      exact ih
    · rw [if_neg hp, if_neg hp, List.append_nil, Nat.add_zero] at ih
      refine Ev.if_f (by omega) ?_
      have : ds[i] % 2 ^ w = ds[i] := by
        have h1 := Nat.mod_add_div ds[i] (2 ^ w)
        rw [Nat.eq_zero_of_not_pos hp, Nat.mul_zero] at h1
        exact h1
      rw [this] at ih
      exact ih
theorem put_l0 (b : List Int) (hb : b.length ≤ 140737488352000) {ns : List Nat} (hn : Lt64 ns) (h32 : ns.length ≤ 32) : ∀ (m i : Nat), i + m = ns.length →
  Ev (fun k => pfor_PutBlock.l0 k b (up ns) (baseOf ns : Int) (fill (up (lessOf ns)) i) (up ns) (ns.length : Int) (i : Int)) (b ++ blockOf ns, 0)
 | 0, i, hi => by
  obtain rfl : i = ns.length := by omega
  apply Ev.succ
  simp only [pfor_PutBlock.l0]
  have ef : fill (up (lessOf ns)) ns.length = up (lessOf ns) := by
   have := fill_all (up (lessOf ns))
   rwa [up_length, length_lessOf] at this
  rw [ef]
  refine Ev.if_f (by omega) (Ev.bind (pwidth_ev (lt_lessOf hn) (by simpa using h32)) (Ev.if_t (by omega) (Ev.if_t (by simp; omega) ?_)))
  have := put_l1 b hb (up ns) ns.length (up_length ns) h32 (baseOf ns) (baseOf_lt hn) (lt_lessOf hn) (length_lessOf ns) (widthB_le ns) (lessOf ns).length 0 (by omega)
  rw [fill_zero, length_lowOf, length_lessOf] at this
  simp only [up_length, Int.toNat_natCast, length_lessOf]
  exact this
 | m + 1, i, hi => by
  have hil : i < ns.length := by omega
  have hx := hn.get i hil
  have hle := baseOf_le ns i hil
  have ih := put_l0 b hb hn h32 m (i + 1) (by omega)
  rw [← fill_set _ i (by simpa using hil), up_get (lessOf ns) i (by simpa using hil), lessOf_get ns i hil] at ih
  apply Ev.succ
  simp only [pfor_PutBlock.l0]
  rw [rd_up ns i hil, inc i (by omega), Int.toNat_natCast, fill_length _ _ (by simp; omega), wu64 (by omega) (by omega), show (ns[i] : Int) - (baseOf ns : Int) = ((ns[i] - baseOf ns : Nat) : Int) by omega]
  exact Ev.if_t (by omega) (Ev.if_t (by omega) (Ev.if_t (by simpa using hil) (Ev.if_t (by simpa using hil) ih)))
theorem putBlock_ok (b : List Int) (hb : b.length ≤ 140737488352000) {ns : List Nat} (hn : Lt64 ns) (h1 : 1 ≤ ns.length) (h32 : ns.length ≤ 32) : Ev (fun k => pfor_PutBlock.f k b (up ns)) (b ++ blockOf ns, 0) := by
 unfold pfor_PutBlock.f
 refine Ev.if_f (by simp; omega) ?_
 rw [decide_eq_false (by simp; omega)]
 apply Ev.succ
 simp only [pfor_PutBlock.j0]
 refine Ev.if_f (by decide) ?_
 cases ns with
 | nil => simp at h1
 | cons x r =>
  refine Ev.bind (min_ev x r (by simp at h32; omega)) (Ev.if_t (by omega) (Ev.if_t (by simp at h32 ⊢; omega) ?_))
  have := put_l0 b hb hn h32 (x :: r).length 0 (by omega)
  rw [fill_zero] at this
  simp only [up_length, length_lessOf, Int.toNat_natCast] at this ⊢
  exact this
theorem in_tailOf (w : Nat) : ∀ (ds : List Nat) (i : Nat), Lt64 ds → i + ds.length ≤ 255 → B8 (tailOf w i ds)
 | [], i, _, _ => In.nil _
 | d :: ds, i, h, hi => by
  rw [List.length_cons] at hi
  rw [tailOf]
  refine In.append ?_ (in_tailOf w ds (i + 1) (fun x hx => h x (List.mem_cons_of_mem _ hx)) (by omega))
  split
  ·exact In.mk_cons (by omega) (in_numEnc (div_lt64 (h d List.mem_cons_self) w))
  ·exact In.nil _
theorem in_byOf {base : Nat} (hb : base < 2 ^ 64) {ds : List Nat} (hd : Lt64 ds) (h32 : ds.length ≤ 32) {w : Nat} (hw : w ≤ 64) : B8 (byOf base ds w) := by
 have hk := cntOf_le w ds
 exact In.mk_cons (by omega) (In.append (in_numEnc hb) (In.mk_cons (by omega) (In.mk_cons (by omega) (In.append (in_packOf _ _) (in_tailOf w ds 0 hd (by omega))))))
theorem in_blockOf {ns : List Nat} (hn : Lt64 ns) (h32 : ns.length ≤ 32) : B8 (blockOf ns) := in_byOf (baseOf_lt hn) (lt_lessOf hn) (by simpa using h32) (widthB_le ns)
end Go.Proofs.YtcjkmmajokkkfaaQ
end
section
namespace Go.Proofs.YtcjkmmajokkkfaaQ
open Go.RowKit Go.Proofs.YtcjkmmajokkkfaaW.PrintWords Go.Proofs.YtcjkmmajokkkfaaW.PrintMore Go.Proofs.YtcjkmmajokkkfaaW.PrintLast Go.Proofs.Ytcjkmmajokkkfaa.P
def blocksF : Nat → List Nat → List Int
 | 0, _ => []
 | m + 1, ns => if ns.length = 0 then [] else blockOf (ns.take 32) ++ blocksF m (ns.drop 32)
def listOf (m : Nat) (ns : List Nat) : List Int := numEnc ns.length ++ blocksF m ns
theorem putList_l0 : ∀ (m : Nat) (ns : List Nat) (out : List Int), Lt64 ns → ns.length ≤ 32 * m → out.length + 700 * ns.length ≤ 140737488352000 → Ev (fun k => pfor_PutList.l0 k out (up ns)) (out ++ blocksF m ns)
 | 0, ns, out, h, hm, hb => by
  apply Ev.succ
  simp only [pfor_PutList.l0]
  refine Ev.if_t (by rw [up_length]; omega) ?_
  rw [blocksF, List.append_nil]
  exact Ev.now _
 | m + 1, ns, out, h, hm, hb => by
  apply Ev.succ
  simp only [pfor_PutList.l0]
  rw [blocksF]
  by_cases h0 : ns.length = 0
  ·rw [if_pos h0, List.append_nil]
   exact Ev.if_t (by rw [up_length]; omega) (Ev.now _)
  ·rw [if_neg h0]
   have h1 := length_blockOf_le (h.take 32) (by rw [List.length_take]; omega)
   refine Ev.if_f (by rw [up_length]; omega) ?_
   rw [up_take, up_drop]
   refine Ev.bind (putBlock_ok out (by omega) (h.take 32) (by rw [List.length_take]; omega) (by rw [List.length_take]; omega)) ?_
   have ih := putList_l0 m (ns.drop 32) (out ++ blockOf (ns.take 32)) (h.drop 32) (by rw [List.length_drop]; omega) (by rw [List.length_append, List.length_drop]; omega)
   rw [List.append_assoc] at ih
   exact ih
theorem putList_ok (b : List Int) (hB : B8 b) {ns : List Nat} (h : Lt64 ns) (hb : b.length + 2000 + 1000 * ns.length ≤ 140737488350000) : pfor_PutList.Ok b (up ns) := by
 refine ⟨hB, by rw [up_length]; omega, fun acc ha hal j hj => ?_⟩
 rw [up_length] at hal hj
 have hc1 : 1 ≤ ((ns.drop (32 * j)).take 32).length := by simp; omega
 have hc2 : ((ns.drop (32 * j)).take 32).length ≤ 32 := by simp; omega
 have hc3 : Lt64 ((ns.drop (32 * j)).take 32) := (h.drop _).take _
 obtain ⟨k, hk⟩ := (putBlock_ok acc (by omega) hc3 hc1 hc2).rounds
 refine ⟨k, (acc ++ blockOf ((ns.drop (32 * j)).take 32), 0), ?_, ?_, ?_⟩
 ·rw [up_drop, up_take]; exact hk
 ·exact In.append ha (in_blockOf hc3 hc2)
 ·have := length_blockOf_le hc3 hc2
  simp only [List.length_append]
  omega
theorem putList_ev (b : List Int) (hB : B8 b) {ns : List Nat} (h : Lt64 ns) {m : Nat} (hm : ns.length ≤ 32 * m) (hb : b.length + 2000 + 1000 * ns.length ≤ 140737488350000) : Ev (fun k => pfor_PutList.f k b (up ns)) (b ++ listOf m ns) := by
 have hl : ns.length < 2 ^ 64 := by omega
 have h9 := length_numEnc_le hl
 refine Ev.fn (f := fun k => (num_Put.f k b ((up ns).length : Int)).bind fun t => if (∀ x ∈ t, 0 ≤ x ∧ x ≤ 255) ∧ t.length ≤ b.length + 1000 then pfor_PutList.l0 k t (up ns) else none) ?_ (fun k => ?_)
 ·rw [up_length]
  refine Ev.bind (put_ev b (by omega) hl) (Ev.if_t ⟨In.append hB (in_numEnc hl), by rw [List.length_append]; omega⟩ ?_)
  have := putList_l0 m ns (b ++ numEnc ns.length) h hm (by rw [List.length_append]; omega)
  rw [List.append_assoc] at this
  exact this
 ·unfold pfor_PutList.f
  rw [if_pos (putList_ok b hB h hb)]
end Go.Proofs.YtcjkmmajokkkfaaQ
end
section
namespace Go.Proofs.YtcjkmmajokkkfaaQ
open Go.RowKit Go.Proofs.YtcjkmmajokkkfaaW.PrintWords Go.Proofs.YtcjkmmajokkkfaaW.PrintMore Go.Proofs.YtcjkmmajokkkfaaW.PrintLast Go.Proofs.Ytcjkmmajokkkfaa.P
def I64 (l : List Int) : Prop := ∀ x ∈ l, -9223372036854775808 ≤ x ∧ x ≤ 9223372036854775807
theorem I64.get {l : List Int} (h : I64 l) (i : Nat) (hi : i < l.length) : -9223372036854775808 ≤ l[i] ∧ l[i] ≤ 9223372036854775807 := h _ (List.getElem_mem hi)
def foldN (l : List Int) : List Nat := l.map fun x => (foldOf x).toNat
def unfoldN (ns : List Nat) : List Int := ns.map fun (n : Nat) => unfoldOf (n : Int)
@[simp] theorem foldN_length (l : List Int) : (foldN l).length = l.length := by simp [foldN]
@[simp] theorem unfoldN_length (l : List Nat) : (unfoldN l).length = l.length := by simp [unfoldN]
theorem foldN_get (l : List Int) (h : I64 l) (i : Nat) (hi : i < l.length) : (((foldN l)[i]'(by simpa using hi) : Nat) : Int) = foldOf l[i] := by
 have := foldOf_range l[i] (h.get i hi).1 (h.get i hi).2
 simp [foldN]
 omega
theorem lt_foldN {l : List Int} (h : I64 l) : Lt64 (foldN l) := fun x hx => by
 obtain ⟨y, hy, rfl⟩ := List.mem_map.1 hx
 have := foldOf_range y (h y hy).1 (h y hy).2
 omega
theorem putInts_l0 (b : List Int) (hB : B8 b) {l : List Int} (h : I64 l) {m : Nat} (hm : l.length ≤ 32 * m) (hb : b.length + 2000 + 1000 * l.length ≤ 140737488350000) : ∀ (d i : Nat), i + d = l.length →
  Ev (fun k => pfor_PutInts.l0 k b (fill (up (foldN l)) i) l (l.length : Int) (i : Int)) (b ++ listOf m (foldN l))
 | 0, i, hi => by
  obtain rfl : i = l.length := by omega
  apply Ev.succ
  simp only [pfor_PutInts.l0]
  have e : fill (up (foldN l)) l.length = up (foldN l) := by
   have := fill_all (up (foldN l))
   rwa [up_length, foldN_length] at this
  rw [e]
  refine Ev.if_f (by omega) (Ev.bind (putList_ev b hB (lt_foldN h) (m := m) (by simpa using hm) (by simpa using hb)) (Ev.now _))
 | d + 1, i, hi => by
  have hil : i < l.length := by omega
  have hx := h.get i hil
  have ih := putInts_l0 b hB h hm hb d (i + 1) (by omega)
  rw [← fill_set _ i (by simpa using hil), up_get (foldN l) i (by simpa using hil), foldN_get l h i hil] at ih
  apply Ev.succ
  simp only [pfor_PutInts.l0]
  rw [rd_nat l i hil, inc i (by omega), Int.toNat_natCast, fill_length _ _ (by simp; omega)]
  exact Ev.if_t (by omega) (Ev.if_t (by omega) (Ev.if_t (by omega) (Ev.obind (fold_eq _ hx.1 hx.2) (Ev.if_t (by simpa using hil) ih))))
theorem putInts_ev (b : List Int) (hB : B8 b) {l : List Int} (h : I64 l) {m : Nat} (hm : l.length ≤ 32 * m) (hb : b.length + 2000 + 1000 * l.length ≤ 140737488350000) : Ev (fun k => pfor_PutInts.f k b l) (b ++ listOf m (foldN l)) := by
 unfold pfor_PutInts.f
 refine Ev.if_t (by omega) (Ev.if_t (by omega) ?_)
 have := putInts_l0 b hB h hm hb l.length 0 (by omega)
 rw [fill_zero] at this
 simp only [up_length, foldN_length, Int.toNat_natCast] at this ⊢
 exact this
end Go.Proofs.YtcjkmmajokkkfaaQ
end
section
namespace Go.Proofs.YtcjkmmajokkkfaaQ
open Go.RowKit Go.Proofs.YtcjkmmajokkkfaaW.PrintWords Go.Proofs.YtcjkmmajokkkfaaW.PrintMore Go.Proofs.YtcjkmmajokkkfaaW.PrintLast Go.Proofs.Ytcjkmmajokkkfaa.P
def hasL (l : List S42) : List Int := l.map (fun c => if c.f0 = true then 1 else 0)
def numsL (l : List S42) : List Int := (l.filter (·.f0)).map (·.f1)
def Cells (l : List S42) : Prop := ∀ c ∈ l, -9223372036854775808 ≤ c.f1 ∧ c.f1 ≤ 9223372036854775807
theorem hasL_length (l : List S42) : (hasL l).length = l.length := by simp [hasL]
theorem hasL_u64 (l : List S42) : U64 (hasL l) := by
 intro x hx
 obtain ⟨c, _, rfl⟩ := List.mem_map.1 hx
 split <;> omega
theorem hasL_fit (l : List S42) : Fit 1 (hasL l) := by
 intro x hx
 obtain ⟨c, _, rfl⟩ := List.mem_map.1 hx
 split <;> simp
theorem numsL_i64 {l : List S42} (h : Cells l) : I64 (numsL l) := by
 intro x hx
 obtain ⟨c, hc, rfl⟩ := List.mem_map.1 hx
 exact h c (List.mem_filter.1 hc).1
theorem numsL_length (l : List S42) : (numsL l).length ≤ l.length := by
 unfold numsL
 rw [List.length_map]
 exact List.length_filter_le _ _
theorem hasL_snoc (l : List S42) (c : S42) : hasL (l ++ [c]) = hasL l ++ [if c.f0 = true then 1 else 0] := by simp [hasL]
theorem numsL_snoc (l : List S42) (c : S42) : numsL (l ++ [c]) = numsL l ++ (if c.f0 = true then [c.f1] else []) := by
 unfold numsL
 rw [List.filter_append, List.map_append]
 cases h : c.f0 <;> simp [h]
def bytesL (l : List S42) : List Int := numEnc l.length ++ packOf 1 (hasL l) ++ listOf 4096 (foldN (numsL l))
theorem lay_end (b : List Int) (hB : B8 b) {l : List S42} (hc : Cells l) (hl : l.length ≤ 4096) (hb : b.length + 20000 + 1000 * l.length ≤ 140737488350000) :
  Ev (fun k => (bits_Pack.f k (hasL l) 1).bind fun bt => if bt.2 = 0 then (num_Put.f k b (IntKind.u64.wrap (l.length : Int))).bind fun t => if t.length + bt.1.length < 140737488355328 then (pfor_PutInts.f k (t ++ bt.1) (numsL l)).bind fun u => some (u, (0 : Int)) else none else some (([] : List Int), bt.2)) (b ++ bytesL l, 0) := by
 have h1 := pack_ok (hasL_u64 l) (by rw [hasL_length]; omega) (show 1 ≤ 64 by decide) (hasL_fit l)
 have e1 : IntKind.u64.wrap (l.length : Int) = ((l.length : Nat) : Int) := by
  simp only [IntKind.wrap, IntKind.bits, IntKind.signed, Bool.false_and, Bool.false_eq_true, if_false]
  omega
 have hv : l.length < 2 ^ 64 := by omega
 have h2 := put_ev b (by omega) hv
 have h3 := length_numEnc_le hv
 have h4 := length_packOf 1 (hasL l)
 rw [hasL_length] at h4
 have hn := numsL_length l
 have hB2 : B8 (b ++ numEnc l.length ++ packOf 1 (hasL l)) := In.append (In.append hB (in_numEnc hv)) (in_packOf _ _)
 have h5 := putInts_ev _ hB2 (numsL_i64 hc) (m := 4096) (by omega) (by simp only [List.length_append]; omega)
 refine Ev.bind (a := (packOf 1 (hasL l), (0 : Int))) (by exact_mod_cast h1) (Ev.if_t rfl ?_)
 rw [e1]
 refine Ev.bind h2 (Ev.if_t (by simp only [List.length_append]; omega) (Ev.bind h5 ?_))
 rw [show b ++ bytesL l = b ++ numEnc l.length ++ packOf 1 (hasL l) ++ listOf 4096 (foldN (numsL l)) by simp [bytesL, List.append_assoc]]
 exact Ev.now _
theorem lay_l0 (b : List Int) (hB : B8 b) {l : List S42} (hc : Cells l) (hl : l.length ≤ 4096) (hb : b.length + 20000 + 1000 * l.length ≤ 140737488350000) :
  ∀ (d i : Nat) (x n : List Int), i + d = l.length → x = hasL (l.take i) ++ List.replicate (l.length - i) 0 → n = numsL (l.take i) → Ev (fun k => ints_Put.l0 k b l x n l (l.length : Int) (i : Int)) (b ++ bytesL l, 0)
 | 0, i, x, n, hi, hx, hn => by
  apply Ev.succ
  simp only [ints_Put.l0]
  refine Ev.if_f (by omega) ?_
  have e : l.take i = l := List.take_of_length_le (by omega)
  rw [e, show l.length - i = 0 by omega] at hx
  rw [e] at hn
  simp only [List.replicate_zero, List.append_nil] at hx
  rw [hx, hn]
  exact lay_end b hB hc hl hb
 | d + 1, i, x, n, hi, hx, hn => by
  have hlt : i < l.length := by omega
  have hti : (l.take i).length = i := by rw [List.length_take]; omega
  have hxl : x.length = l.length := by rw [hx, List.length_append, hasL_length, hti, List.length_replicate]; omega
  have hnl := numsL_length (l.take i)
  rw [← hn] at hnl
  apply Ev.succ
  simp only [ints_Put.l0]
  rw [rd42 l i hlt, w64i (x := (i : Int) + 1) (by omega) (by omega), Int.toNat_natCast]
  refine Ev.if_t (by omega) (Ev.if_t (by omega) (Ev.if_t (by omega) ?_))
  have er : l.length - i = (l.length - (i + 1)) + 1 := by omega
  by_cases h : l[i].f0 = true
  ·refine Ev.if_t h (Ev.if_t (by omega) (Ev.if_t (by omega) (lay_l0 b hB hc hl hb d (i + 1) _ _ (by omega) ?_ ?_)))
   ·rw [take_snoc l i hlt, hasL_snoc, if_pos h, hx, er, List.replicate_succ, List.set_append_right _ _ (by rw [hasL_length, hti]; omega), hasL_length, hti, Nat.sub_self, List.set_cons_zero, List.append_assoc]
    rfl
   ·rw [take_snoc l i hlt, numsL_snoc, if_pos h, hn]
  ·refine Ev.if_f h (lay_l0 b hB hc hl hb d (i + 1) _ _ (by omega) ?_ ?_)
   ·rw [take_snoc l i hlt, hasL_snoc, if_neg h, hx, er, List.replicate_succ, List.append_assoc]
    rfl
   ·rw [take_snoc l i hlt, numsL_snoc, if_neg h, List.append_nil, hn]
theorem lay_ev (b : List Int) (hB : B8 b) {l : List S42} (hc : Cells l) (hb : formedOf l = true → b.length + 20000 + 1000 * l.length ≤ 140737488350000) : Ev (fun k => ints_Put.f k b l) (if formedOf l = true then (b ++ bytesL l, 0) else ([], 1)) := by
 unfold ints_Put.f
 refine Ev.bind (formed_ev l) ?_
 cases h : formedOf l with
 | true =>
  have hl := formed_len h
  refine Ev.if_t rfl (Ev.if_t (by omega) (Ev.if_t (by omega) ?_))
  rw [if_pos rfl, Int.toNat_natCast]
  exact lay_l0 b hB hc hl (hb h) l.length 0 _ _ (by omega) (by simp [hasL]) (by simp [numsL])
 | false =>
  refine Ev.if_f (by decide) ?_
  rw [if_neg (by decide)]
  exact Ev.now _
theorem same09 (a b : List Int) (hn : a.length ≤ 9223372036854775000) : Ev (fun k => dragnetref09_Ints.f k a b) (decide (a = b)) := by
 have loop : ∀ (hl : a.length = b.length) (d i : Nat), i + d = a.length → Ev (fun k => dragnetref09_Ints.l0 k a b (i : Int)) (decide (a.drop i = b.drop i)) := by
  intro hl d
  induction d with
  | zero =>
   intro i hi
   apply Ev.succ
   simp only [dragnetref09_Ints.l0]
   rw [List.drop_eq_nil_of_le (by omega), List.drop_eq_nil_of_le (by omega)]
   exact Ev.if_f (by omega) (Ev.now _)
  | succ d ih =>
   intro i hi
   have h1 : i < a.length := by omega
   have h2 : i < b.length := by omega
   have hr : ∀ (l : List Int) (h : i < l.length), rd l (i : Int) = l[i] := fun l h => by simp [rd, h]
   apply Ev.succ
   simp only [dragnetref09_Ints.l0]
   rw [hr a h1, hr b h2, w64i (x := (i : Int) + 1) (by omega) (by omega), List.drop_eq_getElem_cons h1, List.drop_eq_getElem_cons h2]
   refine Ev.if_t (by omega) (Ev.if_t (by omega) (Ev.if_t (by omega) ?_))
   by_cases h : a[i] = b[i]
   ·refine Ev.if_t h ?_
    have := ih (i + 1) (by omega)
    rw [h]
    simp only [List.cons.injEq, true_and]
    exact this
   ·refine Ev.if_f h ?_
    simp only [List.cons.injEq, h, false_and, decide_false]
    exact Ev.now _
 unfold dragnetref09_Ints.f
 by_cases hl : a.length = b.length
 ·exact Ev.if_t (by omega) (by simpa using loop hl a.length 0 (by omega))
 ·refine Ev.if_f (by omega) ?_
  rw [decide_eq_false (fun h => hl (by rw [h]))]
  exact Ev.now _
theorem below_ev (l : List S42) (n : Int) : Ev (fun k => ints_Below.f k l n) (if formedOf l = true then gransOf (fun c => c.f0 && decide (c.f1 < n)) l else []) := by
 unfold ints_Below.f
 refine Ev.bind (zones_ev l) ?_
 unfold zonesOf
 cases h : formedOf l with
 | true =>
  have hl := formed_len h
  have ha := all_length l
  rw [if_pos rfl, if_pos rfl, where_grans _ _ l (fun ch => zone_below ch n)]
  exact Ev.if_t (by omega) (Ev.now _)
 | false =>
  simp only [Bool.false_eq_true, if_false]
  exact Ev.if_t (by simp) (Ev.now _)
theorem above_ev (l : List S42) (n : Int) : Ev (fun k => ints_Above.f k l n) (if formedOf l = true then gransOf (fun c => c.f0 && decide (c.f1 > n)) l else []) := by
 unfold ints_Above.f
 refine Ev.bind (zones_ev l) ?_
 unfold zonesOf
 cases h : formedOf l with
 | true =>
  have hl := formed_len h
  have ha := all_length l
  rw [if_pos rfl, if_pos rfl, where_grans _ _ l (fun ch => zone_above ch n)]
  exact Ev.if_t (by omega) (Ev.now _)
 | false =>
  simp only [Bool.false_eq_true, if_false]
  exact Ev.if_t (by simp) (Ev.now _)
theorem alive10 : Ev (fun k => dragnetlaw10_alive.f k) true := by
 unfold dragnetlaw10_alive.f
 have hc : Cells [(⟨true, 5⟩ : S42), (⟨false, 0⟩ : S42), (⟨true, 7⟩ : S42)] := by intro c hc; simp at hc; rcases hc with rfl | rfl | rfl <;> decide
 have hl := lay_ev [] (fun x hx => by cases hx) hc (fun _ => by decide)
 rw [if_pos (by decide)] at hl
 refine Ev.obind rfl (Ev.bind hl (Ev.if_t rfl ?_))
 have hv : ([] : List Int) ++ bytesL [(⟨true, 5⟩ : S42), (⟨false, 0⟩ : S42), (⟨true, 7⟩ : S42)] = [3, 5, 2, 2, 10, 3, 0, 32] := by decide +kernel
 rw [hv]
 have h1 := below_ev [(⟨true, 5⟩ : S42), (⟨false, 0⟩ : S42), (⟨true, 7⟩ : S42)] 6
 have h2 := above_ev [(⟨true, 5⟩ : S42), (⟨false, 0⟩ : S42), (⟨true, 7⟩ : S42)] 7
 rw [if_pos (by decide)] at h1 h2
 rw [show gransOf (fun c => c.f0 && decide (c.f1 < 6)) [(⟨true, 5⟩ : S42), (⟨false, 0⟩ : S42), (⟨true, 7⟩ : S42)] = [0] by decide] at h1
 rw [show gransOf (fun c => c.f0 && decide (c.f1 > 7)) [(⟨true, 5⟩ : S42), (⟨false, 0⟩ : S42), (⟨true, 7⟩ : S42)] = [] by decide] at h2
 refine Ev.if_t (by decide) (Ev.if_t (by decide) (Ev.if_t (by decide) (Ev.if_t (by decide) (Ev.if_t (by decide) (Ev.bind h1 (Ev.bind (same09 [0] [0] (by decide)) (Ev.if_t (by decide) (Ev.bind h2 (Ev.now _)))))))))
end Go.Proofs.YtcjkmmajokkkfaaQ
end
section
namespace Go.Proofs.Ytcjkmmajokkkfaa.P
open Go.RowKit Go.Proofs.YtcjkmmajokkkfaaW.PrintWords Go.Proofs.YtcjkmmajokkkfaaW.PrintLast Go.Proofs.YtcjkmmajokkkfaaW.PrintMore Go.Proofs.YtcjkmmajokkkfaaQ
attribute [local go_sem] max2_int min2_int max_two min_two max_three min_three max_four min_four
set_option linter.unusedVariables false
set_option linter.unusedSimpArgs false
theorem zone_none (l : List S42) : (ints_Zones.zone l).f0 = false → ints_Zones.zone l = ⟨false, 0, 0⟩ := by
 refine snoc_ind (P := fun l => (ints_Zones.zone l).f0 = false → ints_Zones.zone l = ⟨false, 0, 0⟩) (fun _ => rfl) (fun l c ih => ?_) l
 rw [zone_snoc]
 unfold ints_Zones.step
 cases hc : c.f0 with
 | false => rw [if_pos rfl]; exact ih
 | true =>
  rw [if_neg (by decide)]
  split <;> (intro h; cases h)
theorem zone_mem (l : List S42) : ∀ c ∈ l, c.f0 = true → (ints_Zones.zone l).f0 = true ∧ (ints_Zones.zone l).f1 ≤ c.f1 ∧ c.f1 ≤ (ints_Zones.zone l).f2 := by
 refine snoc_ind (P := fun l => ∀ c ∈ l, c.f0 = true → (ints_Zones.zone l).f0 = true ∧ (ints_Zones.zone l).f1 ≤ c.f1 ∧ c.f1 ≤ (ints_Zones.zone l).f2) (fun c hc => by cases hc) (fun l d ih => ?_) l
 intro c hc h0
 rw [zone_snoc]
 unfold ints_Zones.step
 rcases List.mem_append.1 hc with hc | hc
 ·obtain ⟨h1, h2, h3⟩ := ih c hc h0
  cases hd : d.f0 with
  | false => rw [if_pos rfl]; exact ⟨h1, h2, h3⟩
  | true =>
   rw [if_neg (by decide), if_neg (by rw [h1]; decide)]
   refine ⟨rfl, ?_, ?_⟩
   ·show mn _ _ ≤ _
    unfold mn; split <;> omega
   ·show _ ≤ mx _ _
    unfold mx; split <;> omega
 ·obtain rfl : c = d := by simpa using hc
  rw [if_neg (by rw [h0]; decide)]
  split
  ·exact ⟨rfl, Int.le_refl _, Int.le_refl _⟩
  ·refine ⟨rfl, ?_, ?_⟩
   ·show mn _ _ ≤ _
    unfold mn; split <;> omega
   ·show _ ≤ mx _ _
    unfold mx; split <;> omega
theorem zone_ends (l : List S42) : (ints_Zones.zone l).f0 = true → l.any (fun c => c.f0 && c.f1 == (ints_Zones.zone l).f1) = true ∧ l.any (fun c => c.f0 && c.f1 == (ints_Zones.zone l).f2) = true := by
 refine snoc_ind (P := fun l => (ints_Zones.zone l).f0 = true → l.any (fun c => c.f0 && c.f1 == (ints_Zones.zone l).f1) = true ∧ l.any (fun c => c.f0 && c.f1 == (ints_Zones.zone l).f2) = true) (fun h => by cases h) (fun l d ih => ?_) l
 rw [zone_snoc]
 unfold ints_Zones.step
 cases hd : d.f0 with
 | false =>
  rw [if_pos rfl]
  intro h
  obtain ⟨h1, h2⟩ := ih h
  rw [List.any_append, List.any_append, h1, h2]
  exact ⟨rfl, rfl⟩
 | true =>
  rw [if_neg (by decide)]
  split
  ·intro _
   simp [List.any_append, hd]
  ·next h0 =>
   intro _
   obtain ⟨h1, h2⟩ := ih (by simpa using h0)
   rw [List.any_append, List.any_append]
   constructor
   ·show (l.any (fun c => c.f0 && c.f1 == mn _ _) || _) = true
    unfold mn
    split
    ·simp [hd]
    ·rw [h1]; rfl
   ·show (l.any (fun c => c.f0 && c.f1 == mx _ _) || _) = true
    unfold mx
    split
    ·simp [hd]
    ·rw [h2]; rfl
def HoldOk (k : Nat) (l : List S42) : Prop := dragnetlaw10_alive.f k = some true ∧ ints_Zones.f k l = some (zonesOf l) ∧ dragnetref10_Formed.f k l = some (formedOf l) ∧ (formedOf l = true → ∀ g : Nat, g < (ints_Zones.all l).length → dragnetlaw10_some.f k l (g : Int) = some (rd_T38 (ints_Zones.all l) (g : Int)).f0)
open Classical in
noncomputable def dragnetlaw10_IntsHold.f (k : Nat) (l : List S42) : Option Bool := if HoldOk k l then some true else none
theorem hold_any (ch : List S42) (j : Nat) (hj : j < ch.length) (p : S42 → Bool) : (ch.take (j + 1)).any p = ((ch.take j).any p || p ch[j]) := by
 rw [List.take_succ_eq_append_getElem hj, List.any_append]
 simp
set_option maxRecDepth 100000 in
set_option maxHeartbeats 8000000 in
theorem dragnetlaw10_IntsHold.calls (k : Nat) (A0 : Option Addr) (c0 : Nat) (l0 : List S42) (r : Bool) (w : World) (hr0 : Kd.C k42 w A0 l0.length l0) (hc0 : l0.length ≤ c0) (h : dragnetlaw10_IntsHold.f k l0 = some r) :
  Calls Try.prog 6 #[.slice A0 l0.length c0] w fun e w' => e = .returned (.bool r) ∧ Below w.heap.size w w' := by
 unfold dragnetlaw10_IntsHold.f at h
 by_cases hok : HoldOk k l0
 case neg => rw [if_neg hok] at h; cases h
 rw [if_pos hok] at h
 obtain rfl := Option.some.inj h
 obtain ⟨ha, hz, hf, hs⟩ := hok
 clear h
 have HR0 := Aside0.mk hr0
 have HC0 := Aside0.mk hc0
 have HA := Aside0.mk ha
 have HZ := Aside0.mk hz
 have HF := Aside0.mk hf
 have HS := Aside0.mk hs
 clear hr0 hc0 ha hz hf hs
 cases hform : formedOf l0 with
 | false =>
  have HZ2 := HZ
  rw [hform] at HF
  have hzn : zonesOf l0 = [] := by unfold zonesOf; rw [hform]; rfl
  rw [hzn] at HZ
  clear HZ2
  go_enter Try.func6, Try.ntmps6
  go_wp2_with (first | (go_at_call 9; (with_reducible refine (dragnetlaw10_alive.calls k true _ HA.out).mono ?_); rintro e w7 ⟨rfl, hb⟩; have HB1 := Aside0.mk hb; clear hb) | (go_at_call 18; (with_reducible refine (ints_Zones.calls k A0 c0 l0 [] _ ?side1 HC0.out HZ.out).mono ?_); (case side1 => exact Kd.C_below HR0.out HB1.out); rintro e w8 ⟨v8, rfl, ho, hb⟩; have HO := Aside0.mk ho; have HB2 := Aside0.mk (below_step HB1.out hb); clear ho hb; obtain ⟨Az, cz, ez⟩ := Kd.R_slice HO.out; subst ez) | (go_at_call 16; (with_reducible refine (dragnetref10_Formed.calls k A0 c0 l0 false _ ?side1 HC0.out HF.out).mono ?_); (case side1 => exact Kd.C_below HR0.out HB2.out); rintro e w9 ⟨rfl, ⟨nd, rfl⟩⟩) | fail)
  go_ret
  exact ⟨rfl, pbN_ HB2.out _⟩
 | true =>
  rw [hform] at HF
  have hzn : zonesOf l0 = ints_Zones.all l0 := by unfold zonesOf; rw [hform]; rfl
  rw [hzn] at HZ
  have hl := formed_len hform
  have HS2 := Aside0.mk (HS.out hform)
  have hzl := all_length l0
  obtain ⟨zs, hzs⟩ : ∃ zs, ints_Zones.all l0 = zs := ⟨_, rfl⟩
  have hzg : ∀ g : Nat, g < zs.length → rd_T38 zs (g : Int) = ints_Zones.zone (ints_Zones.chunk l0 g) := by
   intro g hg
   rw [rd38 zs g hg]
   subst hzs
   exact all_get l0 g hg
  rw [hzs] at HZ HS2 hzl
  have HZL := Aside0.mk hzl
  have HL := Aside0.mk hl
  have HZG := Aside0.mk hzg
  clear HS hzn hzs hl hzl hzg hform
  go_enter Try.func6, Try.ntmps6
  go_wp2_with (first | (go_at_call 9; (with_reducible refine (dragnetlaw10_alive.calls k true _ HA.out).mono ?_); rintro e w7 ⟨rfl, hb⟩; have HB1 := Aside0.mk hb; clear hb) | (go_at_call 18; (with_reducible refine (ints_Zones.calls k A0 c0 l0 zs _ ?side1 HC0.out HZ.out).mono ?_); (case side1 => exact Kd.C_below HR0.out HB1.out); rintro e w8 ⟨v8, rfl, ho, hb⟩; have HO := Aside0.mk ho; have HB2 := Aside0.mk (below_step HB1.out hb); clear ho hb; obtain ⟨Az, cz, ez⟩ := Kd.R_slice HO.out; subst ez) | (go_at_call 16; (with_reducible refine (dragnetref10_Formed.calls k A0 c0 l0 true _ ?side1 HC0.out HF.out).mono ?_); (case side1 => exact Kd.C_below HR0.out HB2.out); rintro e w9 ⟨rfl, ⟨nd, rfl⟩⟩) | fail)
  obtain ⟨W1, hW1⟩ : ∃ W1, w8.drewN nd = W1 := ⟨_, rfl⟩
  have HBW : Aside0 (Below w.heap.size w W1) := ⟨by rw [← hW1]; exact pbN_ HB2.out _⟩
  have HCZ : Aside0 (Kd.C k38 W1 Az zs.length zs) := ⟨by rw [← hW1]; exact Kd.cN_ (Kd.R_reads' HO.out).2.2 _⟩
  rw [hW1]
  clear hW1
  go_loopg [4] zs.length (fun gg v4 wr => ∃ (g : Nat), v4 = .int .i64 (g : Int) ∧ Aside0 (g ≤ zs.length ∧ zs.length - g ≤ gg) ∧ Aside0 (Below W1.heap.size W1 wr))
  case atStart => exact ⟨0, rfl, ⟨Nat.zero_le _, by omega⟩, ⟨Below.refl _ _⟩⟩
  case round =>
   obtain ⟨g, rfl, HI, HB⟩ := hrel
   by_cases hlt : g < zs.length
   ·have gd : decide ((g : Int) < (zs.length : Int)) = true := decide_eq_true (by omega)
    obtain ⟨ad, e, hx0, hx1, hx2⟩ := at_T38 HCZ.out (g : Int) (by omega) (by omega)
    subst e
    rw [HZG.out g hlt, Int.toNat_natCast] at hx0 hx1 hx2
    have HX := Aside0.mk (And.intro hx0 (And.intro hx1 hx2))
    clear hx0 hx1 hx2
    have hL := HL.out
    have hZL := HZL.out
    obtain ⟨ch, hch⟩ : ∃ ch, ints_Zones.chunk l0 g = ch := ⟨_, rfl⟩
    have hcl : ch.length = min 16 (l0.length - 16 * g) := by rw [← hch]; simp [ints_Zones.chunk]
    have hcg : ∀ (j : Nat) (hj : j < ch.length), rd_T42 l0 ((16 * g + j : Nat) : Int) = ch[j] := by
     intro j hj
     rw [rd42 l0 _ (by omega)]
     subst hch
     simp [ints_Zones.chunk]
    rw [hch] at HX
    obtain ⟨s0, hs0⟩ : ∃ s0 : Nat, Aside0 (s0 = 16 * g) := ⟨_, ⟨rfl⟩⟩
    obtain ⟨s1, hs1⟩ : ∃ s1 : Nat, Aside0 (s1 = 16 * g + 16) := ⟨_, ⟨rfl⟩⟩
    have h16 : wrap64 (16 * (g : Int)) = (s0 : Int) := by have := hs0.out; unfold wrap64; omega
    have h32 : wrap64 ((s0 : Int) + 16) = (s1 : Int) := by have := hs0.out; have := hs1.out; unfold wrap64; omega
    have H16 := Aside0.mk h16
    have H32 := Aside0.mk h32
    clear h16 h32
    have pg := eq_true (show (0 : Int) ≤ (g : Int) by omega)
    have qg := eq_true (show (g : Int) < (zs.length : Int) by omega)
    have qg' := eq_true hlt
    have hmem := zone_mem ch
    have hends := zone_ends ch
    have hnone := zone_none ch
    have hsome := HS2.out g hlt
    rw [HZG.out g hlt, hch] at hsome
    obtain ⟨z, hz⟩ : ∃ z, ints_Zones.zone ch = z := ⟨_, rfl⟩
    rw [hz] at HX hmem hends hnone hsome
    have HM := Aside0.mk hmem
    have HE := Aside0.mk hends
    have HN := Aside0.mk hnone
    have HSO := Aside0.mk hsome
    have HCL := Aside0.mk hcl
    have HCG := Aside0.mk hcg
    clear hmem hends hnone hsome hcl hcg hch hz hL hZL
    go_wp2
    go_loopg [5, 6, 7] ch.length (fun gg v5 v6 v7 wr2 => ∃ (j i : Nat), v7 = .int .i64 (i : Int) ∧ v5 = .bool ((ch.take j).any (fun c => c.f0 && c.f1 == z.f1)) ∧ v6 = .bool ((ch.take j).any (fun c => c.f0 && c.f1 == z.f2)) ∧ Aside0 (j ≤ ch.length ∧ ch.length - j ≤ gg ∧ i = 16 * g + j) ∧ Aside0 (Below W1.heap.size W1 wr2))
    case atStart => exact ⟨0, s0, by first | rfl | (rw [H16.out]), rfl, rfl, ⟨Nat.zero_le _, by omega, hs0.out⟩, HB⟩
    case round =>
     obtain ⟨j, i, rfl, rfl, rfl, HJ, HB3⟩ := hrel
     have hx0 := (HB3.out.cell (World.block_lt_of_cell? W1 _ HX.out.1)).trans HX.out.1
     have hx1 := (HB3.out.cell (World.block_lt_of_cell? W1 _ HX.out.2.1)).trans HX.out.2.1
     have hx2 := (HB3.out.cell (World.block_lt_of_cell? W1 _ HX.out.2.2)).trans HX.out.2.2
     have hij := HJ.out.2.2
     have hCL := HCL.out
     have hL := HL.out
     have hZL := HZL.out
     have hs1' := hs1.out
     by_cases hj : j < ch.length
     ·have g1 : decide ((i : Int) < (l0.length : Int)) = true := decide_eq_true (by omega)
      have g2 : decide ((i : Int) < wrap64 (wrap64 (16 * (g : Int)) + 16)) = true := decide_eq_true (by rw [H16.out, H32.out]; omega)
      obtain ⟨ad0, e, hy0, hy1⟩ := at_T42 HR0.out (i : Int) (by omega) (by omega)
      subst e
      have hcg := HCG.out j hj
      rw [← hij] at hcg
      rw [hcg, Int.toNat_natCast] at hy0 hy1
      have hy0 := (HBW.out.cell (World.block_lt_of_cell? w _ hy0)).trans hy0
      have hy1 := (HBW.out.cell (World.block_lt_of_cell? w _ hy1)).trans hy1
      have hy0 := (HB3.out.cell (World.block_lt_of_cell? W1 _ hy0)).trans hy0
      have hy1 := (HB3.out.cell (World.block_lt_of_cell? W1 _ hy1)).trans hy1
      have pi := eq_true (show (0 : Int) ≤ (i : Int) by omega)
      have qi := eq_true (show (i : Int) < (l0.length : Int) by omega)
      have qi' := eq_true (show i < l0.length by omega)
      have hinc : wrap64 ((i : Int) + 1) = ((i + 1 : Nat) : Int) := by unfold wrap64; omega
      have HINC := Aside0.mk hinc
      have hm := HM.out ch[j] (List.getElem_mem hj)
      have hlo := hold_any ch j hj (fun c => c.f0 && c.f1 == z.f1)
      have hhi := hold_any ch j hj (fun c => c.f0 && c.f1 == z.f2)
      obtain ⟨c, hc⟩ : ∃ c, ch[j] = c := ⟨_, rfl⟩
      rw [hc] at hy0 hy1 hm hlo hhi
      obtain ⟨lo, elo⟩ : ∃ b, (ch.take j).any (fun c => c.f0 && c.f1 == z.f1) = b := ⟨_, rfl⟩
      obtain ⟨hi, ehi⟩ : ∃ b, (ch.take j).any (fun c => c.f0 && c.f1 == z.f2) = b := ⟨_, rfl⟩
      rw [elo] at hlo
      rw [ehi] at hhi
      rw [elo, ehi]
      obtain ⟨c0_, c1_⟩ := c
      obtain ⟨z0_, z1_, z2_⟩ := z
      dsimp only at hy0 hy1 hm hlo hhi hx0 hx1 hx2
      have HLO := Aside0.mk hlo
      have HHI := Aside0.mk hhi
      have HJ2 := Aside0.mk (And.intro hj (show i + 1 = 16 * g + (j + 1) by omega))
      clear hlo hhi elo ehi hc hCL hL hZL hs1' hinc hcg hij
      cases c0_ with
      | false =>
       clear hm
       cases lo <;> cases hi <;> (go_wp2; repeat (go_quiet (fail); try go_wp2))
       all_goals go_roundg (ch.length - (j + 1))
       all_goals first
        | (have := HJ.out.2; have := HJ2.out; omega)
        | exact ⟨j + 1, i + 1, by first | rfl | rw [HINC.out], by rw [HLO.out]; rfl, by rw [HHI.out]; rfl, ⟨HJ2.out.1, by omega, HJ2.out.2⟩, ⟨by repeat (first | exact HB3.out | apply pbN_ | apply pb1_)⟩⟩
        | trace_state
      | true =>
       obtain ⟨rfl, m1, m2⟩ := hm rfl
       clear hm
       try dsimp only at m1 m2
       have d1 : decide (c1_ < z1_) = false := decide_eq_false (by omega)
       have d2 : decide (c1_ > z2_) = false := decide_eq_false (by omega)
       have d2' : decide (z2_ < c1_) = false := decide_eq_false (by omega)
       clear m1 m2
       cases lo <;> cases hi <;> (go_wp2; repeat (go_quiet (fail); try go_wp2))
       all_goals go_roundg (ch.length - (j + 1))
       all_goals first
        | (have := HJ.out.2; have := HJ2.out; omega)
        | exact ⟨j + 1, i + 1, by first | rfl | rw [HINC.out], by rw [HLO.out]; simp, by rw [HHI.out]; simp, ⟨HJ2.out.1, by omega, HJ2.out.2⟩, ⟨by repeat (first | exact HB3.out | apply pbN_ | apply pb1_)⟩⟩
        | trace_state
     ·have hje : j = ch.length := by have := HJ.out.1; omega
      rw [hje, List.take_length]
      have hends := HE.out
      have hnone := HN.out
      obtain ⟨lo, elo⟩ : ∃ b, ch.any (fun c => c.f0 && c.f1 == z.f1) = b := ⟨_, rfl⟩
      obtain ⟨hi, ehi⟩ : ∃ b, ch.any (fun c => c.f0 && c.f1 == z.f2) = b := ⟨_, rfl⟩
      rw [elo, ehi] at hends ⊢
      have hstop : (((i : Int) < (l0.length : Int)) = False ∧ (i < l0.length) = False ∧ decide ((i : Int) < (l0.length : Int)) = false ∧ True) ∨ (((i : Int) < (l0.length : Int)) = True ∧ (i < l0.length) = True ∧ decide ((i : Int) < (l0.length : Int)) = true ∧ ((i : Int) < wrap64 (wrap64 (16 * (g : Int)) + 16)) = False ∧ decide ((i : Int) < wrap64 (wrap64 (16 * (g : Int)) + 16)) = false) := by
       by_cases hh : i < l0.length
       ·exact .inr ⟨eq_true (by omega), eq_true hh, decide_eq_true (by omega), eq_false (by rw [H16.out, H32.out]; omega), decide_eq_false (by rw [H16.out, H32.out]; omega)⟩
       ·exact .inl ⟨eq_false (by omega), eq_false hh, decide_eq_false (by omega), trivial⟩
      have hbr := HBW.out.trans (HB3.out.mono HBW.out.size)
      have HBR := Aside0.mk hbr
      have hincg : wrap64 ((g : Int) + 1) = ((g + 1 : Nat) : Int) := by unfold wrap64; omega
      have HING := Aside0.mk (And.intro hincg hlt)
      obtain ⟨z0_, z1_, z2_⟩ := z
      dsimp only at hends hnone hx0 hx1 hx2
      clear elo ehi hL hZL hs1' hCL hij hj hje hbr hincg
      cases z0_ with
      | false =>
       obtain ⟨rfl, rfl⟩ : z1_ = 0 ∧ z2_ = 0 := by have := hnone rfl; simp at this; exact this
       clear hends hnone
       rcases hstop with ⟨g0, g0', g1, -⟩ | ⟨g0, g0', g1, g2, g2'⟩ <;> (go_wp2; go_quiet ((exact Calls.quiet_of ((dragnetlaw10_some.calls k A0 c0 l0 (g : Int) false _ (Kd.cN_ (Kd.C_below HR0.out HBR.out) _) HC0.out HSO.out).mono fun _ _ h => ⟨h.1, h.2.out⟩))); try go_wp2)
       all_goals go_roundg (zs.length - (g + 1))
       all_goals first
        | (have := HI.out.2; have := HING.out.2; omega)
        | exact ⟨g + 1, by first | rfl | rw [HING.out.1], ⟨HING.out.2, by omega⟩, ⟨by repeat (first | exact HB3.out | apply pbN_ | apply pb1_)⟩⟩
        | trace_state
      | true =>
       obtain ⟨rfl, rfl⟩ := hends rfl
       clear hnone hends
       rcases hstop with ⟨g0, g0', g1, -⟩ | ⟨g0, g0', g1, g2, g2'⟩ <;> (go_wp2; go_quiet ((exact Calls.quiet_of ((dragnetlaw10_some.calls k A0 c0 l0 (g : Int) true _ (Kd.cN_ (Kd.C_below HR0.out HBR.out) _) HC0.out HSO.out).mono fun _ _ h => ⟨h.1, h.2.out⟩))); try go_wp2)
       all_goals go_roundg (zs.length - (g + 1))
       all_goals first
        | (have := HI.out.2; have := HING.out.2; omega)
        | exact ⟨g + 1, by first | rfl | rw [HING.out.1], ⟨HING.out.2, by omega⟩, ⟨by repeat (first | exact HB3.out | apply pbN_ | apply pb1_)⟩⟩
        | trace_state
   ·have gd : decide ((g : Int) < (zs.length : Int)) = false := decide_eq_false (by omega)
    have he : g = zs.length := by have := HI.out.1; omega
    subst he
    have e1 : wrap64 ((l0.length : Int) + 15) = ((l0.length + 15 : Nat) : Int) := by have := HL.out; unfold wrap64; omega
    have hq : (zs.length : Int) = wrap64 (Int.tdiv (wrap64 ((l0.length : Int) + 15)) 16) := by
     rw [e1, show Int.tdiv ((l0.length + 15 : Nat) : Int) 16 = (((l0.length + 15) / 16 : Nat) : Int) from rfl]
     have := HL.out
     have := HZL.out
     unfold wrap64
     omega
    have HQ := Aside0.mk hq
    clear hq e1
    go_wp2
    go_ret
    refine ⟨?_, HBW.out.trans (HB.out.mono HBW.out.size)⟩
    simp [← HQ.out]
end Go.Proofs.Ytcjkmmajokkkfaa.P
end
section
namespace Go.Proofs.Ytcjkmmajokkkfaa.Pure
open Go.RowKit Go.Proofs.Ytcjkmmajokkkfaa.P Go.Proofs.YtcjkmmajokkkfaaW.PrintWords Go.Proofs.YtcjkmmajokkkfaaW.PrintLast Go.Proofs.YtcjkmmajokkkfaaQ
theorem some_l0 (l : List S42) (hl : l.length ≤ 4096) (g : Nat) (hg : 16 * g < l.length) : ∀ (d j : Nat), j + d = (ints_Zones.chunk l g).length → Ev (fun k => dragnetlaw10_some.l0 k l (g : Int) ((16 * g + j : Nat) : Int)) (((ints_Zones.chunk l g).drop j).any (·.f0))
 | 0, j, hj => by
  have hcl : (ints_Zones.chunk l g).length = min 16 (l.length - 16 * g) := by simp [ints_Zones.chunk]
  rw [List.drop_eq_nil_of_le (by omega)]
  apply Ev.succ
  simp only [dragnetlaw10_some.l0]
  rw [w64i (x := 16 * (g : Int)) (by omega) (by omega), w64i (x := 16 * (g : Int) + 16) (by omega) (by omega)]
  have fin : Ev (fun k => dragnetlaw10_some.j1 k l (g : Int) ((16 * g + j : Nat) : Int) false) (([] : List S42).any (·.f0)) := by
   apply Ev.succ
   simp only [dragnetlaw10_some.j1]
   exact Ev.if_f (by decide) (Ev.now _)
  by_cases h : 16 * g + j < l.length
  ·refine Ev.if_t (by omega) ?_
   rw [decide_eq_false (by omega)]
   exact fin
  ·exact Ev.if_f (by omega) fin
 | d + 1, j, hj => by
  have hcl : (ints_Zones.chunk l g).length = min 16 (l.length - 16 * g) := by simp [ints_Zones.chunk]
  have hlt : j < (ints_Zones.chunk l g).length := by omega
  have hi : 16 * g + j < l.length := by omega
  have he : (ints_Zones.chunk l g)[j] = l[16 * g + j] := by simp [ints_Zones.chunk]
  rw [List.drop_eq_getElem_cons hlt, List.any_cons, he]
  apply Ev.succ
  simp only [dragnetlaw10_some.l0]
  rw [w64i (x := 16 * (g : Int)) (by omega) (by omega), w64i (x := 16 * (g : Int) + 16) (by omega) (by omega)]
  refine Ev.if_t (by omega) ?_
  rw [decide_eq_true (by omega)]
  apply Ev.succ
  simp only [dragnetlaw10_some.j1]
  rw [rd42 l _ hi, w64i (x := ((16 * g + j : Nat) : Int) + 1) (by omega) (by omega)]
  refine Ev.if_t (by trivial) (Ev.if_t (by omega) (Ev.if_t (by omega) ?_))
  by_cases h : l[16 * g + j].f0 = true
  ·rw [h, Bool.true_or]
   exact Ev.if_t rfl (Ev.now _)
  ·rw [Bool.eq_false_iff.2 h, Bool.false_or]
   exact Ev.if_f (by decide) (some_l0 l hl g hg d (j + 1) (by omega))
theorem some_ev (l : List S42) (hl : l.length ≤ 4096) (g : Nat) (hg : g < (ints_Zones.all l).length) : Ev (fun k => dragnetlaw10_some.f k l (g : Int)) (rd_T38 (ints_Zones.all l) (g : Int)).f0 := by
 rw [rd38 _ g hg, all_get, zone_some]
 rw [all_length] at hg
 unfold dragnetlaw10_some.f
 rw [w64i (x := 16 * (g : Int)) (by omega) (by omega)]
 have := some_l0 l hl g (by omega) (ints_Zones.chunk l g).length 0 (by omega)
 rw [List.drop_zero] at this
 exact this
theorem many_ev {α : Type} {f : Nat → Nat → Option α} {r : Nat → α} : ∀ (n : Nat), (∀ g, g < n → Ev (fun k => f k g) (r g)) → ∃ K, ∀ k, K ≤ k → ∀ g, g < n → f k g = some (r g)
 | 0, _ => ⟨0, fun _ _ _ h => absurd h (Nat.not_lt_zero _)⟩
 | n + 1, h => by
  obtain ⟨K, hK⟩ := many_ev n (fun g hg => h g (by omega))
  obtain ⟨K2, hK2⟩ := h n (by omega)
  refine ⟨K + K2, fun k hk g hg => ?_⟩
  by_cases e : g = n
  ·subst e; exact hK2 k (by omega)
  ·exact hK k (by omega) g (by omega)
theorem IntsHold : ∀ (l0 : (List S42)), l0.length * 16 ≤ 140737488351232 → (∀ y ∈ l0, (True ∧ (Lit.int .i64 y.f1).wf = true)) → ∃ k, dragnetlaw10_IntsHold.f k l0 = some true := by
 intro l hl _
 obtain ⟨K1, h1⟩ := alive10
 obtain ⟨K2, h2⟩ := zones_ev l
 obtain ⟨K3, h3⟩ := ref_formed_ev l (by omega)
 obtain ⟨K4, h4⟩ : ∃ K, ∀ k, K ≤ k → formedOf l = true → ∀ g : Nat, g < (ints_Zones.all l).length → dragnetlaw10_some.f k l (g : Int) = some (rd_T38 (ints_Zones.all l) (g : Int)).f0 := by
  by_cases hf : formedOf l = true
  ·obtain ⟨K, hK⟩ := many_ev (f := fun k g => dragnetlaw10_some.f k l ((g : Nat) : Int)) (r := fun g => (rd_T38 (ints_Zones.all l) ((g : Nat) : Int)).f0) (ints_Zones.all l).length (fun g hg => some_ev l (formed_len hf) g hg)
   exact ⟨K, fun k hk _ => hK k hk⟩
  ·exact ⟨0, fun _ _ h => absurd h hf⟩
 refine ⟨K1 + K2 + K3 + K4, ?_⟩
 unfold dragnetlaw10_IntsHold.f
 exact if_pos ⟨h1 _ (by omega), h2 _ (by omega), h3 _ (by omega), h4 _ (by omega)⟩
end Go.Proofs.Ytcjkmmajokkkfaa.Pure
end
