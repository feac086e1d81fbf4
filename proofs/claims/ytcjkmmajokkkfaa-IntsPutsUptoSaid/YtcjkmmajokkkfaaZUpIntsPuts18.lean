/- Words and proofs that UpIntsPuts leans on; put together by wip/tools/shake.py. -/
import Derived.Test.YtcjkmmajokkkfaaZUpIntsPuts17
import Derived.ArgAppend
import Derived.Below
import Derived.BigQuiet
import Derived.Deep.AppendLies
import Derived.Deep.CutBlock
import Derived.Deep.DeepCutAuto
import Derived.Deep.Draws
import Derived.Deep.LoopGhost
import Derived.Deep.OwnRows
import Derived.Deep.QuietTactic
import Derived.Deep.RegionHeld3
import Derived.KernelRfl
import Derived.Laws.BitsAllLaws
import Derived.Laws.BitsLemmas
import Derived.Laws.BytesArg
import Derived.Laws.Cover1
import Derived.Laws.IdiomCopy
import Derived.Laws.MakeOwn
import Derived.Laws.OwnMore
import Derived.Laws.Rows
import Derived.Laws.Slices
import Derived.Laws.StructEq
import Derived.Lib.AppendStr
import Derived.Lib.BitFns
import Derived.Lib.ConvBytes
import Derived.Lib.Slices
import Derived.Lib.Small
import Derived.Lib.Strings
import Derived.Lib.Walk
import Derived.LoopIn
import Derived.LoopNIn
import Derived.Maps.AppendAt
import Derived.OrdersHeld
import Derived.OwnWalk
import Derived.OwnWalkIn
import Derived.RangeFuncBound
import Derived.RangeFuncBox
import Derived.RangeFuncCalls
import Derived.RangeFuncFrom
import Derived.RangeFuncLeaves
import Derived.RangeFuncNested
import Derived.RowKit
import Derived.RowKit3
import Derived.ScopeJumps
import Derived.Shelf.Abstract
import Derived.Sort.QuietIn
import Derived.Tactics
import Derived.TacticsInMore
import Derived.Test.YtcjkmmajokkkfaaChecked
import Derived.Test.YtcjkmmajokkkfaaProg
import Derived.WalkKit
import Derived.WalkMore
import Derived.WalkSpells
import Derived.WideLaws
section
namespace Go.Proofs.YtcjkmmajokkkfaaQ
open Go.RowKit Go.Proofs.YtcjkmmajokkkfaaW.PrintWords Go.Proofs.YtcjkmmajokkkfaaW.PrintMore Go.Proofs.YtcjkmmajokkkfaaW.PrintLast Go.Proofs.Ytcjkmmajokkkfaa.P
def up (l : List Nat) : List Int := l.map fun (n : Nat) => (n : Int)
def Lt64 (l : List Nat) : Prop := ∀ x ∈ l, x < 2 ^ 64
@[simp] theorem up_length (l : List Nat) : (up l).length = l.length := by simp [up]
theorem up_take (l : List Nat) (n : Nat) : (up l).take n = up (l.take n) := by simp [up, List.map_take]
theorem up_drop (l : List Nat) (n : Nat) : (up l).drop n = up (l.drop n) := by simp [up, List.map_drop]
theorem u64_up {l : List Nat} (h : Lt64 l) : U64 (up l) := fun x hx => by
 obtain ⟨n, hn, rfl⟩ := List.mem_map.1 hx
 have := h n hn
 omega
theorem up_get (l : List Nat) (i : Nat) (h : i < l.length) : (up l)[i]'(by simpa using h) = (l[i] : Int) := by simp [up]
theorem rd_up (l : List Nat) (i : Nat) (h : i < l.length) : rd (up l) (i : Int) = (l[i] : Int) := by
 rw [rd_nat _ _ (by simpa using h), up_get l i h]
theorem Lt64.get {l : List Nat} (h : Lt64 l) (i : Nat) (hi : i < l.length) : l[i] < 18446744073709551616 := h _ (List.getElem_mem hi)
theorem Lt64.drop {l : List Nat} (h : Lt64 l) (n : Nat) : Lt64 (l.drop n) := fun x hx => h x (List.mem_of_mem_drop hx)
theorem Lt64.take {l : List Nat} (h : Lt64 l) (n : Nat) : Lt64 (l.take n) := fun x hx => h x (List.mem_of_mem_take hx)
def fill (es : List Int) (i : Nat) : List Int := es.take i ++ List.replicate (es.length - i) 0
theorem fill_zero (es : List Int) : fill es 0 = List.replicate es.length 0 := by simp [fill]
theorem fill_all (es : List Int) : fill es es.length = es := by simp [fill]
theorem fill_length (es : List Int) (i : Nat) (h : i ≤ es.length) : (fill es i).length = es.length := by simp [fill]; omega
theorem fill_set (es : List Int) (i : Nat) (h : i < es.length) : (fill es i).set i es[i] = fill es (i + 1) := by
 have e : es.length - i = (es.length - (i + 1)) + 1 := by omega
 unfold fill
 rw [e, List.replicate_succ, List.set_append_right _ _ (by simp; omega), List.length_take, Nat.min_eq_left (by omega), Nat.sub_self, List.set_cons_zero, List.take_succ_eq_append_getElem h, List.append_assoc]
 rfl
def tailOf (w : Nat) : Nat → List Nat → List Int
 | _, [] => []
 | i, d :: ds => (if 0 < d / 2 ^ w then (i : Int) :: numEnc (d / 2 ^ w) else []) ++ tailOf w (i + 1) ds
def tailLen (w : Nat) : List Nat → Nat
 | [] => 0
 | d :: ds => (if 0 < d / 2 ^ w then 1 + (numEnc (d / 2 ^ w)).length else 0) + tailLen w ds
def cntOf (w : Nat) : List Nat → Nat
 | [] => 0
 | d :: ds => (if 0 < d / 2 ^ w then 1 else 0) + cntOf w ds
def lowOf (w : Nat) (ds : List Nat) : List Int := up (ds.map fun d => d % 2 ^ w)
def costOf (ds : List Nat) (w : Nat) : Nat := (ds.length * w + 7) / 8 + tailLen w ds
theorem length_tailOf (w : Nat) : ∀ (ds : List Nat) (i : Nat), (tailOf w i ds).length = tailLen w ds
 | [], _ => rfl
 | d :: ds, i => by
  rw [tailOf, tailLen, List.length_append, length_tailOf w ds (i + 1)]
  split <;> simp; omega
theorem tailOf_append (w : Nat) : ∀ (a : List Nat) (i : Nat) (b : List Nat), tailOf w i (a ++ b) = tailOf w i a ++ tailOf w (i + a.length) b
 | [], i, b => by simp [tailOf]
 | d :: a, i, b => by
  rw [List.cons_append, tailOf, tailOf, tailOf_append w a (i + 1) b, List.append_assoc, List.length_cons, show i + 1 + a.length = i + (a.length + 1) by omega]
theorem cntOf_append (w : Nat) : ∀ (a b : List Nat), cntOf w (a ++ b) = cntOf w a + cntOf w b
 | [], b => by simp [cntOf]
 | d :: a, b => by rw [List.cons_append, cntOf, cntOf, cntOf_append w a b]; omega
theorem tailOf_snoc (w : Nat) (ds : List Nat) (i : Nat) (h : i < ds.length) :
  tailOf w 0 (ds.take (i + 1)) = tailOf w 0 (ds.take i) ++ (if 0 < ds[i] / 2 ^ w then (i : Int) :: numEnc (ds[i] / 2 ^ w) else []) := by
 rw [List.take_succ_eq_append_getElem h, tailOf_append, List.length_take, Nat.min_eq_left (by omega), Nat.zero_add]
 simp [tailOf]
theorem cntOf_snoc (w : Nat) (ds : List Nat) (i : Nat) (h : i < ds.length) : cntOf w (ds.take (i + 1)) = cntOf w (ds.take i) + (if 0 < ds[i] / 2 ^ w then 1 else 0) := by
 rw [List.take_succ_eq_append_getElem h, cntOf_append]
 simp [cntOf]
theorem div_lt64 {d : Nat} (h : d < 2 ^ 64) (w : Nat) : d / 2 ^ w < 2 ^ 64 := Nat.lt_of_le_of_lt (Nat.div_le_self _ _) h
theorem tailLen_le (w : Nat) : ∀ (ds : List Nat), Lt64 ds → tailLen w ds ≤ 10 * ds.length
 | [], _ => Nat.zero_le _
 | d :: ds, h => by
  have h1 := tailLen_le w ds (fun x hx => h x (List.mem_cons_of_mem _ hx))
  have h2 := length_numEnc_le (div_lt64 (h d List.mem_cons_self) w)
  rw [tailLen, List.length_cons]
  split <;> omega
theorem cntOf_le (w : Nat) : ∀ (ds : List Nat), cntOf w ds ≤ ds.length
 | [] => Nat.le_refl _
 | d :: ds => by
  have := cntOf_le w ds
  rw [cntOf, List.length_cons]
  split <;> omega
theorem length_lowOf (w : Nat) (ds : List Nat) : (lowOf w ds).length = ds.length := by simp [lowOf]
theorem lowOf_get (w : Nat) (ds : List Nat) (i : Nat) (h : i < ds.length) : (lowOf w ds)[i]'(by rw [length_lowOf]; exact h) = ((ds[i] % 2 ^ w : Nat) : Int) := by simp [lowOf, up]
theorem u64_lowOf {ds : List Nat} (h : Lt64 ds) (w : Nat) : U64 (lowOf w ds) := by
 refine u64_up fun x hx => ?_
 obtain ⟨d, hd, rfl⟩ := List.mem_map.1 hx
 exact Nat.lt_of_le_of_lt (Nat.mod_le _ _) (h d hd)
theorem fit_lowOf (w : Nat) (ds : List Nat) : Fit w (lowOf w ds) := fun x hx => by
 obtain ⟨n, hn, rfl⟩ := List.mem_map.1 hx
 obtain ⟨d, hd, rfl⟩ := List.mem_map.1 hn
 rw [Int.toNat_natCast]
 exact Nat.mod_lt _ (two_pow_pos' _)
theorem fits64 {d w : Nat} (h : d < 2 ^ 64) (hw : 64 ≤ w) : d / 2 ^ w = 0 := Nat.div_eq_of_lt (Nat.lt_of_lt_of_le h (Nat.pow_le_pow_right (by decide) hw))
theorem high_eq {d w : Nat} (hd : d < 2 ^ 64) (hw : w ≤ 64) : pfor_high.f (d : Int) (w : Int) = some ((d / 2 ^ w : Nat) : Int) := by
 unfold pfor_high.f
 by_cases h : w = 64
 ·rw [if_pos (by omega), fits64 hd (by omega)]; rfl
 ·rw [if_neg (by omega), if_pos (by omega), shr_u64 _ _ hw]
  simp
theorem psize_ev {v : Nat} (hv : v < 2 ^ 64) : Ev (fun k => pfor_size.f k (v : Int)) ((numEnc v).length : Int) := by
 unfold pfor_size.f
 exact Ev.bind (put_ev [] (by simp) hv) (Ev.now _)
def bestW (c : Nat → Nat) : Nat → Nat
 | 0 => 0
 | k + 1 => if c (k + 1) < c (bestW c k) then k + 1 else bestW c k
theorem bestW_le (c : Nat → Nat) : ∀ k, bestW c k ≤ k
 | 0 => Nat.le_refl _
 | k + 1 => by
  have := bestW_le c k
  rw [bestW]; split <;> omega
theorem tailLen_drop (w : Nat) (ds : List Nat) (i : Nat) (h : i < ds.length) : tailLen w (ds.drop i) = (if 0 < ds[i] / 2 ^ w then 1 + (numEnc (ds[i] / 2 ^ w)).length else 0) + tailLen w (ds.drop (i + 1)) := by
 rw [List.drop_eq_getElem_cons h, tailLen]
theorem pwidth_inner {ds : List Nat} (hd : Lt64 ds) (hl : ds.length ≤ 32) (best least : Int) {w : Nat} (hw : w ≤ 64) (r : Int) : ∀ (m i n : Nat), i + m = ds.length → n ≤ 1000 + 10 * i →
  Ev (fun k => if least < 0 then pfor_width.l0 k (up ds) (w : Int) ((n + tailLen w (ds.drop i) : Nat) : Int) (wrap64 ((w : Int) + 1)) else if ((n + tailLen w (ds.drop i) : Nat) : Int) < least then pfor_width.l0 k (up ds) (w : Int) ((n + tailLen w (ds.drop i) : Nat) : Int) (wrap64 ((w : Int) + 1)) else pfor_width.l0 k (up ds) best least (wrap64 ((w : Int) + 1))) r →
  Ev (fun k => pfor_width.l1 k (up ds) best least (w : Int) (n : Int) (up ds) (ds.length : Int) (i : Int)) r
 | 0, i, n, hi, hn, h => by
  rw [List.drop_of_length_le (by omega)] at h
  apply Ev.succ
  simp only [pfor_width.l1]
  exact Ev.if_f (by omega) h
 | m + 1, i, n, hi, hn, h => by
  have hil : i < ds.length := by omega
  have hx := hd.get i hil
  rw [tailLen_drop w ds i hil] at h
  apply Ev.succ
  simp only [pfor_width.l1]
  refine Ev.if_t (by omega) (Ev.if_t (by omega) (Ev.if_t (by simp; omega) ?_))
  rw [rd_up ds i hil, inc i (by omega)]
  refine Ev.obind (high_eq hx hw) ?_
  by_cases hp : 0 < ds[i] / 2 ^ w
  ·rw [if_pos hp] at h
   have h9 := length_numEnc_le (div_lt64 hx w)
   refine Ev.if_t (by omega) (Ev.bind (psize_ev (div_lt64 hx w)) ?_)
   rw [show (1 : Int) = ((1 : Nat) : Int) from rfl, add64 1 _ (by omega), add64 n _ (by omega)]
   refine pwidth_inner hd hl best least hw r m (i + 1) _ (by omega) (by omega) ?_
   rw [← Nat.add_assoc] at h
   exact h
  ·rw [if_neg hp, Nat.zero_add] at h
   refine Ev.if_f (by omega) ?_
   exact pwidth_inner hd hl best least hw r m (i + 1) n (by omega) (by omega) h
theorem cost_small {ds : List Nat} (hd : Lt64 ds) (hl : ds.length ≤ 32) {w : Nat} (hw : w ≤ 64) : (ds.length * w + 7) / 8 ≤ 257 ∧ costOf ds w ≤ 600 := by
 have h1 := tailLen_le w ds hd
 have h2 : ds.length * w ≤ 32 * 64 := Nat.mul_le_mul hl hw
 unfold costOf
 omega
theorem pwidth_round {ds : List Nat} (hd : Lt64 ds) (hl : ds.length ≤ 32) (best least : Int) {w : Nat} (hw : w ≤ 64) (r : Int)
  (h : Ev (fun k => if least < 0 then pfor_width.l0 k (up ds) (w : Int) (costOf ds w : Int) ((w + 1 : Nat) : Int) else if (costOf ds w : Int) < least then pfor_width.l0 k (up ds) (w : Int) (costOf ds w : Int) ((w + 1 : Nat) : Int) else pfor_width.l0 k (up ds) best least ((w + 1 : Nat) : Int)) r) :
  Ev (fun k => pfor_width.l0 k (up ds) best least (w : Int)) r := by
 apply Ev.succ
 simp only [pfor_width.l0]
 refine Ev.if_t (by omega) ?_
 rw [up_length, wrap_size ds.length w hw (by omega)]
 have hs := (cost_small hd hl hw).1
 refine pwidth_inner hd hl best least hw r ds.length 0 _ (by omega) (by omega) ?_
 rw [inc w (by omega), List.drop_zero]
 exact h
theorem pwidth_loop {ds : List Nat} (hd : Lt64 ds) (hl : ds.length ≤ 32) : ∀ (m w : Nat), w + m = 64 →
  Ev (fun k => pfor_width.l0 k (up ds) (bestW (costOf ds) w : Int) (costOf ds (bestW (costOf ds) w) : Int) ((w + 1 : Nat) : Int)) (bestW (costOf ds) 64 : Int)
 | 0, w, hm => by
  obtain rfl : w = 64 := by omega
  apply Ev.succ
  simp only [pfor_width.l0]
  exact Ev.if_f (by omega) (Ev.now _)
 | m + 1, w, hm => by
  refine pwidth_round hd hl _ _ (by omega) _ ?_
  have ih := pwidth_loop hd hl m (w + 1) (by omega)
  refine Ev.if_f (by omega) ?_
  rw [bestW] at ih
  by_cases h : costOf ds (w + 1) < costOf ds (bestW (costOf ds) w)
  ·rw [if_pos h] at ih
   exact Ev.if_t (by omega) ih
  ·rw [if_neg h] at ih
   exact Ev.if_f (by omega) ih
theorem pwidth_ev {ds : List Nat} (hd : Lt64 ds) (hl : ds.length ≤ 32) : Ev (fun k => pfor_width.f k (up ds)) (bestW (costOf ds) 64 : Int) := by
 unfold pfor_width.f
 have := pwidth_round hd hl 0 (-1) (w := 0) (by omega) (bestW (costOf ds) 64 : Int) (Ev.if_t (by decide) (pwidth_loop hd hl 64 0 (by omega)))
 exact this
theorem rd_L2_nat (ls : List (List Int)) (i : Nat) (h : i < ls.length) : rd_L5 ls (i : Int) = ls[i] := by
 unfold rd_L5
 rw [Int.toNat_natCast, List.getD_eq_getElem?_getD, List.getElem?_eq_getElem h]; rfl
theorem concat_l1 (ls : List (List Int)) (hn : ls.length ≤ 1000000) : ∀ (m i : Nat) (acc : List Int), i + m = ls.length → acc.length + (ls.drop i).flatten.length < 140737488355328 →
  Ev (fun k => slices_Concat_byte_byte.l1 k acc ls (ls.length : Int) (i : Int)) (acc ++ (ls.drop i).flatten)
 | 0, i, acc, hi, hb => by
  apply Ev.succ
  simp only [slices_Concat_byte_byte.l1]
  rw [List.drop_of_length_le (by omega)]
  simp only [List.flatten_nil, List.append_nil]
  exact Ev.if_f (by omega) (Ev.now _)
 | m + 1, i, acc, hi, hb => by
  have hil : i < ls.length := by omega
  rw [List.drop_eq_getElem_cons hil, List.flatten_cons, List.length_append] at hb
  apply Ev.succ
  simp only [slices_Concat_byte_byte.l1]
  rw [rd_L2_nat ls i hil, inc i (by omega), List.drop_eq_getElem_cons hil, List.flatten_cons, ← List.append_assoc]
  refine Ev.if_t (by omega) (Ev.if_t (by omega) (Ev.if_t (by omega) (Ev.if_t (by omega) ?_)))
  exact concat_l1 ls hn m (i + 1) _ (by omega) (by rw [List.length_append]; omega)
theorem concat_l0 (ls : List (List Int)) (hn : ls.length ≤ 1000000) (hb : ls.flatten.length < 140737488355328) : ∀ (m i s : Nat), i + m = ls.length → s + (ls.drop i).flatten.length = ls.flatten.length →
  Ev (fun k => slices_Concat_byte_byte.l0 k ls (s : Int) ls (ls.length : Int) (i : Int)) ls.flatten
 | 0, i, s, hi, hs => by
  apply Ev.succ
  simp only [slices_Concat_byte_byte.l0]
  refine Ev.if_f (by omega) (Ev.obind (a := []) ?_ ?_)
  ·unfold slices_Grow_byte_byte.f
   rw [if_pos (by omega), if_pos (by simp; omega)]
  ·have := concat_l1 ls hn ls.length 0 [] (by omega) (by simpa using hb)
   simpa using this
 | m + 1, i, s, hi, hs => by
  have hil : i < ls.length := by omega
  rw [List.drop_eq_getElem_cons hil, List.flatten_cons, List.length_append] at hs
  apply Ev.succ
  simp only [slices_Concat_byte_byte.l0]
  rw [rd_L2_nat ls i hil, inc i (by omega), add64 s _ (by omega)]
  refine Ev.if_t (by omega) (Ev.if_t (by omega) (Ev.if_t (by omega) (Ev.if_f (by omega) ?_)))
  exact concat_l0 ls hn hb m (i + 1) _ (by omega) (by omega)
theorem concat_ev (ls : List (List Int)) (hn : ls.length ≤ 1000000) (hb : ls.flatten.length < 140737488355328) : Ev (fun k => slices_Concat_byte_byte.f k ls) ls.flatten := by
 unfold slices_Concat_byte_byte.f
 exact concat_l0 ls hn hb ls.length 0 0 (by omega) (by simp)
def minN : Nat → List Nat → Nat
 | m, [] => m
 | m, x :: r => minN (min m x) r
theorem minN_le : ∀ (l : List Nat) (m : Nat), minN m l ≤ m ∧ ∀ x ∈ l, minN m l ≤ x
 | [], m => ⟨Nat.le_refl _, fun x h => by cases h⟩
 | y :: r, m => by
  have ih := minN_le r (min m y)
  rw [minN]
  refine ⟨by omega, fun x hx => ?_⟩
  rcases List.mem_cons.1 hx with rfl | h
  ·omega
  ·exact ih.2 x h
theorem mn_nat (a b : Nat) : mn (a : Int) (b : Int) = ((min a b : Nat) : Int) := mn_eq a b
theorem min_loop (l : List Nat) (hn : l.length ≤ 1000000) : ∀ (m i a : Nat), i + m = l.length →
  Ev (fun k => slices_Min_uint64_uint64.l0 k (up l) (a : Int) (i : Int)) (minN a (l.drop i) : Int)
 | 0, i, a, hi => by
  apply Ev.succ
  simp only [slices_Min_uint64_uint64.l0]
  rw [List.drop_of_length_le (by omega)]
  exact Ev.if_f (by simp; omega) (Ev.now _)
 | m + 1, i, a, hi => by
  have hil : i < l.length := by omega
  apply Ev.succ
  simp only [slices_Min_uint64_uint64.l0]
  rw [rd_up l i hil, inc i (by omega), mn_nat, List.drop_eq_getElem_cons hil, minN]
  exact Ev.if_t (by simp; omega) (Ev.if_t (by omega) (min_loop l hn m (i + 1) _ (by omega)))
theorem min_ev (x : Nat) (r : List Nat) (hn : r.length ≤ 1000) : Ev (fun k => slices_Min_uint64_uint64.f k (up (x :: r))) (minN x r : Int) := by
 unfold slices_Min_uint64_uint64.f
 rw [show rd (up (x :: r)) 0 = (x : Int) from rd_up (x :: r) 0 (by simp)]
 refine Ev.if_f (by simp; omega) (Ev.if_t (by simp) ?_)
 have := min_loop (x :: r) (by simp; omega) r.length 1 x (by simp; omega)
 simpa using this
def baseOf : List Nat → Nat
 | [] => 0
 | x :: r => minN x r
def lessOf (ns : List Nat) : List Nat := ns.map fun n => n - baseOf ns
def byOf (base : Nat) (ds : List Nat) (w : Nat) : List Int := (ds.length : Int) :: (numEnc base ++ ((w : Int) :: (cntOf w ds : Int) :: (packOf w (lowOf w ds) ++ tailOf w 0 ds)))
def widthB (ns : List Nat) : Nat := bestW (costOf (lessOf ns)) 64
def blockOf (ns : List Nat) : List Int := byOf (baseOf ns) (lessOf ns) (widthB ns)
theorem length_byOf (base : Nat) (ds : List Nat) (w : Nat) : (byOf base ds w).length = 3 + (numEnc base).length + costOf ds w := by
 unfold byOf costOf
 simp only [List.length_cons, List.length_append, length_packOf, length_lowOf, length_tailOf]
 rw [Nat.mul_comm w]
 omega
theorem baseOf_le (ns : List Nat) (i : Nat) (h : i < ns.length) : baseOf ns ≤ ns[i] := by
 cases ns with
 | nil => simp at h
 | cons x r =>
  have := minN_le r x
  cases i with
  | zero => exact this.1
  | succ i => exact this.2 _ (List.getElem_mem _)
theorem baseOf_lt {ns : List Nat} (h : Lt64 ns) : baseOf ns < 2 ^ 64 := by
 cases ns with
 | nil => decide
 | cons x r => exact Nat.lt_of_le_of_lt (minN_le r x).1 (h x List.mem_cons_self)
theorem lt_lessOf {ns : List Nat} (h : Lt64 ns) : Lt64 (lessOf ns) := fun x hx => by
 obtain ⟨n, hn, rfl⟩ := List.mem_map.1 hx
 exact Nat.lt_of_le_of_lt (Nat.sub_le _ _) (h n hn)
@[simp] theorem length_lessOf (ns : List Nat) : (lessOf ns).length = ns.length := by simp [lessOf]
theorem lessOf_get (ns : List Nat) (i : Nat) (h : i < ns.length) : (lessOf ns)[i]'(by simpa using h) = ns[i] - baseOf ns := by simp [lessOf]
theorem widthB_le (ns : List Nat) : widthB ns ≤ 64 := bestW_le _ _
theorem low_bits (d w : Nat) (hd : d < 2 ^ 64) (hw : w ≤ 64) : Go.bits .andNot .u64 (d : Int) (shl .u64 ((d / 2 ^ w : Nat) : Int) (w : Int)) = ((d % 2 ^ w : Nat) : Int) := by
 have hle : d / 2 ^ w * 2 ^ w ≤ d := Nat.div_mul_le_self _ _
 rw [shl_u64 _ _ hw, show (((d / 2 ^ w : Nat) : Int) * 2 ^ w) = ((d / 2 ^ w * 2 ^ w : Nat) : Int) by simp, wu64 (by omega) (by omega), u64_andNot_nat d _ (by omega) (by omega)]
 congr 1
 apply Nat.eq_of_testBit_eq
 intro i
 rw [Nat.testBit_and, show 18446744073709551615 - d / 2 ^ w * 2 ^ w = 2 ^ 64 - (d / 2 ^ w * 2 ^ w + 1) by omega, Nat.testBit_two_pow_sub_succ (by omega), Nat.testBit_mod_two_pow, Nat.testBit_mul_two_pow, Nat.testBit_div_two_pow]
 by_cases hi : i < w
 ·simp [hi, show ¬ w ≤ i by omega]; omega
 ·by_cases hb : d.testBit i = true
  ·have : i < 64 := by
    rcases Nat.lt_or_ge i 64 with h | h
    ·exact h
    ·rw [Nat.testBit_lt_two_pow (Nat.lt_of_lt_of_le hd (Nat.pow_le_pow_right (by decide) h))] at hb; exact absurd hb (by decide)
   simp [hi, show w ≤ i by omega, hb, show i - w + w = i by omega]
  ·simp [hi, hb]
end Go.Proofs.YtcjkmmajokkkfaaQ
end
section
namespace Go.Proofs.YtcjkmmajokkkfaaQ
open Go.RowKit Go.Proofs.YtcjkmmajokkkfaaW.PrintWords Go.Proofs.YtcjkmmajokkkfaaW.PrintMore Go.Proofs.YtcjkmmajokkkfaaW.PrintLast Go.Proofs.Ytcjkmmajokkkfaa.P
theorem byte_nat (n : Nat) (h : n ≤ 255) : ((n : Int)) % 256 = (n : Int) := by omega
theorem blockCost_small {ns : List Nat} (h : Lt64 ns) (hl : ns.length ≤ 32) {w : Nat} (hw : w ≤ 64) : costOf (lessOf ns) w ≤ 600 := (cost_small (lt_lessOf h) (by simpa using hl) hw).2
theorem length_blockOf_le {ns : List Nat} (h : Lt64 ns) (hl : ns.length ≤ 32) : (blockOf ns).length ≤ 700 := by
 have h1 := blockCost_small h hl (widthB_le ns)
 have h2 := length_numEnc_le (baseOf_lt h)
 unfold blockOf
 rw [length_byOf]
 omega
theorem put_l1 (b : List Int) (hb : b.length ≤ 140737488352000) (l1 : List Int) (ln : Nat) (hln : l1.length = ln) (h32 : ln ≤ 32) (base : Nat) (hbase : base < 2 ^ 64) {ds : List Nat} (hd : Lt64 ds) (hl : ds.length = ln) {w : Nat} (hw : w ≤ 64) : ∀ (m i : Nat), i + m = ds.length →
    Ev (fun k => pfor_PutBlock.l1 k b l1 (base : Int) (w : Int) (tailOf w 0 (ds.take i)) (cntOf w (ds.take i) : Int) (fill (lowOf w ds) i) (up ds) (ds.length : Int) (i : Int)) (b ++ byOf base ds w, 0)
  | 0, i, hi => by
    obtain rfl : i = ds.length := by omega
    have hk := cntOf_le w ds
    have hs := cost_small hd (by omega) hw
    have ht := tailLen_le w ds hd
    have h9 := length_numEnc_le hbase
    apply Ev.succ
    simp only [pfor_PutBlock.l1]
    rw [List.take_length, show fill (lowOf w ds) ds.length = lowOf w ds by rw [← length_lowOf w ds]; exact fill_all _]
    refine Ev.if_f (by omega) (Ev.bind (pack_ok (u64_lowOf hd w) (by rw [length_lowOf]; omega) hw (fit_lowOf w ds)) (Ev.if_t rfl (Ev.obind (clone8 (by omega)) (Ev.if_t (by omega) ?_))))
    rw [hln, ← hl, byte_nat _ (by omega), byte_nat w (by omega), byte_nat (cntOf w ds) (by omega)]
    refine Ev.bind (put_ev (b ++ [(ds.length : Int)]) (by simp; omega) hbase) ?_
    simp only [Option.bind_some]
    refine Ev.if_t (by simp only [List.length_append, List.length_cons, List.length_nil]; omega) ?_
    have e : [b ++ [(ds.length : Int)] ++ numEnc base ++ [(w : Int), (cntOf w ds : Int)], packOf w (lowOf w ds), tailOf w 0 ds].flatten = b ++ byOf base ds w := by
      unfold byOf
      simp
    have hc := concat_ev [b ++ [(ds.length : Int)] ++ numEnc base ++ [(w : Int), (cntOf w ds : Int)], packOf w (lowOf w ds), tailOf w 0 ds] (by simp) (by
      rw [e, List.length_append, length_byOf]; omega)
    rw [e] at hc
    exact Ev.bind hc (Ev.now _)
  | m + 1, i, hi => by
    have hil : i < ds.length := by omega
    have hx := hd.get i hil
    have hk := cntOf_le w (ds.take i)
    have ht := tailLen_le w (ds.take i) (hd.take i)
    rw [List.length_take] at hk ht
    have ih := put_l1 b hb l1 ln hln h32 base hbase hd hl hw m (i + 1) (by omega)
    rw [tailOf_snoc w ds i hil, cntOf_snoc w ds i hil, ← fill_set _ i (by rw [length_lowOf]; exact hil), lowOf_get w ds i hil] at ih
    apply Ev.succ
    simp only [pfor_PutBlock.l1]
    rw [rd_up ds i hil, inc i (by omega), Int.toNat_natCast, fill_length _ _ (by rw [length_lowOf]; omega), length_lowOf, up_length]
    refine Ev.if_t (by omega) (Ev.if_t (by omega) (Ev.if_t (by omega) (Ev.obind (high_eq hx hw) (Ev.if_t (by omega) ?_))))
    simp only [Option.bind_some]
    by_cases hp : 0 < ds[i] / 2 ^ w
    · rw [if_pos hp, if_pos hp] at ih
      refine Ev.if_t (by omega) (Ev.if_t (by omega) (Ev.if_t (by rw [length_tailOf]; omega) ?_))
      rw [byte_nat i (by omega), inc (cntOf w (ds.take i)) (by omega), low_bits _ w hx hw, List.set_set]
      refine Ev.bind (put_ev _ (by rw [List.length_append, length_tailOf]; simp; omega) (div_lt64 hx w)) ?_
      rw [List.append_assoc]
      exact ih
    · rw [if_neg hp, if_neg hp, List.append_nil, Nat.add_zero] at ih
      refine Ev.if_f (by omega) ?_
      have : ds[i] % 2 ^ w = ds[i] := by
        have h1 := Nat.mod_add_div ds[i] (2 ^ w)
        rw [Nat.eq_zero_of_not_pos hp, Nat.mul_zero] at h1
        exact h1
      rw [this] at ih
      exact ih
theorem put_l0 (b : List Int) (hb : b.length ≤ 140737488352000) {ns : List Nat} (hn : Lt64 ns) (h32 : ns.length ≤ 32) : ∀ (m i : Nat), i + m = ns.length →
  Ev (fun k => pfor_PutBlock.l0 k b (up ns) (baseOf ns : Int) (fill (up (lessOf ns)) i) (up ns) (ns.length : Int) (i : Int)) (b ++ blockOf ns, 0)
 | 0, i, hi => by
  obtain rfl : i = ns.length := by omega
  apply Ev.succ
  simp only [pfor_PutBlock.l0]
  have ef : fill (up (lessOf ns)) ns.length = up (lessOf ns) := by
   have := fill_all (up (lessOf ns))
   rwa [up_length, length_lessOf] at this
  rw [ef]
  refine Ev.if_f (by omega) (Ev.bind (pwidth_ev (lt_lessOf hn) (by simpa using h32)) (Ev.if_t (by omega) (Ev.if_t (by simp; omega) ?_)))
  have := put_l1 b hb (up ns) ns.length (up_length ns) h32 (baseOf ns) (baseOf_lt hn) (lt_lessOf hn) (length_lessOf ns) (widthB_le ns) (lessOf ns).length 0 (by omega)
  rw [fill_zero, length_lowOf, length_lessOf] at this
  simp only [up_length, Int.toNat_natCast, length_lessOf]
  exact this
 | m + 1, i, hi => by
  have hil : i < ns.length := by omega
  have hx := hn.get i hil
  have hle := baseOf_le ns i hil
  have ih := put_l0 b hb hn h32 m (i + 1) (by omega)
  rw [← fill_set _ i (by simpa using hil), up_get (lessOf ns) i (by simpa using hil), lessOf_get ns i hil] at ih
  apply Ev.succ
  simp only [pfor_PutBlock.l0]
  rw [rd_up ns i hil, inc i (by omega), Int.toNat_natCast, fill_length _ _ (by simp; omega), wu64 (by omega) (by omega), show (ns[i] : Int) - (baseOf ns : Int) = ((ns[i] - baseOf ns : Nat) : Int) by omega]
  exact Ev.if_t (by omega) (Ev.if_t (by omega) (Ev.if_t (by simpa using hil) (Ev.if_t (by simpa using hil) ih)))
theorem putBlock_ok (b : List Int) (hb : b.length ≤ 140737488352000) {ns : List Nat} (hn : Lt64 ns) (h1 : 1 ≤ ns.length) (h32 : ns.length ≤ 32) : Ev (fun k => pfor_PutBlock.f k b (up ns)) (b ++ blockOf ns, 0) := by
 unfold pfor_PutBlock.f
 refine Ev.if_f (by simp; omega) ?_
 rw [decide_eq_false (by simp; omega)]
 apply Ev.succ
 simp only [pfor_PutBlock.j0]
 refine Ev.if_f (by decide) ?_
 cases ns with
 | nil => simp at h1
 | cons x r =>
  refine Ev.bind (min_ev x r (by simp at h32; omega)) (Ev.if_t (by omega) (Ev.if_t (by simp at h32 ⊢; omega) ?_))
  have := put_l0 b hb hn h32 (x :: r).length 0 (by omega)
  rw [fill_zero] at this
  simp only [up_length, length_lessOf, Int.toNat_natCast] at this ⊢
  exact this
theorem rem_shl {d w : Nat} (hd : d < 2 ^ 64) (hw : w < 64) : ¬ shl .u64 1 (w : Int) = 0 ∧ Int.tmod (d : Int) (shl .u64 1 (w : Int)) = ((d % 2 ^ w : Nat) : Int) := by
 have h1 : 2 ^ w ≤ 2 ^ 63 := Nat.pow_le_pow_right (by decide) (by omega)
 have h2 := two_pow_pos' w
 have e : shl .u64 1 (w : Int) = ((2 ^ w : Nat) : Int) := by
  rw [shl_u64 _ _ (by omega), Int.one_mul, ← cast_pow, wu64 (by omega) (by omega)]
 rw [e]
 refine ⟨by omega, ?_⟩
 rw [Int.tmod_eq_emod_of_nonneg (by omega)]
 omega
theorem by_l1 {ns : List Nat} (hn : Lt64 ns) (h32 : ns.length ≤ 32) {w : Nat} (hw : w ≤ 64) : ∀ (m i : Nat), i + m = ns.length →
  Ev (fun k => dragnetref04_By.l1 k (up ns) (w : Int) (baseOf ns : Int) ((lowOf w (lessOf ns)).take i) (tailOf w 0 ((lessOf ns).take i)) (cntOf w ((lessOf ns).take i) : Int) (i : Int)) (byOf (baseOf ns) (lessOf ns) w)
 | 0, i, hi => by
  obtain rfl : i = ns.length := by omega
  have hd := lt_lessOf hn
  have hk := cntOf_le w (lessOf ns)
  have hs := cost_small hd (by simpa using h32) hw
  have ht := tailLen_le w _ hd
  have h9 := length_numEnc_le (baseOf_lt hn)
  rw [length_lessOf] at hk hs ht
  apply Ev.succ
  simp only [dragnetref04_By.l1]
  rw [show (lowOf w (lessOf ns)).take ns.length = lowOf w (lessOf ns) from List.take_of_length_le (by rw [length_lowOf, length_lessOf]; exact Nat.le_refl _), show (lessOf ns).take ns.length = lessOf ns from List.take_of_length_le (by rw [length_lessOf]; exact Nat.le_refl _)]
  have hp := ref_pack (u64_lowOf hd w) (by rw [length_lowOf, length_lessOf]; omega) hw
  rw [if_pos (fit_lowOf w (lessOf ns))] at hp
  refine Ev.if_f (by simp) (Ev.bind hp ?_)
  simp only [Option.bind_some]
  refine Ev.bind (bytes_ev (baseOf_lt hn)) ?_
  rw [up_length, byte_nat _ (by omega), byte_nat w (by omega), byte_nat (cntOf w (lessOf ns)) (by omega)]
  have hpl : (packOf w (lowOf w (lessOf ns))).length ≤ 257 := by rw [length_packOf, length_lowOf, length_lessOf, Nat.mul_comm]; exact hs.1
  have htl : (tailOf w 0 (lessOf ns)).length ≤ 320 := by rw [length_tailOf]; omega
  refine Ev.if_t (by simp; omega) (Ev.if_t (by simp; omega) (Ev.if_t (by simp; omega) (Ev.if_t (by simp; omega) ?_)))
  refine Ev.of_eq fun _ => ?_
  unfold byOf
  simp
 | m + 1, i, hi => by
  have hil : i < ns.length := by omega
  have hil' : i < (lessOf ns).length := by simpa using hil
  have hx := hn.get i hil
  have hle := baseOf_le ns i hil
  have hk := cntOf_le w ((lessOf ns).take i)
  have ht := tailLen_le w ((lessOf ns).take i) ((lt_lessOf hn).take i)
  rw [List.length_take] at hk ht
  have ih := by_l1 hn h32 hw m (i + 1) (by omega)
  rw [tailOf_snoc w _ i hil', cntOf_snoc w _ i hil', List.take_succ_eq_append_getElem (by rw [length_lowOf]; exact hil'), lowOf_get w _ i hil'] at ih
  apply Ev.succ
  simp only [dragnetref04_By.l1]
  have ed : IntKind.u64.wrap (rd (up ns) (i : Int) - (baseOf ns : Int)) = (((lessOf ns)[i] : Nat) : Int) := by
   rw [rd_up ns i hil, wu64 (by omega) (by omega), lessOf_get ns i hil]; omega
  have hd := (lt_lessOf hn).get i hil'
  rw [ed, inc i (by omega)]
  generalize (lessOf ns)[i] = d at *
  have hlt : ((lowOf w (lessOf ns)).take i).length < 17592186044416 := by rw [List.length_take]; omega
  refine Ev.if_t (by simp; omega) (Ev.if_t (by omega) ?_)
  by_cases h64 : w = 64
  ·subst h64
   have h0 : d / 2 ^ 64 = 0 := fits64 hd (Nat.le_refl _)
   rw [h0, if_neg (by decide), if_neg (by decide), List.append_nil, Nat.add_zero, Nat.mod_eq_of_lt hd] at ih
   exact Ev.if_t rfl (Ev.if_t hlt ih)
  ·obtain ⟨hs0, hs1⟩ := rem_shl hd (show w < 64 by omega)
   rw [hs1]
   refine Ev.if_f (by omega) (Ev.if_t (by omega) (Ev.if_f hs0 (Ev.if_t hlt ?_)))
   simp only [Option.bind_some]
   rw [shr_u64 _ _ hw, show ((d : Int) / 2 ^ w) = ((d / 2 ^ w : Nat) : Int) by simp]
   by_cases hp : 0 < d / 2 ^ w
   ·rw [if_pos hp, if_pos hp] at ih
    have h9 := length_numEnc_le (div_lt64 hd w)
    refine Ev.if_t (by omega) (Ev.if_t (by rw [length_tailOf]; omega) (Ev.bind (bytes_ev (div_lt64 hd w)) (Ev.if_t (by rw [List.length_append, length_tailOf]; simp; omega) ?_)))
    rw [byte_nat i (by omega), inc (cntOf w ((lessOf ns).take i)) (by omega), List.append_assoc]
    exact ih
   ·rw [if_neg hp, if_neg hp, List.append_nil, Nat.add_zero] at ih
    exact Ev.if_f (by omega) ih
theorem by_l0 {ns : List Nat} (hn : Lt64 ns) (h1 : 1 ≤ ns.length) (h32 : ns.length ≤ 32) {w : Nat} (hw : w ≤ 64) : ∀ (m i a : Nat), i + m = ns.length → minN a (ns.drop i) = baseOf ns →
  Ev (fun k => dragnetref04_By.l0 k (up ns) (w : Int) (a : Int) (i : Int)) (byOf (baseOf ns) (lessOf ns) w)
 | 0, i, a, hi, ha => by
  rw [List.drop_of_length_le (by omega), minN] at ha
  subst ha
  apply Ev.succ
  simp only [dragnetref04_By.l0]
  refine Ev.if_f (by simp; omega) ?_
  have := by_l1 hn h32 hw ns.length 0 (by omega)
  exact this
 | m + 1, i, a, hi, ha => by
  have hil : i < ns.length := by omega
  rw [List.drop_eq_getElem_cons hil, minN] at ha
  apply Ev.succ
  simp only [dragnetref04_By.l0]
  rw [rd_up ns i hil, inc i (by omega), mn_nat]
  exact Ev.if_t (by simp; omega) (Ev.if_t (by omega) (by_l0 hn h1 h32 hw m (i + 1) _ (by omega) ha))
theorem by_ev {ns : List Nat} (hn : Lt64 ns) (h1 : 1 ≤ ns.length) (h32 : ns.length ≤ 32) {w : Nat} (hw : w ≤ 64) : Ev (fun k => dragnetref04_By.f k (up ns) (w : Int)) (byOf (baseOf ns) (lessOf ns) w) := by
 unfold dragnetref04_By.f
 refine Ev.if_t (by simp; omega) ?_
 cases ns with
 | nil => simp at h1
 | cons x r =>
  rw [show rd (up (x :: r)) 0 = (x : Int) from rd_up (x :: r) 0 (by simp)]
  refine by_l0 hn h1 h32 hw (x :: r).length 0 x (by omega) ?_
  simp [minN, baseOf]
theorem block_l0 {ns : List Nat} (hn : Lt64 ns) (h1 : 1 ≤ ns.length) (h32 : ns.length ≤ 32) : ∀ (m w : Nat), w + m = 64 →
  Ev (fun k => dragnetref04_Block.l0 k (up ns) (byOf (baseOf ns) (lessOf ns) (bestW (costOf (lessOf ns)) w)) ((w + 1 : Nat) : Int)) (blockOf ns)
 | 0, w, hm => by
  obtain rfl : w = 64 := by omega
  apply Ev.succ
  simp only [dragnetref04_Block.l0]
  exact Ev.if_f (by omega) (Ev.now _)
 | m + 1, w, hm => by
  have ih := block_l0 hn h1 h32 m (w + 1) (by omega)
  rw [bestW] at ih
  apply Ev.succ
  simp only [dragnetref04_Block.l0]
  rw [inc (w + 1) (by omega)]
  refine Ev.if_t (by omega) (Ev.bind (by_ev hn h1 h32 (by omega)) ?_)
  rw [length_byOf, length_byOf]
  by_cases h : costOf (lessOf ns) (w + 1) < costOf (lessOf ns) (bestW (costOf (lessOf ns)) w)
  ·rw [if_pos h] at ih
   exact Ev.if_t (by omega) ih
  ·rw [if_neg h] at ih
   exact Ev.if_f (by omega) ih
theorem block_ev {ns : List Nat} (hn : Lt64 ns) (h1 : 1 ≤ ns.length) (h32 : ns.length ≤ 32) : Ev (fun k => dragnetref04_Block.f k (up ns)) (blockOf ns) := by
 unfold dragnetref04_Block.f
 exact Ev.bind (by_ev hn h1 h32 (w := 0) (by omega)) (block_l0 hn h1 h32 64 0 (by omega))
theorem in_tailOf (w : Nat) : ∀ (ds : List Nat) (i : Nat), Lt64 ds → i + ds.length ≤ 255 → B8 (tailOf w i ds)
 | [], i, _, _ => In.nil _
 | d :: ds, i, h, hi => by
  rw [List.length_cons] at hi
  rw [tailOf]
  refine In.append ?_ (in_tailOf w ds (i + 1) (fun x hx => h x (List.mem_cons_of_mem _ hx)) (by omega))
  split
  ·exact In.mk_cons (by omega) (in_numEnc (div_lt64 (h d List.mem_cons_self) w))
  ·exact In.nil _
theorem in_byOf {base : Nat} (hb : base < 2 ^ 64) {ds : List Nat} (hd : Lt64 ds) (h32 : ds.length ≤ 32) {w : Nat} (hw : w ≤ 64) : B8 (byOf base ds w) := by
 have hk := cntOf_le w ds
 exact In.mk_cons (by omega) (In.append (in_numEnc hb) (In.mk_cons (by omega) (In.mk_cons (by omega) (In.append (in_packOf _ _) (in_tailOf w ds 0 hd (by omega))))))
theorem in_blockOf {ns : List Nat} (hn : Lt64 ns) (h32 : ns.length ≤ 32) : B8 (blockOf ns) := in_byOf (baseOf_lt hn) (lt_lessOf hn) (by simpa using h32) (widthB_le ns)
end Go.Proofs.YtcjkmmajokkkfaaQ
end
section
namespace Go.Proofs.YtcjkmmajokkkfaaQ
open Go.RowKit Go.Proofs.YtcjkmmajokkkfaaW.PrintWords Go.Proofs.YtcjkmmajokkkfaaW.PrintMore Go.Proofs.YtcjkmmajokkkfaaW.PrintLast Go.Proofs.Ytcjkmmajokkkfaa.P
def takeN (b : List Int) : Option (Nat × Nat) := if (takeOf b).2.2 = 0 then some ((takeOf b).1.toNat, (takeOf b).2.1.toNat) else none
def highsN (n w : Nat) (b : List Int) : Nat → Nat → List Nat → Option (List Nat × Nat)
 | 0, at_, l => some (l, at_)
 | c + 1, at_, l =>
  if b.length ≤ at_ then none else if (n : Int) ≤ b.getD at_ 0 then none else if w = 64 then none else
  match takeN (b.drop (at_ + 1)) with
  | none => none
  | some (h, k) => highsN n w b c (at_ + 1 + k) (l.set (b.getD at_ 0).toNat ((l.getD (b.getD at_ 0).toNat 0 + h * 2 ^ w) % 2 ^ 64))
def unN (V w n : Nat) : List Nat := (List.range n).map fun i => V / 2 ^ (i * w) % 2 ^ w
def addN (base : Nat) (l : List Nat) : List Nat := l.map fun x => (x + base) % 2 ^ 64
def bodyN (b : List Int) (n base at_ w c : Nat) : Option (List Nat × Nat) :=
 if b.length < at_ + 2 + (n * w + 7) / 8 then none else
 if 2 ^ (n * w) ≤ val ((b.take (at_ + 2 + (n * w + 7) / 8)).drop (at_ + 2)) then none else
 match highsN n w b c (at_ + 2 + (n * w + 7) / 8) (unN (val ((b.take (at_ + 2 + (n * w + 7) / 8)).drop (at_ + 2))) w n) with
 | none => none
 | some (l, z) => some (addN base l, z)
def readN (s : Bool) : List Int → Option (List Nat × Nat)
 | [] => none
 | n0 :: rest =>
  if n0 < 1 then none else if 32 < n0 then none else
  match takeN rest with
  | none => none
  | some (base, k) =>
   if (n0 :: rest).length < 1 + k + 2 then none else
   if 64 < (n0 :: rest).getD (1 + k) 0 then none else
   if (if s then n0 else 32) < (n0 :: rest).getD (1 + k + 1) 0 then none else
   bodyN (n0 :: rest) n0.toNat base (1 + k) ((n0 :: rest).getD (1 + k) 0).toNat ((n0 :: rest).getD (1 + k + 1) 0).toNat
end Go.Proofs.YtcjkmmajokkkfaaQ
end
section
namespace Go.Proofs.YtcjkmmajokkkfaaQ
open Go.RowKit Go.Proofs.YtcjkmmajokkkfaaW.PrintWords Go.Proofs.YtcjkmmajokkkfaaW.PrintMore Go.Proofs.YtcjkmmajokkkfaaW.PrintLast Go.Proofs.Ytcjkmmajokkkfaa.P
def takeB (s : Bool) (b : List Int) : List Int × Int × Int :=
 match readN s b with
 | none => ([], 0, 2)
 | some (l, z) => if blockOf l = b.take z then (up l, (z : Int), 0) else ([], 0, 2)
end Go.Proofs.YtcjkmmajokkkfaaQ
end
section
namespace Go.Proofs.YtcjkmmajokkkfaaQ
open Go.RowKit Go.Proofs.YtcjkmmajokkkfaaW.PrintWords Go.Proofs.YtcjkmmajokkkfaaW.PrintMore Go.Proofs.YtcjkmmajokkkfaaW.PrintLast Go.Proofs.Ytcjkmmajokkkfaa.P
def blocksF : Nat → List Nat → List Int
 | 0, _ => []
 | m + 1, ns => if ns.length = 0 then [] else blockOf (ns.take 32) ++ blocksF m (ns.drop 32)
def listOf (m : Nat) (ns : List Nat) : List Int := numEnc ns.length ++ blocksF m ns
theorem blocksF_len (m : Nat) : ∀ (ns : List Nat), Lt64 ns → (blocksF m ns).length ≤ 700 * ns.length := by
 induction m with
 | zero => intro ns _; exact Nat.zero_le _
 | succ m ih =>
  intro ns h
  rw [blocksF]
  by_cases h0 : ns.length = 0
  ·rw [if_pos h0]; exact Nat.zero_le _
  ·rw [if_neg h0, List.length_append]
   have h1 := length_blockOf_le (h.take 32) (by rw [List.length_take]; omega)
   have h2 := ih (ns.drop 32) (h.drop 32)
   rw [List.length_drop] at h2
   omega
theorem in_blocksF (m : Nat) : ∀ (ns : List Nat), Lt64 ns → B8 (blocksF m ns) := by
 induction m with
 | zero => intro ns _; exact In.nil _
 | succ m ih =>
  intro ns h
  rw [blocksF]
  by_cases h0 : ns.length = 0
  ·rw [if_pos h0]; exact In.nil _
  ·rw [if_neg h0]
   exact In.append (in_blockOf (h.take 32) (by rw [List.length_take]; omega)) (ih _ (h.drop 32))
theorem in_listOf {m : Nat} {ns : List Nat} (h : Lt64 ns) (hn : ns.length ≤ 1000000) : B8 (listOf m ns) := In.append (in_numEnc (by omega)) (in_blocksF m ns h)
theorem listOf_len {m : Nat} {ns : List Nat} (h : Lt64 ns) (hn : ns.length ≤ 1000000) : (listOf m ns).length ≤ 9 + 700 * ns.length := by
 have h1 := length_numEnc_le (v := ns.length) (by omega)
 have h2 := blocksF_len m ns h
 unfold listOf
 rw [List.length_append]
 omega
theorem putList_l0 : ∀ (m : Nat) (ns : List Nat) (out : List Int), Lt64 ns → ns.length ≤ 32 * m → out.length + 700 * ns.length ≤ 140737488352000 → Ev (fun k => pfor_PutList.l0 k out (up ns)) (out ++ blocksF m ns)
 | 0, ns, out, h, hm, hb => by
  apply Ev.succ
  simp only [pfor_PutList.l0]
  refine Ev.if_t (by rw [up_length]; omega) ?_
  rw [blocksF, List.append_nil]
  exact Ev.now _
 | m + 1, ns, out, h, hm, hb => by
  apply Ev.succ
  simp only [pfor_PutList.l0]
  rw [blocksF]
  by_cases h0 : ns.length = 0
  ·rw [if_pos h0, List.append_nil]
   exact Ev.if_t (by rw [up_length]; omega) (Ev.now _)
  ·rw [if_neg h0]
   have h1 := length_blockOf_le (h.take 32) (by rw [List.length_take]; omega)
   refine Ev.if_f (by rw [up_length]; omega) ?_
   rw [up_take, up_drop]
   refine Ev.bind (putBlock_ok out (by omega) (h.take 32) (by rw [List.length_take]; omega) (by rw [List.length_take]; omega)) ?_
   have ih := putList_l0 m (ns.drop 32) (out ++ blockOf (ns.take 32)) (h.drop 32) (by rw [List.length_drop]; omega) (by rw [List.length_append, List.length_drop]; omega)
   rw [List.append_assoc] at ih
   exact ih
theorem putList_ok (b : List Int) (hB : B8 b) {ns : List Nat} (h : Lt64 ns) (hb : b.length + 2000 + 1000 * ns.length ≤ 140737488350000) : pfor_PutList.Ok b (up ns) := by
 refine ⟨hB, by rw [up_length]; omega, fun acc ha hal j hj => ?_⟩
 rw [up_length] at hal hj
 have hc1 : 1 ≤ ((ns.drop (32 * j)).take 32).length := by simp; omega
 have hc2 : ((ns.drop (32 * j)).take 32).length ≤ 32 := by simp; omega
 have hc3 : Lt64 ((ns.drop (32 * j)).take 32) := (h.drop _).take _
 obtain ⟨k, hk⟩ := (putBlock_ok acc (by omega) hc3 hc1 hc2).rounds
 refine ⟨k, (acc ++ blockOf ((ns.drop (32 * j)).take 32), 0), ?_, ?_, ?_⟩
 ·rw [up_drop, up_take]; exact hk
 ·exact In.append ha (in_blockOf hc3 hc2)
 ·have := length_blockOf_le hc3 hc2
  simp only [List.length_append]
  omega
theorem putList_ev (b : List Int) (hB : B8 b) {ns : List Nat} (h : Lt64 ns) {m : Nat} (hm : ns.length ≤ 32 * m) (hb : b.length + 2000 + 1000 * ns.length ≤ 140737488350000) : Ev (fun k => pfor_PutList.f k b (up ns)) (b ++ listOf m ns) := by
 have hl : ns.length < 2 ^ 64 := by omega
 have h9 := length_numEnc_le hl
 refine Ev.fn (f := fun k => (num_Put.f k b ((up ns).length : Int)).bind fun t => if (∀ x ∈ t, 0 ≤ x ∧ x ≤ 255) ∧ t.length ≤ b.length + 1000 then pfor_PutList.l0 k t (up ns) else none) ?_ (fun k => ?_)
 ·rw [up_length]
  refine Ev.bind (put_ev b (by omega) hl) (Ev.if_t ⟨In.append hB (in_numEnc hl), by rw [List.length_append]; omega⟩ ?_)
  have := putList_l0 m ns (b ++ numEnc ns.length) h hm (by rw [List.length_append]; omega)
  rw [List.append_assoc] at this
  exact this
 ·unfold pfor_PutList.f
  rw [if_pos (putList_ok b hB h hb)]
theorem chunk_eq (ns : List Nat) (i : Nat) (hi : i ≤ ns.length) : (ns.take (min ns.length (i + 32))).drop i = (ns.drop i).take 32 := by
 rw [List.drop_take]
 by_cases h : i + 32 ≤ ns.length
 ·rw [Nat.min_eq_right h, show i + 32 - i = 32 by omega]
 ·rw [Nat.min_eq_left (by omega), List.take_of_length_le (by simp), List.take_of_length_le (by simp; omega)]
theorem ref_list_l0 {ns : List Nat} (h : Lt64 ns) (hn : ns.length ≤ 1000000) : ∀ (m i : Nat) (out : List Int), ns.length ≤ i + 32 * m → out.length + 700 * (ns.length - i) ≤ 140737488352000 → i ≤ ns.length + 32 →
  Ev (fun k => dragnetref04_List.l0 k (up ns) out (i : Int)) (out ++ blocksF m (ns.drop i))
 | 0, i, out, hm, hb, hi => by
  apply Ev.succ
  simp only [dragnetref04_List.l0]
  rw [blocksF, List.append_nil]
  exact Ev.if_f (by rw [up_length]; omega) (Ev.now _)
 | m + 1, i, out, hm, hb, hi => by
  apply Ev.succ
  simp only [dragnetref04_List.l0]
  rw [blocksF]
  by_cases h0 : ns.length ≤ i
  ·rw [if_pos (by rw [List.length_drop]; omega), List.append_nil]
   exact Ev.if_f (by rw [up_length]; omega) (Ev.now _)
  ·rw [if_neg (by rw [List.length_drop]; omega)]
   have hc1 : 1 ≤ ((ns.drop i).take 32).length := by simp; omega
   have hc2 : ((ns.drop i).take 32).length ≤ 32 := by simp; omega
   have hc3 : Lt64 ((ns.drop i).take 32) := (h.drop _).take _
   have h1 := length_blockOf_le hc3 hc2
   rw [up_length, show (32 : Int) = ((32 : Nat) : Int) from rfl, add64 i 32 (by omega), mn_nat, Int.toNat_natCast, Int.toNat_natCast, up_take, up_drop, chunk_eq ns i (by omega)]
   refine Ev.if_t (by omega) (Ev.if_t (by omega) (Ev.if_t (by omega) (Ev.if_t (by omega) (Ev.bind (block_ev hc3 hc1 hc2) (Ev.if_t (by omega) ?_)))))
   have ih := ref_list_l0 h hn m (i + 32) (out ++ blockOf ((ns.drop i).take 32)) (by omega) (by rw [List.length_append]; omega) (by omega)
   rw [List.append_assoc, ← List.drop_drop] at ih
   exact ih
theorem ref_list_ev {ns : List Nat} (h : Lt64 ns) (hn : ns.length ≤ 1000000) {m : Nat} (hm : ns.length ≤ 32 * m) : Ev (fun k => dragnetref04_List.f k (up ns)) (listOf m ns) := by
 have hl : ns.length < 2 ^ 64 := by omega
 have h9 := length_numEnc_le hl
 unfold dragnetref04_List.f
 rw [up_length, wu64 (by omega) (by omega)]
 refine Ev.bind (bytes_ev hl) ?_
 have := ref_list_l0 h hn m 0 (numEnc ns.length) (by omega) (by omega) (by omega)
 rw [List.drop_zero] at this
 exact this
end Go.Proofs.YtcjkmmajokkkfaaQ
end
section
namespace Go.Proofs.YtcjkmmajokkkfaaQ
open Go.RowKit Go.Proofs.YtcjkmmajokkkfaaW.PrintWords Go.Proofs.YtcjkmmajokkkfaaW.PrintMore Go.Proofs.YtcjkmmajokkkfaaW.PrintLast Go.Proofs.Ytcjkmmajokkkfaa.P
def I64 (l : List Int) : Prop := ∀ x ∈ l, -9223372036854775808 ≤ x ∧ x ≤ 9223372036854775807
theorem I64.get {l : List Int} (h : I64 l) (i : Nat) (hi : i < l.length) : -9223372036854775808 ≤ l[i] ∧ l[i] ≤ 9223372036854775807 := h _ (List.getElem_mem hi)
def foldN (l : List Int) : List Nat := l.map fun x => (foldOf x).toNat
def unfoldN (ns : List Nat) : List Int := ns.map fun (n : Nat) => unfoldOf (n : Int)
@[simp] theorem foldN_length (l : List Int) : (foldN l).length = l.length := by simp [foldN]
@[simp] theorem unfoldN_length (l : List Nat) : (unfoldN l).length = l.length := by simp [unfoldN]
theorem foldN_get (l : List Int) (h : I64 l) (i : Nat) (hi : i < l.length) : (((foldN l)[i]'(by simpa using hi) : Nat) : Int) = foldOf l[i] := by
 have := foldOf_range l[i] (h.get i hi).1 (h.get i hi).2
 simp [foldN]
 omega
theorem lt_foldN {l : List Int} (h : I64 l) : Lt64 (foldN l) := fun x hx => by
 obtain ⟨y, hy, rfl⟩ := List.mem_map.1 hx
 have := foldOf_range y (h y hy).1 (h y hy).2
 omega
theorem putInts_l0 (b : List Int) (hB : B8 b) {l : List Int} (h : I64 l) {m : Nat} (hm : l.length ≤ 32 * m) (hb : b.length + 2000 + 1000 * l.length ≤ 140737488350000) : ∀ (d i : Nat), i + d = l.length →
  Ev (fun k => pfor_PutInts.l0 k b (fill (up (foldN l)) i) l (l.length : Int) (i : Int)) (b ++ listOf m (foldN l))
 | 0, i, hi => by
  obtain rfl : i = l.length := by omega
  apply Ev.succ
  simp only [pfor_PutInts.l0]
  have e : fill (up (foldN l)) l.length = up (foldN l) := by
   have := fill_all (up (foldN l))
   rwa [up_length, foldN_length] at this
  rw [e]
  refine Ev.if_f (by omega) (Ev.bind (putList_ev b hB (lt_foldN h) (m := m) (by simpa using hm) (by simpa using hb)) (Ev.now _))
 | d + 1, i, hi => by
  have hil : i < l.length := by omega
  have hx := h.get i hil
  have ih := putInts_l0 b hB h hm hb d (i + 1) (by omega)
  rw [← fill_set _ i (by simpa using hil), up_get (foldN l) i (by simpa using hil), foldN_get l h i hil] at ih
  apply Ev.succ
  simp only [pfor_PutInts.l0]
  rw [rd_nat l i hil, inc i (by omega), Int.toNat_natCast, fill_length _ _ (by simp; omega)]
  exact Ev.if_t (by omega) (Ev.if_t (by omega) (Ev.if_t (by omega) (Ev.obind (fold_eq _ hx.1 hx.2) (Ev.if_t (by simpa using hil) ih))))
theorem putInts_ev (b : List Int) (hB : B8 b) {l : List Int} (h : I64 l) {m : Nat} (hm : l.length ≤ 32 * m) (hb : b.length + 2000 + 1000 * l.length ≤ 140737488350000) : Ev (fun k => pfor_PutInts.f k b l) (b ++ listOf m (foldN l)) := by
 unfold pfor_PutInts.f
 refine Ev.if_t (by omega) (Ev.if_t (by omega) ?_)
 have := putInts_l0 b hB h hm hb l.length 0 (by omega)
 rw [fill_zero] at this
 simp only [up_length, foldN_length, Int.toNat_natCast] at this ⊢
 exact this
theorem ref_folded_l0 {l : List Int} (h : I64 l) (hn : l.length ≤ 1000000) : ∀ (d i : Nat), i + d = l.length →
  Ev (fun k => dragnetref04_Folded.l0 k l ((up (foldN l)).take i) (i : Int)) (up (foldN l))
 | 0, i, hi => by
  apply Ev.succ
  simp only [dragnetref04_Folded.l0]
  rw [List.take_of_length_le (by simp; omega)]
  exact Ev.if_f (by omega) (Ev.now _)
 | d + 1, i, hi => by
  have hil : i < l.length := by omega
  have hx := h.get i hil
  have ih := ref_folded_l0 h hn d (i + 1) (by omega)
  rw [List.take_succ_eq_append_getElem (by simpa using hil), up_get (foldN l) i (by simpa using hil), foldN_get l h i hil] at ih
  apply Ev.succ
  simp only [dragnetref04_Folded.l0]
  rw [rd_nat l i hil, inc i (by omega)]
  exact Ev.if_t (by omega) (Ev.if_t (by omega) (Ev.obind (ref_fold_eq _ hx.1 hx.2) (Ev.if_t (by rw [List.length_take]; omega) ih)))
theorem ref_ints_ev {l : List Int} (h : I64 l) (hn : l.length ≤ 1000000) {m : Nat} (hm : l.length ≤ 32 * m) : Ev (fun k => dragnetref04_Ints.f k l) (listOf m (foldN l)) := by
 unfold dragnetref04_Ints.f dragnetref04_Folded.f
 have := ref_folded_l0 h hn l.length 0 (by omega)
 rw [List.take_zero] at this
 exact Ev.bind this (Ev.bind (ref_list_ev (lt_foldN h) (by simpa using hn) (m := m) (by simpa using hm)) (Ev.now _))
end Go.Proofs.YtcjkmmajokkkfaaQ
end
section
namespace Go.Proofs.YtcjkmmajokkkfaaQ
open Go.RowKit Go.Proofs.YtcjkmmajokkkfaaW.PrintWords Go.Proofs.YtcjkmmajokkkfaaW.PrintMore Go.Proofs.YtcjkmmajokkkfaaW.PrintLast Go.Proofs.Ytcjkmmajokkkfaa.P
def hasL (l : List S42) : List Int := l.map (fun c => if c.f0 = true then 1 else 0)
def numsL (l : List S42) : List Int := (l.filter (·.f0)).map (·.f1)
def Cells (l : List S42) : Prop := ∀ c ∈ l, -9223372036854775808 ≤ c.f1 ∧ c.f1 ≤ 9223372036854775807
theorem hasL_length (l : List S42) : (hasL l).length = l.length := by simp [hasL]
theorem hasL_u64 (l : List S42) : U64 (hasL l) := by
 intro x hx
 obtain ⟨c, _, rfl⟩ := List.mem_map.1 hx
 split <;> omega
theorem hasL_fit (l : List S42) : Fit 1 (hasL l) := by
 intro x hx
 obtain ⟨c, _, rfl⟩ := List.mem_map.1 hx
 split <;> simp
theorem numsL_i64 {l : List S42} (h : Cells l) : I64 (numsL l) := by
 intro x hx
 obtain ⟨c, hc, rfl⟩ := List.mem_map.1 hx
 exact h c (List.mem_filter.1 hc).1
theorem numsL_length (l : List S42) : (numsL l).length ≤ l.length := by
 unfold numsL
 rw [List.length_map]
 exact List.length_filter_le _ _
theorem hasL_snoc (l : List S42) (c : S42) : hasL (l ++ [c]) = hasL l ++ [if c.f0 = true then 1 else 0] := by simp [hasL]
theorem numsL_snoc (l : List S42) (c : S42) : numsL (l ++ [c]) = numsL l ++ (if c.f0 = true then [c.f1] else []) := by
 unfold numsL
 rw [List.filter_append, List.map_append]
 cases h : c.f0 <;> simp [h]
def bytesL (l : List S42) : List Int := numEnc l.length ++ packOf 1 (hasL l) ++ listOf 4096 (foldN (numsL l))
theorem lay_end (b : List Int) (hB : B8 b) {l : List S42} (hc : Cells l) (hl : l.length ≤ 4096) (hb : b.length + 20000 + 1000 * l.length ≤ 140737488350000) :
  Ev (fun k => (bits_Pack.f k (hasL l) 1).bind fun bt => if bt.2 = 0 then (num_Put.f k b (IntKind.u64.wrap (l.length : Int))).bind fun t => if t.length + bt.1.length < 140737488355328 then (pfor_PutInts.f k (t ++ bt.1) (numsL l)).bind fun u => some (u, (0 : Int)) else none else some (([] : List Int), bt.2)) (b ++ bytesL l, 0) := by
 have h1 := pack_ok (hasL_u64 l) (by rw [hasL_length]; omega) (show 1 ≤ 64 by decide) (hasL_fit l)
 have e1 : IntKind.u64.wrap (l.length : Int) = ((l.length : Nat) : Int) := by
  simp only [IntKind.wrap, IntKind.bits, IntKind.signed, Bool.false_and, Bool.false_eq_true, if_false]
  omega
 have hv : l.length < 2 ^ 64 := by omega
 have h2 := put_ev b (by omega) hv
 have h3 := length_numEnc_le hv
 have h4 := length_packOf 1 (hasL l)
 rw [hasL_length] at h4
 have hn := numsL_length l
 have hB2 : B8 (b ++ numEnc l.length ++ packOf 1 (hasL l)) := In.append (In.append hB (in_numEnc hv)) (in_packOf _ _)
 have h5 := putInts_ev _ hB2 (numsL_i64 hc) (m := 4096) (by omega) (by simp only [List.length_append]; omega)
 refine Ev.bind (a := (packOf 1 (hasL l), (0 : Int))) (by exact_mod_cast h1) (Ev.if_t rfl ?_)
 rw [e1]
 refine Ev.bind h2 (Ev.if_t (by simp only [List.length_append]; omega) (Ev.bind h5 ?_))
 rw [show b ++ bytesL l = b ++ numEnc l.length ++ packOf 1 (hasL l) ++ listOf 4096 (foldN (numsL l)) by simp [bytesL, List.append_assoc]]
 exact Ev.now _
theorem lay_l0 (b : List Int) (hB : B8 b) {l : List S42} (hc : Cells l) (hl : l.length ≤ 4096) (hb : b.length + 20000 + 1000 * l.length ≤ 140737488350000) :
  ∀ (d i : Nat) (x n : List Int), i + d = l.length → x = hasL (l.take i) ++ List.replicate (l.length - i) 0 → n = numsL (l.take i) → Ev (fun k => ints_Put.l0 k b l x n l (l.length : Int) (i : Int)) (b ++ bytesL l, 0)
 | 0, i, x, n, hi, hx, hn => by
  apply Ev.succ
  simp only [ints_Put.l0]
  refine Ev.if_f (by omega) ?_
  have e : l.take i = l := List.take_of_length_le (by omega)
  rw [e, show l.length - i = 0 by omega] at hx
  rw [e] at hn
  simp only [List.replicate_zero, List.append_nil] at hx
  rw [hx, hn]
  exact lay_end b hB hc hl hb
 | d + 1, i, x, n, hi, hx, hn => by
  have hlt : i < l.length := by omega
  have hti : (l.take i).length = i := by rw [List.length_take]; omega
  have hxl : x.length = l.length := by rw [hx, List.length_append, hasL_length, hti, List.length_replicate]; omega
  have hnl := numsL_length (l.take i)
  rw [← hn] at hnl
  apply Ev.succ
  simp only [ints_Put.l0]
  rw [rd42 l i hlt, w64i (x := (i : Int) + 1) (by omega) (by omega), Int.toNat_natCast]
  refine Ev.if_t (by omega) (Ev.if_t (by omega) (Ev.if_t (by omega) ?_))
  have er : l.length - i = (l.length - (i + 1)) + 1 := by omega
  by_cases h : l[i].f0 = true
  ·refine Ev.if_t h (Ev.if_t (by omega) (Ev.if_t (by omega) (lay_l0 b hB hc hl hb d (i + 1) _ _ (by omega) ?_ ?_)))
   ·rw [take_snoc l i hlt, hasL_snoc, if_pos h, hx, er, List.replicate_succ, List.set_append_right _ _ (by rw [hasL_length, hti]; omega), hasL_length, hti, Nat.sub_self, List.set_cons_zero, List.append_assoc]
    rfl
   ·rw [take_snoc l i hlt, numsL_snoc, if_pos h, hn]
  ·refine Ev.if_f h (lay_l0 b hB hc hl hb d (i + 1) _ _ (by omega) ?_ ?_)
   ·rw [take_snoc l i hlt, hasL_snoc, if_neg h, hx, er, List.replicate_succ, List.append_assoc]
    rfl
   ·rw [take_snoc l i hlt, numsL_snoc, if_neg h, List.append_nil, hn]
theorem lay_ev (b : List Int) (hB : B8 b) {l : List S42} (hc : Cells l) (hb : formedOf l = true → b.length + 20000 + 1000 * l.length ≤ 140737488350000) : Ev (fun k => ints_Put.f k b l) (if formedOf l = true then (b ++ bytesL l, 0) else ([], 1)) := by
 unfold ints_Put.f
 refine Ev.bind (formed_ev l) ?_
 cases h : formedOf l with
 | true =>
  have hl := formed_len h
  refine Ev.if_t rfl (Ev.if_t (by omega) (Ev.if_t (by omega) ?_))
  rw [if_pos rfl, Int.toNat_natCast]
  exact lay_l0 b hB hc hl (hb h) l.length 0 _ _ (by omega) (by simp [hasL]) (by simp [numsL])
 | false =>
  refine Ev.if_f (by decide) ?_
  rw [if_neg (by decide)]
  exact Ev.now _
theorem same09 (a b : List Int) (hn : a.length ≤ 9223372036854775000) : Ev (fun k => dragnetref09_Ints.f k a b) (decide (a = b)) := by
 have loop : ∀ (hl : a.length = b.length) (d i : Nat), i + d = a.length → Ev (fun k => dragnetref09_Ints.l0 k a b (i : Int)) (decide (a.drop i = b.drop i)) := by
  intro hl d
  induction d with
  | zero =>
   intro i hi
   apply Ev.succ
   simp only [dragnetref09_Ints.l0]
   rw [List.drop_eq_nil_of_le (by omega), List.drop_eq_nil_of_le (by omega)]
   exact Ev.if_f (by omega) (Ev.now _)
  | succ d ih =>
   intro i hi
   have h1 : i < a.length := by omega
   have h2 : i < b.length := by omega
   have hr : ∀ (l : List Int) (h : i < l.length), rd l (i : Int) = l[i] := fun l h => by simp [rd, h]
   apply Ev.succ
   simp only [dragnetref09_Ints.l0]
   rw [hr a h1, hr b h2, w64i (x := (i : Int) + 1) (by omega) (by omega), List.drop_eq_getElem_cons h1, List.drop_eq_getElem_cons h2]
   refine Ev.if_t (by omega) (Ev.if_t (by omega) (Ev.if_t (by omega) ?_))
   by_cases h : a[i] = b[i]
   ·refine Ev.if_t h ?_
    have := ih (i + 1) (by omega)
    rw [h]
    simp only [List.cons.injEq, true_and]
    exact this
   ·refine Ev.if_f h ?_
    simp only [List.cons.injEq, h, false_and, decide_false]
    exact Ev.now _
 unfold dragnetref09_Ints.f
 by_cases hl : a.length = b.length
 ·exact Ev.if_t (by omega) (by simpa using loop hl a.length 0 (by omega))
 ·refine Ev.if_f (by omega) ?_
  rw [decide_eq_false (fun h => hl (by rw [h]))]
  exact Ev.now _
theorem below_ev (l : List S42) (n : Int) : Ev (fun k => ints_Below.f k l n) (if formedOf l = true then gransOf (fun c => c.f0 && decide (c.f1 < n)) l else []) := by
 unfold ints_Below.f
 refine Ev.bind (zones_ev l) ?_
 unfold zonesOf
 cases h : formedOf l with
 | true =>
  have hl := formed_len h
  have ha := all_length l
  rw [if_pos rfl, if_pos rfl, where_grans _ _ l (fun ch => zone_below ch n)]
  exact Ev.if_t (by omega) (Ev.now _)
 | false =>
  simp only [Bool.false_eq_true, if_false]
  exact Ev.if_t (by simp) (Ev.now _)
theorem above_ev (l : List S42) (n : Int) : Ev (fun k => ints_Above.f k l n) (if formedOf l = true then gransOf (fun c => c.f0 && decide (c.f1 > n)) l else []) := by
 unfold ints_Above.f
 refine Ev.bind (zones_ev l) ?_
 unfold zonesOf
 cases h : formedOf l with
 | true =>
  have hl := formed_len h
  have ha := all_length l
  rw [if_pos rfl, if_pos rfl, where_grans _ _ l (fun ch => zone_above ch n)]
  exact Ev.if_t (by omega) (Ev.now _)
 | false =>
  simp only [Bool.false_eq_true, if_false]
  exact Ev.if_t (by simp) (Ev.now _)
theorem alive10 : Ev (fun k => dragnetlaw10_alive.f k) true := by
 unfold dragnetlaw10_alive.f
 have hc : Cells [(⟨true, 5⟩ : S42), (⟨false, 0⟩ : S42), (⟨true, 7⟩ : S42)] := by intro c hc; simp at hc; rcases hc with rfl | rfl | rfl <;> decide
 have hl := lay_ev [] (fun x hx => by cases hx) hc (fun _ => by decide)
 rw [if_pos (by decide)] at hl
 refine Ev.obind rfl (Ev.bind hl (Ev.if_t rfl ?_))
 have hv : ([] : List Int) ++ bytesL [(⟨true, 5⟩ : S42), (⟨false, 0⟩ : S42), (⟨true, 7⟩ : S42)] = [3, 5, 2, 2, 10, 3, 0, 32] := by decide +kernel
 rw [hv]
 have h1 := below_ev [(⟨true, 5⟩ : S42), (⟨false, 0⟩ : S42), (⟨true, 7⟩ : S42)] 6
 have h2 := above_ev [(⟨true, 5⟩ : S42), (⟨false, 0⟩ : S42), (⟨true, 7⟩ : S42)] 7
 rw [if_pos (by decide)] at h1 h2
 rw [show gransOf (fun c => c.f0 && decide (c.f1 < 6)) [(⟨true, 5⟩ : S42), (⟨false, 0⟩ : S42), (⟨true, 7⟩ : S42)] = [0] by decide] at h1
 rw [show gransOf (fun c => c.f0 && decide (c.f1 > 7)) [(⟨true, 5⟩ : S42), (⟨false, 0⟩ : S42), (⟨true, 7⟩ : S42)] = [] by decide] at h2
 refine Ev.if_t (by decide) (Ev.if_t (by decide) (Ev.if_t (by decide) (Ev.if_t (by decide) (Ev.if_t (by decide) (Ev.bind h1 (Ev.bind (same09 [0] [0] (by decide)) (Ev.if_t (by decide) (Ev.bind h2 (Ev.now _)))))))))
end Go.Proofs.YtcjkmmajokkkfaaQ
end
section
namespace Go.Proofs.YtcjkmmajokkkfaaQ
open Go.RowKit Go.Proofs.YtcjkmmajokkkfaaW.PrintWords Go.Proofs.YtcjkmmajokkkfaaW.PrintMore Go.Proofs.YtcjkmmajokkkfaaW.PrintLast Go.Proofs.Ytcjkmmajokkkfaa.P
theorem copy10 (l : List S42) (h : l.length < 8796093022208) : dragnetref10_Copy.f l = some l := by
 unfold dragnetref10_Copy.f
 simp only [Option.bind_some, List.nil_append, List.length_nil]
 rw [if_pos (by omega)]
theorem same10_self (l : List S42) (hn : l.length ≤ 9223372036854775000) : Ev (fun k => dragnetref10_Same.f k l l) true := by
 have loop : ∀ d i : Nat, i + d = l.length → Ev (fun k => dragnetref10_Same.l0 k l l (i : Int)) true := by
  intro d
  induction d with
  | zero =>
   intro i hi
   apply Ev.succ
   simp only [dragnetref10_Same.l0]
   exact Ev.if_f (by omega) (Ev.now _)
  | succ d ih =>
   intro i hi
   apply Ev.succ
   simp only [dragnetref10_Same.l0]
   rw [w64i (x := (i : Int) + 1) (by omega) (by omega)]
   exact Ev.if_t (by omega) (Ev.if_t (by omega) (Ev.if_t (by omega) (Ev.if_f (by simp) (ih (i + 1) (by omega)))))
 unfold dragnetref10_Same.f
 exact Ev.if_t rfl (loop l.length 0 (by omega))
theorem ref_lay_l0 {l : List S42} (hc : Cells l) (hl : l.length ≤ 4096) : ∀ (d i : Nat) (x n : List Int), i + d = l.length → x = hasL (l.take i) → n = numsL (l.take i) → Ev (fun k => dragnetref10_Bytes.l0 k l x n (i : Int)) (bytesL l)
 | 0, i, x, n, hi, hx, hn => by
  have e : l.take i = l := List.take_of_length_le (by omega)
  rw [e] at hx hn
  rw [hx, hn]
  have h1 := ref_pack (hasL_u64 l) (by rw [hasL_length]; omega) (show 1 ≤ 64 by decide)
  rw [if_pos (hasL_fit l)] at h1
  have e1 : IntKind.u64.wrap (l.length : Int) = ((l.length : Nat) : Int) := by
   simp only [IntKind.wrap, IntKind.bits, IntKind.signed, Bool.false_and, Bool.false_eq_true, if_false]
   omega
  have hv : l.length < 2 ^ 64 := by omega
  have h2 := bytes_ev hv
  have h3 := length_numEnc_le hv
  have h4 := length_packOf 1 (hasL l)
  rw [hasL_length] at h4
  have hnl := numsL_length l
  have h5 := ref_ints_ev (numsL_i64 hc) (by omega) (m := 4096) (by omega)
  have h6 := listOf_len (m := 4096) (lt_foldN (numsL_i64 hc)) (by rw [foldN_length]; omega)
  rw [foldN_length] at h6
  apply Ev.succ
  simp only [dragnetref10_Bytes.l0]
  refine Ev.if_f (by omega) (Ev.bind (a := (packOf 1 (hasL l), (0 : Int))) (by exact_mod_cast h1) ?_)
  rw [e1]
  refine Ev.bind h2 (Ev.if_t (by dsimp only; omega) (Ev.obind rfl (Ev.bind h5 (Ev.if_t (by simp only [List.length_append]; omega) (Ev.now _)))))
 | d + 1, i, x, n, hi, hx, hn => by
  have hlt : i < l.length := by omega
  have hti : (l.take i).length = i := by rw [List.length_take]; omega
  have hxl : x.length = i := by rw [hx, hasL_length, hti]
  have hnl := numsL_length (l.take i)
  rw [← hn] at hnl
  apply Ev.succ
  simp only [dragnetref10_Bytes.l0]
  rw [rd42 l i hlt, w64i (x := (i : Int) + 1) (by omega) (by omega)]
  refine Ev.if_t (by omega) (Ev.if_t (by omega) ?_)
  by_cases h : l[i].f0 = true
  ·refine Ev.if_t h (Ev.if_t (by omega) (Ev.if_t (by omega) (ref_lay_l0 hc hl d (i + 1) _ _ (by omega) ?_ ?_)))
   ·rw [take_snoc l i hlt, hasL_snoc, if_pos h, hx]
   ·rw [take_snoc l i hlt, numsL_snoc, if_pos h, hn]
  ·refine Ev.if_f h (Ev.if_t (by omega) (ref_lay_l0 hc hl d (i + 1) _ _ (by omega) ?_ ?_))
   ·rw [take_snoc l i hlt, hasL_snoc, if_neg h, hx]
   ·rw [take_snoc l i hlt, numsL_snoc, if_neg h, List.append_nil, hn]
theorem ref_lay_ev {l : List S42} (hc : Cells l) (hl : l.length ≤ 4096) : Ev (fun k => dragnetref10_Bytes.f k l) (bytesL l) := by
 unfold dragnetref10_Bytes.f
 exact ref_lay_l0 hc hl l.length 0 [] [] (by omega) (by simp [hasL]) (by simp [numsL])
theorem in_bytesL {l : List S42} (hc : Cells l) (hl : l.length ≤ 4096) : B8 (bytesL l) := by
 have hnl := numsL_length l
 exact In.append (In.append (in_numEnc (by omega)) (in_packOf _ _)) (in_listOf (lt_foldN (numsL_i64 hc)) (by rw [foldN_length]; omega))
theorem bytesL_len {l : List S42} (hc : Cells l) (hl : l.length ≤ 4096) : (bytesL l).length ≤ 10000 + 1000 * l.length := by
 have hnl := numsL_length l
 have h3 := length_numEnc_le (v := l.length) (by omega)
 have h4 := length_packOf 1 (hasL l)
 rw [hasL_length] at h4
 have h6 := listOf_len (m := 4096) (lt_foldN (numsL_i64 hc)) (by rw [foldN_length]; omega)
 rw [foldN_length] at h6
 unfold bytesL
 simp only [List.length_append]
 omega
theorem cells_of {l : List S42} (h : ∀ y ∈ l, (True ∧ (Lit.int .i64 y.f1).wf = true)) : Cells l := fun c hc => by
 have := (h c hc).2
 simp [Lit.wf, IntKind.min, IntKind.max, IntKind.signed, IntKind.bits] at this
 omega
end Go.Proofs.YtcjkmmajokkkfaaQ
end
section
namespace Go.Proofs.Ytcjkmmajokkkfaa.Pure
open Go.RowKit Go.Proofs.Ytcjkmmajokkkfaa.P Go.Proofs.YtcjkmmajokkkfaaW.PrintWords Go.Proofs.YtcjkmmajokkkfaaW.PrintLast Go.Proofs.YtcjkmmajokkkfaaQ
theorem IntsPutsUp : ∀ (l0 : (List Int)) (l1 : (List S42)), l0.length * 1 ≤ 140737488351232 → (∀ y ∈ l0, (Lit.int .u8 y).wf = true) → l1.length * 16 ≤ 140737488351232 → (∀ y ∈ l1, (True ∧ (Lit.int .i64 y.f1).wf = true)) → l0.length + l1.length ≤ 1048576 → ∃ k, dragnetlaw10_IntsPuts.f k l0 l1 = some true := by
 intro b l _ hb0 _ hc0 hbulk
 have hB : B8 b := fun x hx => wf_u8 (hb0 x hx)
 have hc := cells_of hc0
 refine Ev.rounds (r := true) ?_
 have main : Ev (fun k => dragnetlaw10_IntsPuts.j0 k b l false) true := by
  apply Ev.succ
  simp only [dragnetlaw10_IntsPuts.j0]
  refine Ev.if_f (by decide) (Ev.obind (copy8 b (by omega)) (Ev.obind (copy10 l (by omega)) (Ev.bind (lay_ev b hB hc (fun _ => by omega)) (Ev.obind (same8 hB hB) (Ev.if_t (by simp) (Ev.bind (same10_self l (by omega)) (Ev.if_t rfl (Ev.bind (formed_ev l) (Ev.bind (ref_formed_ev l (by omega)) ?_)))))))))
  have e : (formedOf l != formedOf l) = false := by simp
  rw [e]
  apply Ev.succ
  simp only [dragnetlaw10_IntsPuts.j1]
  refine Ev.if_f (by decide) (Ev.bind (ref_formed_ev l (by omega)) ?_)
  cases h : formedOf l with
  | true =>
   have hl := formed_len h
   have hB2 : B8 (b ++ bytesL l) := In.append hB (in_bytesL hc hl)
   have h6 := bytesL_len hc hl
   simp only [if_true]
   refine Ev.bind (ref_lay_ev hc hl) (Ev.if_t (by omega) (Ev.obind (same8 hB2 hB2) ?_))
   rw [decide_eq_true rfl]
   exact Ev.now _
  | false =>
   simp only [Bool.false_eq_true, if_false, if_true]
   exact Ev.of_eq fun _ => by simp
 unfold dragnetlaw10_IntsPuts.f
 refine Ev.bind alive10 (Ev.if_t rfl ?_)
 by_cases h : (l.length : Int) > 200
 ·refine Ev.if_t h ?_
  by_cases h2 : (l.length : Int) ≤ 4096
  ·rw [decide_eq_true h2]
   apply Ev.succ
   simp only [dragnetlaw10_IntsPuts.j0]
   exact Ev.if_t (by trivial) (Ev.now _)
  ·rw [decide_eq_false h2]
   exact main
 ·exact Ev.if_f h main
end Go.Proofs.Ytcjkmmajokkkfaa.Pure
end
