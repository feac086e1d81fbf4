/- Words and proofs that UpIntsBack leans on; put together by wip/tools/shake.py. -/
import Derived.Test.YtcjkmmajokkkfaaZUpIntsBack18
import Derived.Laws.BitsAllLaws
section
namespace Go.Proofs.YtcjkmmajokkkfaaQ
open Go.RowKit Go.Proofs.YtcjkmmajokkkfaaW.PrintWords Go.Proofs.YtcjkmmajokkkfaaW.PrintMore Go.Proofs.YtcjkmmajokkkfaaW.PrintLast Go.Proofs.Ytcjkmmajokkkfaa.P
def up (l : List Nat) : List Int := l.map fun (n : Nat) => (n : Int)
def Lt64 (l : List Nat) : Prop := ∀ x ∈ l, x < 2 ^ 64
@[simp] theorem up_length (l : List Nat) : (up l).length = l.length := by simp [up]
theorem up_append (a b : List Nat) : up (a ++ b) = up a ++ up b := by simp [up]
theorem up_take (l : List Nat) (n : Nat) : (up l).take n = up (l.take n) := by simp [up, List.map_take]
theorem up_drop (l : List Nat) (n : Nat) : (up l).drop n = up (l.drop n) := by simp [up, List.map_drop]
theorem up_inj {a b : List Nat} (h : up a = up b) : a = b := by
 have := congrArg (List.map Int.toNat) h
 simpa [up, Function.comp_def] using this
theorem u64_up {l : List Nat} (h : Lt64 l) : U64 (up l) := fun x hx => by
 obtain ⟨n, hn, rfl⟩ := List.mem_map.1 hx
 have := h n hn
 omega
theorem up_get (l : List Nat) (i : Nat) (h : i < l.length) : (up l)[i]'(by simpa using h) = (l[i] : Int) := by simp [up]
theorem rd_up (l : List Nat) (i : Nat) (h : i < l.length) : rd (up l) (i : Int) = (l[i] : Int) := by
 rw [rd_nat _ _ (by simpa using h), up_get l i h]
theorem Lt64.get {l : List Nat} (h : Lt64 l) (i : Nat) (hi : i < l.length) : l[i] < 18446744073709551616 := h _ (List.getElem_mem hi)
theorem Lt64.drop {l : List Nat} (h : Lt64 l) (n : Nat) : Lt64 (l.drop n) := fun x hx => h x (List.mem_of_mem_drop hx)
theorem Lt64.take {l : List Nat} (h : Lt64 l) (n : Nat) : Lt64 (l.take n) := fun x hx => h x (List.mem_of_mem_take hx)
def fill (es : List Int) (i : Nat) : List Int := es.take i ++ List.replicate (es.length - i) 0
theorem fill_zero (es : List Int) : fill es 0 = List.replicate es.length 0 := by simp [fill]
theorem fill_all (es : List Int) : fill es es.length = es := by simp [fill]
theorem fill_length (es : List Int) (i : Nat) (h : i ≤ es.length) : (fill es i).length = es.length := by simp [fill]; omega
theorem fill_set (es : List Int) (i : Nat) (h : i < es.length) : (fill es i).set i es[i] = fill es (i + 1) := by
 have e : es.length - i = (es.length - (i + 1)) + 1 := by omega
 unfold fill
 rw [e, List.replicate_succ, List.set_append_right _ _ (by simp; omega), List.length_take, Nat.min_eq_left (by omega), Nat.sub_self, List.set_cons_zero, List.take_succ_eq_append_getElem h, List.append_assoc]
 rfl
def tailOf (w : Nat) : Nat → List Nat → List Int
 | _, [] => []
 | i, d :: ds => (if 0 < d / 2 ^ w then (i : Int) :: numEnc (d / 2 ^ w) else []) ++ tailOf w (i + 1) ds
def tailLen (w : Nat) : List Nat → Nat
 | [] => 0
 | d :: ds => (if 0 < d / 2 ^ w then 1 + (numEnc (d / 2 ^ w)).length else 0) + tailLen w ds
def cntOf (w : Nat) : List Nat → Nat
 | [] => 0
 | d :: ds => (if 0 < d / 2 ^ w then 1 else 0) + cntOf w ds
def lowOf (w : Nat) (ds : List Nat) : List Int := up (ds.map fun d => d % 2 ^ w)
def costOf (ds : List Nat) (w : Nat) : Nat := (ds.length * w + 7) / 8 + tailLen w ds
theorem length_tailOf (w : Nat) : ∀ (ds : List Nat) (i : Nat), (tailOf w i ds).length = tailLen w ds
 | [], _ => rfl
 | d :: ds, i => by
  rw [tailOf, tailLen, List.length_append, length_tailOf w ds (i + 1)]
  split <;> simp; omega
theorem tailOf_append (w : Nat) : ∀ (a : List Nat) (i : Nat) (b : List Nat), tailOf w i (a ++ b) = tailOf w i a ++ tailOf w (i + a.length) b
 | [], i, b => by simp [tailOf]
 | d :: a, i, b => by
  rw [List.cons_append, tailOf, tailOf, tailOf_append w a (i + 1) b, List.append_assoc, List.length_cons, show i + 1 + a.length = i + (a.length + 1) by omega]
theorem cntOf_append (w : Nat) : ∀ (a b : List Nat), cntOf w (a ++ b) = cntOf w a + cntOf w b
 | [], b => by simp [cntOf]
 | d :: a, b => by rw [List.cons_append, cntOf, cntOf, cntOf_append w a b]; omega
theorem tailOf_snoc (w : Nat) (ds : List Nat) (i : Nat) (h : i < ds.length) :
  tailOf w 0 (ds.take (i + 1)) = tailOf w 0 (ds.take i) ++ (if 0 < ds[i] / 2 ^ w then (i : Int) :: numEnc (ds[i] / 2 ^ w) else []) := by
 rw [List.take_succ_eq_append_getElem h, tailOf_append, List.length_take, Nat.min_eq_left (by omega), Nat.zero_add]
 simp [tailOf]
theorem cntOf_snoc (w : Nat) (ds : List Nat) (i : Nat) (h : i < ds.length) : cntOf w (ds.take (i + 1)) = cntOf w (ds.take i) + (if 0 < ds[i] / 2 ^ w then 1 else 0) := by
 rw [List.take_succ_eq_append_getElem h, cntOf_append]
 simp [cntOf]
theorem div_lt64 {d : Nat} (h : d < 2 ^ 64) (w : Nat) : d / 2 ^ w < 2 ^ 64 := Nat.lt_of_le_of_lt (Nat.div_le_self _ _) h
theorem tailLen_le (w : Nat) : ∀ (ds : List Nat), Lt64 ds → tailLen w ds ≤ 10 * ds.length
 | [], _ => Nat.zero_le _
 | d :: ds, h => by
  have h1 := tailLen_le w ds (fun x hx => h x (List.mem_cons_of_mem _ hx))
  have h2 := length_numEnc_le (div_lt64 (h d List.mem_cons_self) w)
  rw [tailLen, List.length_cons]
  split <;> omega
theorem cntOf_le (w : Nat) : ∀ (ds : List Nat), cntOf w ds ≤ ds.length
 | [] => Nat.le_refl _
 | d :: ds => by
  have := cntOf_le w ds
  rw [cntOf, List.length_cons]
  split <;> omega
theorem length_lowOf (w : Nat) (ds : List Nat) : (lowOf w ds).length = ds.length := by simp [lowOf]
theorem lowOf_get (w : Nat) (ds : List Nat) (i : Nat) (h : i < ds.length) : (lowOf w ds)[i]'(by rw [length_lowOf]; exact h) = ((ds[i] % 2 ^ w : Nat) : Int) := by simp [lowOf, up]
theorem u64_lowOf {ds : List Nat} (h : Lt64 ds) (w : Nat) : U64 (lowOf w ds) := by
 refine u64_up fun x hx => ?_
 obtain ⟨d, hd, rfl⟩ := List.mem_map.1 hx
 exact Nat.lt_of_le_of_lt (Nat.mod_le _ _) (h d hd)
theorem fit_lowOf (w : Nat) (ds : List Nat) : Fit w (lowOf w ds) := fun x hx => by
 obtain ⟨n, hn, rfl⟩ := List.mem_map.1 hx
 obtain ⟨d, hd, rfl⟩ := List.mem_map.1 hn
 rw [Int.toNat_natCast]
 exact Nat.mod_lt _ (two_pow_pos' _)
theorem fits64 {d w : Nat} (h : d < 2 ^ 64) (hw : 64 ≤ w) : d / 2 ^ w = 0 := Nat.div_eq_of_lt (Nat.lt_of_lt_of_le h (Nat.pow_le_pow_right (by decide) hw))
theorem high_eq {d w : Nat} (hd : d < 2 ^ 64) (hw : w ≤ 64) : pfor_high.f (d : Int) (w : Int) = some ((d / 2 ^ w : Nat) : Int) := by
 unfold pfor_high.f
 by_cases h : w = 64
 ·rw [if_pos (by omega), fits64 hd (by omega)]; rfl
 ·rw [if_neg (by omega), if_pos (by omega), shr_u64 _ _ hw]
  simp
theorem psize_ev {v : Nat} (hv : v < 2 ^ 64) : Ev (fun k => pfor_size.f k (v : Int)) ((numEnc v).length : Int) := by
 unfold pfor_size.f
 exact Ev.bind (put_ev [] (by simp) hv) (Ev.now _)
def bestW (c : Nat → Nat) : Nat → Nat
 | 0 => 0
 | k + 1 => if c (k + 1) < c (bestW c k) then k + 1 else bestW c k
theorem bestW_le (c : Nat → Nat) : ∀ k, bestW c k ≤ k
 | 0 => Nat.le_refl _
 | k + 1 => by
  have := bestW_le c k
  rw [bestW]; split <;> omega
theorem tailLen_drop (w : Nat) (ds : List Nat) (i : Nat) (h : i < ds.length) : tailLen w (ds.drop i) = (if 0 < ds[i] / 2 ^ w then 1 + (numEnc (ds[i] / 2 ^ w)).length else 0) + tailLen w (ds.drop (i + 1)) := by
 rw [List.drop_eq_getElem_cons h, tailLen]
theorem pwidth_inner {ds : List Nat} (hd : Lt64 ds) (hl : ds.length ≤ 32) (best least : Int) {w : Nat} (hw : w ≤ 64) (r : Int) : ∀ (m i n : Nat), i + m = ds.length → n ≤ 1000 + 10 * i →
  Ev (fun k => if least < 0 then pfor_width.l0 k (up ds) (w : Int) ((n + tailLen w (ds.drop i) : Nat) : Int) (wrap64 ((w : Int) + 1)) else if ((n + tailLen w (ds.drop i) : Nat) : Int) < least then pfor_width.l0 k (up ds) (w : Int) ((n + tailLen w (ds.drop i) : Nat) : Int) (wrap64 ((w : Int) + 1)) else pfor_width.l0 k (up ds) best least (wrap64 ((w : Int) + 1))) r →
  Ev (fun k => pfor_width.l1 k (up ds) best least (w : Int) (n : Int) (up ds) (ds.length : Int) (i : Int)) r
 | 0, i, n, hi, hn, h => by
  rw [List.drop_of_length_le (by omega)] at h
  apply Ev.succ
  simp only [pfor_width.l1]
  exact Ev.if_f (by omega) h
 | m + 1, i, n, hi, hn, h => by
  have hil : i < ds.length := by omega
  have hx := hd.get i hil
  rw [tailLen_drop w ds i hil] at h
  apply Ev.succ
  simp only [pfor_width.l1]
  refine Ev.if_t (by omega) (Ev.if_t (by omega) (Ev.if_t (by simp; omega) ?_))
  rw [rd_up ds i hil, inc i (by omega)]
  refine Ev.obind (high_eq hx hw) ?_
  by_cases hp : 0 < ds[i] / 2 ^ w
  ·rw [if_pos hp] at h
   have h9 := length_numEnc_le (div_lt64 hx w)
   refine Ev.if_t (by omega) (Ev.bind (psize_ev (div_lt64 hx w)) ?_)
   rw [show (1 : Int) = ((1 : Nat) : Int) from rfl, add64 1 _ (by omega), add64 n _ (by omega)]
   refine pwidth_inner hd hl best least hw r m (i + 1) _ (by omega) (by omega) ?_
   rw [← Nat.add_assoc] at h
   exact h
  ·rw [if_neg hp, Nat.zero_add] at h
   refine Ev.if_f (by omega) ?_
   exact pwidth_inner hd hl best least hw r m (i + 1) n (by omega) (by omega) h
theorem cost_small {ds : List Nat} (hd : Lt64 ds) (hl : ds.length ≤ 32) {w : Nat} (hw : w ≤ 64) : (ds.length * w + 7) / 8 ≤ 257 ∧ costOf ds w ≤ 600 := by
 have h1 := tailLen_le w ds hd
 have h2 : ds.length * w ≤ 32 * 64 := Nat.mul_le_mul hl hw
 unfold costOf
 omega
theorem pwidth_round {ds : List Nat} (hd : Lt64 ds) (hl : ds.length ≤ 32) (best least : Int) {w : Nat} (hw : w ≤ 64) (r : Int)
  (h : Ev (fun k => if least < 0 then pfor_width.l0 k (up ds) (w : Int) (costOf ds w : Int) ((w + 1 : Nat) : Int) else if (costOf ds w : Int) < least then pfor_width.l0 k (up ds) (w : Int) (costOf ds w : Int) ((w + 1 : Nat) : Int) else pfor_width.l0 k (up ds) best least ((w + 1 : Nat) : Int)) r) :
  Ev (fun k => pfor_width.l0 k (up ds) best least (w : Int)) r := by
 apply Ev.succ
 simp only [pfor_width.l0]
 refine Ev.if_t (by omega) ?_
 rw [up_length, wrap_size ds.length w hw (by omega)]
 have hs := (cost_small hd hl hw).1
 refine pwidth_inner hd hl best least hw r ds.length 0 _ (by omega) (by omega) ?_
 rw [inc w (by omega), List.drop_zero]
 exact h
theorem pwidth_loop {ds : List Nat} (hd : Lt64 ds) (hl : ds.length ≤ 32) : ∀ (m w : Nat), w + m = 64 →
  Ev (fun k => pfor_width.l0 k (up ds) (bestW (costOf ds) w : Int) (costOf ds (bestW (costOf ds) w) : Int) ((w + 1 : Nat) : Int)) (bestW (costOf ds) 64 : Int)
 | 0, w, hm => by
  obtain rfl : w = 64 := by omega
  apply Ev.succ
  simp only [pfor_width.l0]
  exact Ev.if_f (by omega) (Ev.now _)
 | m + 1, w, hm => by
  refine pwidth_round hd hl _ _ (by omega) _ ?_
  have ih := pwidth_loop hd hl m (w + 1) (by omega)
  refine Ev.if_f (by omega) ?_
  rw [bestW] at ih
  by_cases h : costOf ds (w + 1) < costOf ds (bestW (costOf ds) w)
  ·rw [if_pos h] at ih
   exact Ev.if_t (by omega) ih
  ·rw [if_neg h] at ih
   exact Ev.if_f (by omega) ih
theorem pwidth_ev {ds : List Nat} (hd : Lt64 ds) (hl : ds.length ≤ 32) : Ev (fun k => pfor_width.f k (up ds)) (bestW (costOf ds) 64 : Int) := by
 unfold pfor_width.f
 have := pwidth_round hd hl 0 (-1) (w := 0) (by omega) (bestW (costOf ds) 64 : Int) (Ev.if_t (by decide) (pwidth_loop hd hl 64 0 (by omega)))
 exact this
theorem rd_L2_nat (ls : List (List Int)) (i : Nat) (h : i < ls.length) : rd_L5 ls (i : Int) = ls[i] := by
 unfold rd_L5
 rw [Int.toNat_natCast, List.getD_eq_getElem?_getD, List.getElem?_eq_getElem h]; rfl
theorem concat_l1 (ls : List (List Int)) (hn : ls.length ≤ 1000000) : ∀ (m i : Nat) (acc : List Int), i + m = ls.length → acc.length + (ls.drop i).flatten.length < 140737488355328 →
  Ev (fun k => slices_Concat_byte_byte.l1 k acc ls (ls.length : Int) (i : Int)) (acc ++ (ls.drop i).flatten)
 | 0, i, acc, hi, hb => by
  apply Ev.succ
  simp only [slices_Concat_byte_byte.l1]
  rw [List.drop_of_length_le (by omega)]
  simp only [List.flatten_nil, List.append_nil]
  exact Ev.if_f (by omega) (Ev.now _)
 | m + 1, i, acc, hi, hb => by
  have hil : i < ls.length := by omega
  rw [List.drop_eq_getElem_cons hil, List.flatten_cons, List.length_append] at hb
  apply Ev.succ
  simp only [slices_Concat_byte_byte.l1]
  rw [rd_L2_nat ls i hil, inc i (by omega), List.drop_eq_getElem_cons hil, List.flatten_cons, ← List.append_assoc]
  refine Ev.if_t (by omega) (Ev.if_t (by omega) (Ev.if_t (by omega) (Ev.if_t (by omega) ?_)))
  exact concat_l1 ls hn m (i + 1) _ (by omega) (by rw [List.length_append]; omega)
theorem concat_l0 (ls : List (List Int)) (hn : ls.length ≤ 1000000) (hb : ls.flatten.length < 140737488355328) : ∀ (m i s : Nat), i + m = ls.length → s + (ls.drop i).flatten.length = ls.flatten.length →
  Ev (fun k => slices_Concat_byte_byte.l0 k ls (s : Int) ls (ls.length : Int) (i : Int)) ls.flatten
 | 0, i, s, hi, hs => by
  apply Ev.succ
  simp only [slices_Concat_byte_byte.l0]
  refine Ev.if_f (by omega) (Ev.obind (a := []) ?_ ?_)
  ·unfold slices_Grow_byte_byte.f
   rw [if_pos (by omega), if_pos (by simp; omega)]
  ·have := concat_l1 ls hn ls.length 0 [] (by omega) (by simpa using hb)
   simpa using this
 | m + 1, i, s, hi, hs => by
  have hil : i < ls.length := by omega
  rw [List.drop_eq_getElem_cons hil, List.flatten_cons, List.length_append] at hs
  apply Ev.succ
  simp only [slices_Concat_byte_byte.l0]
  rw [rd_L2_nat ls i hil, inc i (by omega), add64 s _ (by omega)]
  refine Ev.if_t (by omega) (Ev.if_t (by omega) (Ev.if_t (by omega) (Ev.if_f (by omega) ?_)))
  exact concat_l0 ls hn hb m (i + 1) _ (by omega) (by omega)
theorem concat_ev (ls : List (List Int)) (hn : ls.length ≤ 1000000) (hb : ls.flatten.length < 140737488355328) : Ev (fun k => slices_Concat_byte_byte.f k ls) ls.flatten := by
 unfold slices_Concat_byte_byte.f
 exact concat_l0 ls hn hb ls.length 0 0 (by omega) (by simp)
def minN : Nat → List Nat → Nat
 | m, [] => m
 | m, x :: r => minN (min m x) r
theorem minN_le : ∀ (l : List Nat) (m : Nat), minN m l ≤ m ∧ ∀ x ∈ l, minN m l ≤ x
 | [], m => ⟨Nat.le_refl _, fun x h => by cases h⟩
 | y :: r, m => by
  have ih := minN_le r (min m y)
  rw [minN]
  refine ⟨by omega, fun x hx => ?_⟩
  rcases List.mem_cons.1 hx with rfl | h
  ·omega
  ·exact ih.2 x h
theorem mn_nat (a b : Nat) : mn (a : Int) (b : Int) = ((min a b : Nat) : Int) := mn_eq a b
theorem min_loop (l : List Nat) (hn : l.length ≤ 1000000) : ∀ (m i a : Nat), i + m = l.length →
  Ev (fun k => slices_Min_uint64_uint64.l0 k (up l) (a : Int) (i : Int)) (minN a (l.drop i) : Int)
 | 0, i, a, hi => by
  apply Ev.succ
  simp only [slices_Min_uint64_uint64.l0]
  rw [List.drop_of_length_le (by omega)]
  exact Ev.if_f (by simp; omega) (Ev.now _)
 | m + 1, i, a, hi => by
  have hil : i < l.length := by omega
  apply Ev.succ
  simp only [slices_Min_uint64_uint64.l0]
  rw [rd_up l i hil, inc i (by omega), mn_nat, List.drop_eq_getElem_cons hil, minN]
  exact Ev.if_t (by simp; omega) (Ev.if_t (by omega) (min_loop l hn m (i + 1) _ (by omega)))
theorem min_ev (x : Nat) (r : List Nat) (hn : r.length ≤ 1000) : Ev (fun k => slices_Min_uint64_uint64.f k (up (x :: r))) (minN x r : Int) := by
 unfold slices_Min_uint64_uint64.f
 rw [show rd (up (x :: r)) 0 = (x : Int) from rd_up (x :: r) 0 (by simp)]
 refine Ev.if_f (by simp; omega) (Ev.if_t (by simp) ?_)
 have := min_loop (x :: r) (by simp; omega) r.length 1 x (by simp; omega)
 simpa using this
def baseOf : List Nat → Nat
 | [] => 0
 | x :: r => minN x r
def lessOf (ns : List Nat) : List Nat := ns.map fun n => n - baseOf ns
def byOf (base : Nat) (ds : List Nat) (w : Nat) : List Int := (ds.length : Int) :: (numEnc base ++ ((w : Int) :: (cntOf w ds : Int) :: (packOf w (lowOf w ds) ++ tailOf w 0 ds)))
def widthB (ns : List Nat) : Nat := bestW (costOf (lessOf ns)) 64
def blockOf (ns : List Nat) : List Int := byOf (baseOf ns) (lessOf ns) (widthB ns)
theorem length_byOf (base : Nat) (ds : List Nat) (w : Nat) : (byOf base ds w).length = 3 + (numEnc base).length + costOf ds w := by
 unfold byOf costOf
 simp only [List.length_cons, List.length_append, length_packOf, length_lowOf, length_tailOf]
 rw [Nat.mul_comm w]
 omega
theorem baseOf_le (ns : List Nat) (i : Nat) (h : i < ns.length) : baseOf ns ≤ ns[i] := by
 cases ns with
 | nil => simp at h
 | cons x r =>
  have := minN_le r x
  cases i with
  | zero => exact this.1
  | succ i => exact this.2 _ (List.getElem_mem _)
theorem baseOf_lt {ns : List Nat} (h : Lt64 ns) : baseOf ns < 2 ^ 64 := by
 cases ns with
 | nil => decide
 | cons x r => exact Nat.lt_of_le_of_lt (minN_le r x).1 (h x List.mem_cons_self)
theorem lt_lessOf {ns : List Nat} (h : Lt64 ns) : Lt64 (lessOf ns) := fun x hx => by
 obtain ⟨n, hn, rfl⟩ := List.mem_map.1 hx
 exact Nat.lt_of_le_of_lt (Nat.sub_le _ _) (h n hn)
@[simp] theorem length_lessOf (ns : List Nat) : (lessOf ns).length = ns.length := by simp [lessOf]
theorem lessOf_get (ns : List Nat) (i : Nat) (h : i < ns.length) : (lessOf ns)[i]'(by simpa using h) = ns[i] - baseOf ns := by simp [lessOf]
theorem widthB_le (ns : List Nat) : widthB ns ≤ 64 := bestW_le _ _
theorem low_bits (d w : Nat) (hd : d < 2 ^ 64) (hw : w ≤ 64) : Go.bits .andNot .u64 (d : Int) (shl .u64 ((d / 2 ^ w : Nat) : Int) (w : Int)) = ((d % 2 ^ w : Nat) : Int) := by
 have hle : d / 2 ^ w * 2 ^ w ≤ d := Nat.div_mul_le_self _ _
 rw [shl_u64 _ _ hw, show (((d / 2 ^ w : Nat) : Int) * 2 ^ w) = ((d / 2 ^ w * 2 ^ w : Nat) : Int) by simp, wu64 (by omega) (by omega), u64_andNot_nat d _ (by omega) (by omega)]
 congr 1
 apply Nat.eq_of_testBit_eq
 intro i
 rw [Nat.testBit_and, show 18446744073709551615 - d / 2 ^ w * 2 ^ w = 2 ^ 64 - (d / 2 ^ w * 2 ^ w + 1) by omega, Nat.testBit_two_pow_sub_succ (by omega), Nat.testBit_mod_two_pow, Nat.testBit_mul_two_pow, Nat.testBit_div_two_pow]
 by_cases hi : i < w
 ·simp [hi, show ¬ w ≤ i by omega]; omega
 ·by_cases hb : d.testBit i = true
  ·have : i < 64 := by
    rcases Nat.lt_or_ge i 64 with h | h
    ·exact h
    ·rw [Nat.testBit_lt_two_pow (Nat.lt_of_lt_of_le hd (Nat.pow_le_pow_right (by decide) h))] at hb; exact absurd hb (by decide)
   simp [hi, show w ≤ i by omega, hb, show i - w + w = i by omega]
  ·simp [hi, hb]
theorem byte_nat (n : Nat) (h : n ≤ 255) : ((n : Int)) % 256 = (n : Int) := by omega
theorem blockCost_small {ns : List Nat} (h : Lt64 ns) (hl : ns.length ≤ 32) {w : Nat} (hw : w ≤ 64) : costOf (lessOf ns) w ≤ 600 := (cost_small (lt_lessOf h) (by simpa using hl) hw).2
theorem length_blockOf_le {ns : List Nat} (h : Lt64 ns) (hl : ns.length ≤ 32) : (blockOf ns).length ≤ 700 := by
 have h1 := blockCost_small h hl (widthB_le ns)
 have h2 := length_numEnc_le (baseOf_lt h)
 unfold blockOf
 rw [length_byOf]
 omega
theorem put_l1 (b : List Int) (hb : b.length ≤ 140737488352000) (l1 : List Int) (ln : Nat) (hln : l1.length = ln) (h32 : ln ≤ 32) (base : Nat) (hbase : base < 2 ^ 64) {ds : List Nat} (hd : Lt64 ds) (hl : ds.length = ln) {w : Nat} (hw : w ≤ 64) : ∀ (m i : Nat), i + m = ds.length →
    Ev (fun k => pfor_PutBlock.l1 k b l1 (base : Int) (w : Int) (tailOf w 0 (ds.take i)) (cntOf w (ds.take i) : Int) (fill (lowOf w ds) i) (up ds) (ds.length : Int) (i : Int)) (b ++ byOf base ds w, 0)
  | 0, i, hi => by
    obtain rfl : i = ds.length := by omega
    have hk := cntOf_le w ds
    have hs := cost_small hd (by omega) hw
    have ht := tailLen_le w ds hd
    have h9 := length_numEnc_le hbase
    apply Ev.succ
    simp only [pfor_PutBlock.l1]
    rw [List.take_length, show fill (lowOf w ds) ds.length = lowOf w ds by rw [← length_lowOf w ds]; exact fill_all _]
    refine Ev.if_f (by omega) (Ev.bind (pack_ok (u64_lowOf hd w) (by rw [length_lowOf]; omega) hw (fit_lowOf w ds)) (Ev.if_t rfl (Ev.obind (clone8 (by omega)) (Ev.if_t (by omega) ?_))))
    rw [hln, ← hl, byte_nat _ (by omega), byte_nat w (by omega), byte_nat (cntOf w ds) (by omega)]
    refine Ev.bind (put_ev (b ++ [(ds.length : Int)]) (by simp; omega) hbase) ?_
    simp only [Option.bind_some]
    refine Ev.if_t (by simp only [List.length_append, List.length_cons, List.length_nil]; omega) ?_
    have e : [b ++ [(ds.length : Int)] ++ numEnc base ++ [(w : Int), (cntOf w ds : Int)], packOf w (lowOf w ds), tailOf w 0 ds].flatten = b ++ byOf base ds w := by
      unfold byOf
      simp
    have hc := concat_ev [b ++ [(ds.length : Int)] ++ numEnc base ++ [(w : Int), (cntOf w ds : Int)], packOf w (lowOf w ds), tailOf w 0 ds] (by simp) (by
      rw [e, List.length_append, length_byOf]; omega)
    rw [e] at hc
    exact Ev.bind hc (Ev.now _)
  | m + 1, i, hi => by
    have hil : i < ds.length := by omega
    have hx := hd.get i hil
    have hk := cntOf_le w (ds.take i)
    have ht := tailLen_le w (ds.take i) (hd.take i)
    rw [List.length_take] at hk ht
    have ih := put_l1 b hb l1 ln hln h32 base hbase hd hl hw m (i + 1) (by omega)
    rw [tailOf_snoc w ds i hil, cntOf_snoc w ds i hil, ← fill_set _ i (by rw [length_lowOf]; exact hil), lowOf_get w ds i hil] at ih
    apply Ev.succ
    simp only [pfor_PutBlock.l1]
    rw [rd_up ds i hil, inc i (by omega), Int.toNat_natCast, fill_length _ _ (by rw [length_lowOf]; omega), length_lowOf, up_length]
    refine Ev.if_t (by omega) (Ev.if_t (by omega) (Ev.if_t (by omega) (Ev.obind (high_eq hx hw) (Ev.if_t (by omega) ?_))))
    simp only [Option.bind_some]
    by_cases hp : 0 < ds[i] / 2 ^ w
    · rw [if_pos hp, if_pos hp] at ih
      refine Ev.if_t (by omega) (Ev.if_t (by omega) (Ev.if_t (by rw [length_tailOf]; omega) ?_))
      rw [byte_nat i (by omega), inc (cntOf w (ds.take i)) (by omega), low_bits _ w hx hw, List.set_set]
      refine Ev.bind (put_ev _ (by rw [List.length_append, length_tailOf]; simp; omega) (div_lt64 hx w)) ?_
      rw [List.append_assoc]
      exact ih
    · rw [if_neg hp, if_neg hp, List.append_nil, Nat.add_zero] at ih
      refine Ev.if_f (by omega) ?_
      have : ds[i] % 2 ^ w = ds[i] := by
        have h1 := Nat.mod_add_div ds[i] (2 ^ w)
        rw [Nat.eq_zero_of_not_pos hp, Nat.mul_zero] at h1
        exact h1
      rw [this] at ih
      exact ih
theorem put_l0 (b : List Int) (hb : b.length ≤ 140737488352000) {ns : List Nat} (hn : Lt64 ns) (h32 : ns.length ≤ 32) : ∀ (m i : Nat), i + m = ns.length →
  Ev (fun k => pfor_PutBlock.l0 k b (up ns) (baseOf ns : Int) (fill (up (lessOf ns)) i) (up ns) (ns.length : Int) (i : Int)) (b ++ blockOf ns, 0)
 | 0, i, hi => by
  obtain rfl : i = ns.length := by omega
  apply Ev.succ
  simp only [pfor_PutBlock.l0]
  have ef : fill (up (lessOf ns)) ns.length = up (lessOf ns) := by
   have := fill_all (up (lessOf ns))
   rwa [up_length, length_lessOf] at this
  rw [ef]
  refine Ev.if_f (by omega) (Ev.bind (pwidth_ev (lt_lessOf hn) (by simpa using h32)) (Ev.if_t (by omega) (Ev.if_t (by simp; omega) ?_)))
  have := put_l1 b hb (up ns) ns.length (up_length ns) h32 (baseOf ns) (baseOf_lt hn) (lt_lessOf hn) (length_lessOf ns) (widthB_le ns) (lessOf ns).length 0 (by omega)
  rw [fill_zero, length_lowOf, length_lessOf] at this
  simp only [up_length, Int.toNat_natCast, length_lessOf]
  exact this
 | m + 1, i, hi => by
  have hil : i < ns.length := by omega
  have hx := hn.get i hil
  have hle := baseOf_le ns i hil
  have ih := put_l0 b hb hn h32 m (i + 1) (by omega)
  rw [← fill_set _ i (by simpa using hil), up_get (lessOf ns) i (by simpa using hil), lessOf_get ns i hil] at ih
  apply Ev.succ
  simp only [pfor_PutBlock.l0]
  rw [rd_up ns i hil, inc i (by omega), Int.toNat_natCast, fill_length _ _ (by simp; omega), wu64 (by omega) (by omega), show (ns[i] : Int) - (baseOf ns : Int) = ((ns[i] - baseOf ns : Nat) : Int) by omega]
  exact Ev.if_t (by omega) (Ev.if_t (by omega) (Ev.if_t (by simpa using hil) (Ev.if_t (by simpa using hil) ih)))
theorem putBlock_ok (b : List Int) (hb : b.length ≤ 140737488352000) {ns : List Nat} (hn : Lt64 ns) (h1 : 1 ≤ ns.length) (h32 : ns.length ≤ 32) : Ev (fun k => pfor_PutBlock.f k b (up ns)) (b ++ blockOf ns, 0) := by
 unfold pfor_PutBlock.f
 refine Ev.if_f (by simp; omega) ?_
 rw [decide_eq_false (by simp; omega)]
 apply Ev.succ
 simp only [pfor_PutBlock.j0]
 refine Ev.if_f (by decide) ?_
 cases ns with
 | nil => simp at h1
 | cons x r =>
  refine Ev.bind (min_ev x r (by simp at h32; omega)) (Ev.if_t (by omega) (Ev.if_t (by simp at h32 ⊢; omega) ?_))
  have := put_l0 b hb hn h32 (x :: r).length 0 (by omega)
  rw [fill_zero] at this
  simp only [up_length, length_lessOf, Int.toNat_natCast] at this ⊢
  exact this
theorem in_tailOf (w : Nat) : ∀ (ds : List Nat) (i : Nat), Lt64 ds → i + ds.length ≤ 255 → B8 (tailOf w i ds)
 | [], i, _, _ => In.nil _
 | d :: ds, i, h, hi => by
  rw [List.length_cons] at hi
  rw [tailOf]
  refine In.append ?_ (in_tailOf w ds (i + 1) (fun x hx => h x (List.mem_cons_of_mem _ hx)) (by omega))
  split
  ·exact In.mk_cons (by omega) (in_numEnc (div_lt64 (h d List.mem_cons_self) w))
  ·exact In.nil _
theorem in_byOf {base : Nat} (hb : base < 2 ^ 64) {ds : List Nat} (hd : Lt64 ds) (h32 : ds.length ≤ 32) {w : Nat} (hw : w ≤ 64) : B8 (byOf base ds w) := by
 have hk := cntOf_le w ds
 exact In.mk_cons (by omega) (In.append (in_numEnc hb) (In.mk_cons (by omega) (In.mk_cons (by omega) (In.append (in_packOf _ _) (in_tailOf w ds 0 hd (by omega))))))
theorem in_blockOf {ns : List Nat} (hn : Lt64 ns) (h32 : ns.length ≤ 32) : B8 (blockOf ns) := in_byOf (baseOf_lt hn) (lt_lessOf hn) (by simpa using h32) (widthB_le ns)
def takeN (b : List Int) : Option (Nat × Nat) := if (takeOf b).2.2 = 0 then some ((takeOf b).1.toNat, (takeOf b).2.1.toNat) else none
theorem takeN_cases (b : List Int) (hb : B8 b) : (∃ e : Int, e ≠ 0 ∧ takeOf b = (0, 0, e) ∧ takeN b = none) ∨
  ∃ v k : Nat, takeOf b = ((v : Int), (k : Int), 0) ∧ takeN b = some (v, k) ∧ v < 2 ^ 64 ∧ 1 ≤ k ∧ k ≤ 9 ∧ k ≤ b.length ∧ numEnc v = b.take k := by
 rcases takeOf_spec b hb with h | h | ⟨v, k, h, h1, h2, h3, h4, h5⟩
 ·exact .inl ⟨3, by decide, h, by unfold takeN; rw [h]; rfl⟩
 ·exact .inl ⟨2, by decide, h, by unfold takeN; rw [h]; rfl⟩
 ·exact .inr ⟨v, k, h, by unfold takeN; rw [h]; simp, h1, h2, h3, h4, h5⟩
theorem wu_mod (n : Nat) : IntKind.u64.wrap (n : Int) = ((n % 2 ^ 64 : Nat) : Int) := by
 rw [IntKind.wrap_u64]
 omega
theorem rd_getD (b : List Int) (i : Nat) : rd b (i : Int) = b.getD i 0 := by unfold rd; rw [Int.toNat_natCast]
theorem getD_byte {b : List Int} (hb : B8 b) (i : Nat) : 0 ≤ b.getD i 0 ∧ b.getD i 0 ≤ 255 := by
 rw [List.getD_eq_getElem?_getD]
 rcases Nat.lt_or_ge i b.length with h | h
 ·rw [List.getElem?_eq_getElem h]; exact hb.get i h
 ·rw [List.getElem?_eq_none h]; simp
def highsN (n w : Nat) (b : List Int) : Nat → Nat → List Nat → Option (List Nat × Nat)
 | 0, at_, l => some (l, at_)
 | c + 1, at_, l =>
  if b.length ≤ at_ then none else if (n : Int) ≤ b.getD at_ 0 then none else if w = 64 then none else
  match takeN (b.drop (at_ + 1)) with
  | none => none
  | some (h, k) => highsN n w b c (at_ + 1 + k) (l.set (b.getD at_ 0).toNat ((l.getD (b.getD at_ 0).toNat 0 + h * 2 ^ w) % 2 ^ 64))
def unN (V w n : Nat) : List Nat := (List.range n).map fun i => V / 2 ^ (i * w) % 2 ^ w
theorem unOf_unN (V w n : Nat) : unOf V w n = up (unN V w n) := by simp [unOf, unN, up]
theorem length_unN (V w n : Nat) : (unN V w n).length = n := by simp [unN]
def addN (base : Nat) (l : List Nat) : List Nat := l.map fun x => (x + base) % 2 ^ 64
def bodyN (b : List Int) (n base at_ w c : Nat) : Option (List Nat × Nat) :=
 if b.length < at_ + 2 + (n * w + 7) / 8 then none else
 if 2 ^ (n * w) ≤ val ((b.take (at_ + 2 + (n * w + 7) / 8)).drop (at_ + 2)) then none else
 match highsN n w b c (at_ + 2 + (n * w + 7) / 8) (unN (val ((b.take (at_ + 2 + (n * w + 7) / 8)).drop (at_ + 2))) w n) with
 | none => none
 | some (l, z) => some (addN base l, z)
def readN (s : Bool) : List Int → Option (List Nat × Nat)
 | [] => none
 | n0 :: rest =>
  if n0 < 1 then none else if 32 < n0 then none else
  match takeN rest with
  | none => none
  | some (base, k) =>
   if (n0 :: rest).length < 1 + k + 2 then none else
   if 64 < (n0 :: rest).getD (1 + k) 0 then none else
   if (if s then n0 else 32) < (n0 :: rest).getD (1 + k + 1) 0 then none else
   bodyN (n0 :: rest) n0.toNat base (1 + k) ((n0 :: rest).getD (1 + k) 0).toNat ((n0 :: rest).getD (1 + k + 1) 0).toNat
def resR : Option (List Nat × Nat) → List Int × Int × Bool
 | none => ([], 0, false)
 | some (l, z) => (up l, (z : Int), true)
theorem up_set (l : List Nat) (i x : Nat) : (up l).set i (x : Int) = up (l.set i x) := by simp [up, List.map_set]
theorem mapset (f : Nat → Nat) (ls : List Nat) (i : Nat) (h : i < ls.length) : (up ((ls.take i).map f ++ ls.drop i)).set i (f ls[i] : Int) = up ((ls.take (i + 1)).map f ++ ls.drop (i + 1)) := by
 rw [up_set, List.set_append_right _ _ (by simp; omega), List.take_succ_eq_append_getElem h, List.map_append, List.append_assoc, List.length_map, List.length_take, Nat.min_eq_left (by omega), Nat.sub_self, List.drop_eq_getElem_cons h, List.set_cons_zero]
 rfl
theorem mapget (f : Nat → Nat) (ls : List Nat) (i : Nat) (h : i < ls.length) : rd (up ((ls.take i).map f ++ ls.drop i)) (i : Int) = (ls[i] : Int) := by
 rw [rd_up _ i (by simp; omega)]
 rw [List.getElem_append_right (by simp; exact Nat.min_le_left _ _)]
 simp [Nat.min_eq_left (Nat.le_of_lt h)]
theorem length_mapped (f : Nat → Nat) (ls : List Nat) (i : Nat) (h : i ≤ ls.length) : ((ls.take i).map f ++ ls.drop i).length = ls.length := by simp; omega
theorem read_l1 (base z : Nat) (hbase : base < 2 ^ 64) (ls : List Nat) (hl : Lt64 ls) (hn : ls.length ≤ 4096) : ∀ (m i : Nat), i + m = ls.length →
  Ev (fun k => pfor_read.l1 k (base : Int) (z : Int) (up ((ls.take i).map (fun x => (x + base) % 2 ^ 64) ++ ls.drop i)) (ls.length : Int) (i : Int)) (up (addN base ls), (z : Int), true)
 | 0, i, hi => by
  obtain rfl : i = ls.length := by omega
  apply Ev.succ
  simp only [pfor_read.l1]
  rw [List.take_length, List.drop_length, List.append_nil]
  exact Ev.if_f (by omega) (Ev.now _)
 | m + 1, i, hi => by
  have hil : i < ls.length := by omega
  have hx := hl.get i hil
  apply Ev.succ
  simp only [pfor_read.l1]
  rw [mapget _ ls i hil, inc i (by omega), up_length, length_mapped _ ls i (by omega), Int.toNat_natCast, ← Int.natCast_add, wu_mod, mapset _ ls i hil]
  exact Ev.if_t (by omega) (Ev.if_t (by omega) (Ev.if_t (by omega) (read_l1 base z hbase ls hl hn m (i + 1) (by omega))))
theorem shl_add {x h w : Nat} (hw : w ≤ 64) : IntKind.u64.wrap ((x : Int) + shl .u64 (h : Int) (w : Int)) = (((x + h * 2 ^ w) % 2 ^ 64 : Nat) : Int) := by
 rw [shl_u64 _ _ hw, show ((h : Int) * 2 ^ w) = ((h * 2 ^ w : Nat) : Int) by simp, wu_mod, ← Int.natCast_add, wu_mod]
 generalize h * 2 ^ w = y
 congr 1
 omega
theorem lt64_set {l : List Nat} (h : Lt64 l) (i y : Nat) : Lt64 (l.set i (y % 2 ^ 64)) := fun x hx => by
 rcases List.mem_or_eq_of_mem_set hx with h1 | h1
 ·exact h x h1
 ·subst h1; exact Nat.mod_lt _ (by decide)
theorem up_getD (l : List Nat) (i : Nat) : rd (up l) (i : Int) = ((l.getD i 0 : Nat) : Int) := by
 rw [rd_getD, List.getD_eq_getElem?_getD, List.getD_eq_getElem?_getD, up, List.getElem?_map]
 cases l[i]? <;> simp
def resH (base : Nat) : Option (List Nat × Nat) → List Int × Int × Bool
 | none => ([], 0, false)
 | some (l, z) => (up (addN base l), (z : Int), true)
theorem read_highs (b : List Int) (hb : B8 b) (hbl : b.length ≤ 140737488355328) {n w base : Nat} (hn : n ≤ 32) (hw : w ≤ 64) (hbase : base < 2 ^ 64) : ∀ (c at_ : Nat) (l : List Nat), c ≤ 255 → l.length = n → Lt64 l → at_ ≤ b.length →
  Ev (fun k => pfor_read.l0 k b (n : Int) (base : Int) (at_ : Int) (w : Int) (c : Int) (up l)) (resH base (highsN n w b c at_ l))
 | 0, at_, l, hc, hl, hlt, hat => by
  apply Ev.succ
  simp only [pfor_read.l0]
  refine Ev.if_f (by decide) ?_
  have := read_l1 base at_ hbase l hlt (by omega) l.length 0 (by omega)
  simp only [up_length]
  simpa [highsN, resH] using this
 | c + 1, at_, l, hc, hl, hlt, hat => by
  have hbad : Ev (fun k => pfor_read.j3 k b (n : Int) (base : Int) (at_ : Int) (w : Int) ((c + 1 : Nat) : Int) (up l) true) ([], 0, false) := by
   apply Ev.succ
   simp only [pfor_read.j3]
   exact Ev.if_t (by simp) (Ev.now _)
  apply Ev.succ
  simp only [pfor_read.l0]
  rw [highsN]
  refine Ev.if_t (by omega) ?_
  by_cases h1 : b.length ≤ at_
  ·rw [if_pos h1]
   exact Ev.if_t (by omega) hbad
  ·rw [if_neg h1]
   have hx := getD_byte hb at_
   rw [rd_getD]
   generalize hxx : b.getD at_ 0 = x at *
   rw [w64 (by omega) (by omega)]
   refine Ev.if_f (by omega) (Ev.if_t (by omega) (Ev.if_t (by omega) ?_))
   by_cases h2 : (n : Int) ≤ x
   ·rw [if_pos h2]
    exact Ev.if_t (by omega) hbad
   ·rw [if_neg h2]
    refine Ev.if_f (by omega) ?_
    by_cases h3 : w = 64
    ·rw [if_pos h3, show ((w : Int) == 64) = true by simp; omega]
     exact hbad
    ·rw [if_neg h3, show ((w : Int) == 64) = false by simp; omega]
     apply Ev.succ
     simp only [pfor_read.j3]
     rw [rd_getD, hxx, w64 (x := x) (by omega) (by omega), inc at_ (by omega), Int.toNat_natCast]
     refine Ev.if_f (by decide) (Ev.if_t (by omega) (Ev.if_t (by omega) (Ev.if_t (by omega) (Ev.if_t (by omega) (Ev.bind (take_ev _ (hb.drop _) (by rw [List.length_drop]; omega)) ?_)))))
     rcases takeN_cases (b.drop (at_ + 1)) (hb.drop _) with ⟨e, he, h4, h5⟩ | ⟨v, k, h4, h5, hv, hk1, hk9, hkl, _⟩
     ·rw [h4, h5]
      exact Ev.if_f he (Ev.now _)
     ·rw [h4, h5]
      obtain ⟨i, rfl⟩ := Int.eq_ofNat_of_zero_le hx.1
      rw [List.length_drop] at hkl
      refine Ev.if_t rfl (Ev.if_t (by omega) (Ev.if_t (by simp; omega) (Ev.if_t (by omega) ?_)))
      simp only [Int.toNat_natCast]
      rw [show (1 : Int) = ((1 : Nat) : Int) from rfl, add64 1 k (by omega), add64 at_ _ (by omega), sub64 (c + 1) 1 (by omega) (by omega), up_getD, shl_add hw, up_set]
      have ih := read_highs b hb hbl hn hw hbase c (at_ + (1 + k)) (l.set i ((l.getD i 0 + v * 2 ^ w) % 2 ^ 64)) (by omega) (by simpa using hl) (lt64_set hlt _ _) (by omega)
      rw [← Nat.add_assoc] at ih ⊢
      exact ih
theorem unpack_seg (seg : List Int) (n w : Nat) (hn : n ≤ 4096) (hw : w ≤ 64) (hl : seg.length = (n * w + 7) / 8) : unpackOf seg (n : Int) (w : Int) = if 2 ^ (n * w) ≤ val seg then ([], 2) else (up (unN (val seg) w n), 0) := by
 unfold unpackOf
 simp only [Int.toNat_natCast]
 rw [if_neg (by omega), if_neg (by omega), if_neg (by omega), unOf_unN]
theorem lt_unN (V w n : Nat) (hw : w ≤ 64) : Lt64 (unN V w n) := fun x hx => by
 obtain ⟨i, _, rfl⟩ := List.mem_map.1 hx
 exact Nat.lt_of_lt_of_le (Nat.mod_lt _ (two_pow_pos' _)) (Nat.pow_le_pow_right (by decide) hw)
theorem length_seg (b : List Int) (a s : Nat) (h : a + s ≤ b.length) : ((b.take (a + s)).drop a).length = s := by simp; omega
theorem read_j1 (b : List Int) (hb : B8 b) (hbl : b.length ≤ 140737488355328) {n w base at_ c : Nat} (hn : n ≤ 32) (hw : w ≤ 64) (hbase : base < 2 ^ 64) (hat : at_ + 2 ≤ b.length) (ew : b.getD at_ 0 = (w : Int)) (ec : b.getD (at_ + 1) 0 = (c : Int)) (hc : c ≤ 255) :
  Ev (fun k => pfor_read.j1 k b (n : Int) (base : Int) (at_ : Int) false) (resR (bodyN b n base at_ w c)) := by
 have hnw : n * w ≤ 32 * 64 := Nat.mul_le_mul hn hw
 apply Ev.succ
 simp only [pfor_read.j1]
 rw [inc at_ (by omega), show (2 : Int) = ((2 : Nat) : Int) from rfl, add64 at_ 2 (by omega), rd_getD, rd_getD, ew, ec, w64 (x := (w : Int)) (by omega) (by omega), w64 (x := (c : Int)) (by omega) (by omega), wrap_size n w hw (by omega), add64 (at_ + 2) _ (by omega)]
 refine Ev.if_f (by decide) (Ev.if_t (by omega) (Ev.if_t (by omega) (Ev.if_t (by omega) (Ev.if_t (by omega) ?_))))
 unfold bodyN
 by_cases h1 : b.length < at_ + 2 + (n * w + 7) / 8
 ·rw [if_pos h1]
  exact Ev.if_t (by omega) (Ev.now _)
 ·rw [if_neg h1, Int.toNat_natCast, Int.toNat_natCast]
  refine Ev.if_f (by omega) (Ev.if_t (by omega) (Ev.if_t (by omega) (Ev.if_t (by omega) ?_)))
  have hsl := length_seg b (at_ + 2) ((n * w + 7) / 8) (by omega)
  have hu := unpack_ev ((b.take (at_ + 2 + (n * w + 7) / 8)).drop (at_ + 2)) ((hb.take _).drop _) (by omega) (n : Int) (w : Int)
  rw [unpack_seg _ n w (by omega) hw hsl] at hu
  generalize val ((b.take (at_ + 2 + (n * w + 7) / 8)).drop (at_ + 2)) = V at *
  refine Ev.bind hu ?_
  by_cases h2 : 2 ^ (n * w) ≤ V
  ·rw [if_pos h2, if_pos h2]
   exact Ev.if_f (by show ¬ (2 : Int) = 0; decide) (Ev.now _)
  ·rw [if_neg h2, if_neg h2]
   refine Ev.if_t rfl ?_
   have := read_highs b hb hbl hn hw hbase c (at_ + 2 + (n * w + 7) / 8) (unN V w n) hc (length_unN _ _ _) (lt_unN _ _ _ hw) (by omega)
   cases hh : highsN n w b c (at_ + 2 + (n * w + 7) / 8) (unN V w n) with
   | none => rw [hh] at this; exact this
   | some p => rw [hh] at this; exact this
theorem read_ev (b : List Int) (hb : B8 b) (hbl : b.length ≤ 140737488355328) : Ev (fun k => pfor_read.f k b) (resR (readN true b)) := by
 have hj0 : Ev (fun k => pfor_read.j0 k b true) (resR none) := by
  apply Ev.succ
  simp only [pfor_read.j0]
  exact Ev.if_t (by simp) (Ev.now _)
 have hj1 : ∀ n base at_ : Int, Ev (fun k => pfor_read.j1 k b n base at_ true) (resR none) := by
  intro n base at_
  apply Ev.succ
  simp only [pfor_read.j1]
  exact Ev.if_t (by simp) (Ev.now _)
 unfold pfor_read.f
 cases b with
 | nil => exact Ev.if_t (by simp) hj0
 | cons n0 rest =>
  obtain ⟨hx, hr⟩ := hb.cons
  have e0 : rd (n0 :: rest) 0 = n0 := rfl
  have hlen : (n0 :: rest).length = rest.length + 1 := rfl
  rw [readN, e0]
  refine Ev.if_f (by omega) (Ev.if_t (by omega) ?_)
  by_cases h1 : n0 < 1
  ·rw [if_pos h1]; exact Ev.if_t h1 hj0
  rw [if_neg h1]
  refine Ev.if_f h1 ?_
  by_cases h2 : 32 < n0
  ·rw [if_pos h2, decide_eq_true (by omega)]; exact hj0
  rw [if_neg h2, decide_eq_false (by omega)]
  apply Ev.succ
  simp only [pfor_read.j0]
  rw [e0, List.drop_one, List.tail_cons, w64 (x := n0) (by omega) (by omega)]
  refine Ev.if_f (by decide) (Ev.if_t (by omega) (Ev.if_t (by omega) (Ev.bind (take_ev rest hr (by omega)) ?_)))
  rcases takeN_cases rest hr with ⟨e, he, h4, h5⟩ | ⟨v, k, h4, h5, hv, hk1, hk9, hkl, _⟩
  ·rw [h4, h5]
   exact Ev.if_f he (hj1 _ _ _)
  ·rw [h4, h5]
   refine Ev.if_t rfl ?_
   simp only []
   rw [show (1 : Int) = ((1 : Nat) : Int) from rfl, add64 1 k (by omega), show (2 : Int) = ((2 : Nat) : Int) from rfl, add64 (1 + k) 2 (by omega), add64 (1 + k) 1 (by omega), rd_getD, rd_getD]
   have hw := getD_byte hb (1 + k)
   have hc := getD_byte hb (1 + k + 1)
   by_cases h6 : (n0 :: rest).length < 1 + k + 2
   ·rw [if_pos h6]; exact Ev.if_t (by omega) (hj1 _ _ _)
   rw [if_neg h6]
   refine Ev.if_f (by omega) (Ev.if_t (by omega) (Ev.if_t (by omega) ?_))
   obtain ⟨w, ew⟩ := Int.eq_ofNat_of_zero_le hw.1
   obtain ⟨c, ec⟩ := Int.eq_ofNat_of_zero_le hc.1
   rw [ew] at hw
   rw [ec] at hc
   rw [ew, ec]
   by_cases h7 : 64 < (w : Int)
   ·rw [if_pos h7]; exact Ev.if_t (by omega) (hj1 _ _ _)
   rw [if_neg h7]
   refine Ev.if_f (by omega) (Ev.if_t (by omega) (Ev.if_t (by omega) ?_))
   rw [w64 (x := (c : Int)) (by omega) (by omega)]
   simp only [if_true]
   by_cases h8 : n0 < (c : Int)
   ·rw [if_pos h8, decide_eq_true (by omega)]; exact hj1 _ _ _
   ·rw [if_neg h8, decide_eq_false (by omega)]
    obtain ⟨n, rfl⟩ := Int.eq_ofNat_of_zero_le hx.1
    simp only [Int.toNat_natCast]
    exact read_j1 _ hb hbl (by omega) (by omega) hv (by omega) ew ec (by omega)
def takeB (s : Bool) (b : List Int) : List Int × Int × Int :=
 match readN s b with
 | none => ([], 0, 2)
 | some (l, z) => if blockOf l = b.take z then (up l, (z : Int), 0) else ([], 0, 2)
theorem highsN_some (n w : Nat) (b : List Int) (hb : B8 b) : ∀ (c at_ : Nat) (l l2 : List Nat) (z : Nat), at_ ≤ b.length → l.length = n → highsN n w b c at_ l = some (l2, z) → l2.length = n ∧ z ≤ b.length
 | 0, at_, l, l2, z, ha, hl, h => by
  simp only [highsN, Option.some.injEq, Prod.mk.injEq] at h
  obtain ⟨rfl, rfl⟩ := h
  exact ⟨hl, ha⟩
 | c + 1, at_, l, l2, z, ha, hl, h => by
  rw [highsN] at h
  by_cases h1 : b.length ≤ at_
  ·rw [if_pos h1] at h; cases h
  rw [if_neg h1] at h
  by_cases h2 : (n : Int) ≤ b.getD at_ 0
  ·rw [if_pos h2] at h; cases h
  rw [if_neg h2] at h
  by_cases h3 : w = 64
  ·rw [if_pos h3] at h; cases h
  rw [if_neg h3] at h
  rcases takeN_cases (b.drop (at_ + 1)) (hb.drop _) with ⟨e, he, h4, h5⟩ | ⟨v, k, h4, h5, hv, hk1, hk9, hkl, _⟩
  ·rw [h5] at h; cases h
  ·rw [h5] at h
   rw [List.length_drop] at hkl
   exact highsN_some n w b hb c _ _ l2 z (by omega) (by simpa using hl) h
theorem lt_addN (base : Nat) (l : List Nat) : Lt64 (addN base l) := fun x hx => by
 obtain ⟨y, _, rfl⟩ := List.mem_map.1 hx
 exact Nat.mod_lt _ (by decide)
theorem bodyN_some {b : List Int} (hb : B8 b) {n base at_ w c : Nat} {l : List Nat} {z : Nat} (h : bodyN b n base at_ w c = some (l, z)) : l.length = n ∧ z ≤ b.length ∧ Lt64 l := by
 unfold bodyN at h
 by_cases h1 : b.length < at_ + 2 + (n * w + 7) / 8
 ·rw [if_pos h1] at h; cases h
 rw [if_neg h1] at h
 by_cases h2 : 2 ^ (n * w) ≤ val ((b.take (at_ + 2 + (n * w + 7) / 8)).drop (at_ + 2))
 ·rw [if_pos h2] at h; cases h
 rw [if_neg h2] at h
 cases hh : highsN n w b c (at_ + 2 + (n * w + 7) / 8) (unN (val ((b.take (at_ + 2 + (n * w + 7) / 8)).drop (at_ + 2))) w n) with
 | none => rw [hh] at h; cases h
 | some p =>
  obtain ⟨l2, z2⟩ := p
  rw [hh] at h
  simp only [Option.some.injEq, Prod.mk.injEq] at h
  obtain ⟨rfl, rfl⟩ := h
  have := highsN_some n w b hb c _ _ l2 z2 (by omega) (length_unN _ _ _) hh
  exact ⟨by simp [addN, this.1], this.2, lt_addN _ _⟩
theorem readN_some {s : Bool} {b : List Int} (hb : B8 b) {l : List Nat} {z : Nat} (h : readN s b = some (l, z)) : 1 ≤ l.length ∧ l.length ≤ 32 ∧ z ≤ b.length ∧ Lt64 l := by
 cases b with
 | nil => cases h
 | cons n0 rest =>
  rw [readN] at h
  by_cases h1 : n0 < 1
  ·rw [if_pos h1] at h; cases h
  rw [if_neg h1] at h
  by_cases h2 : 32 < n0
  ·rw [if_pos h2] at h; cases h
  rw [if_neg h2] at h
  cases ht : takeN rest with
  | none => rw [ht] at h; cases h
  | some p =>
   obtain ⟨base, k⟩ := p
   rw [ht] at h
   simp only [] at h
   by_cases h3 : (n0 :: rest).length < 1 + k + 2
   ·rw [if_pos h3] at h; cases h
   rw [if_neg h3] at h
   by_cases h4 : 64 < (n0 :: rest).getD (1 + k) 0
   ·rw [if_pos h4] at h; cases h
   rw [if_neg h4] at h
   by_cases h5 : (if s = true then n0 else 32) < (n0 :: rest).getD (1 + k + 1) 0
   ·rw [if_pos h5] at h; cases h
   rw [if_neg h5] at h
   have := bodyN_some hb h
   exact ⟨by omega, by omega, this.2.1, this.2.2⟩
theorem equal8 {a b : List Int} (ha : B8 a) (hb : B8 b) : bytes_Equal.f a b = some (decide (a = b)) := same8 ha hb
theorem takeBlock_ev (b : List Int) (hb : B8 b) (hbl : b.length ≤ 140737488355328) : Ev (fun k => pfor_TakeBlock.f k b) (takeB true b) := by
 unfold pfor_TakeBlock.f takeB
 refine Ev.bind (read_ev b hb hbl) ?_
 cases hr : readN true b with
 | none => exact Ev.if_f (by simp [resR]) (Ev.now _)
 | some p =>
  obtain ⟨l, z⟩ := p
  obtain ⟨h1, h2, h3, h4⟩ := readN_some hb hr
  simp only [resR]
  refine Ev.if_t (by simp) (Ev.bind (putBlock_ok [] (by simp) h4 h1 h2) ?_)
  rw [Int.toNat_natCast]
  simp only [List.nil_append]
  refine Ev.if_t (by simp) (Ev.if_t (by omega) (Ev.if_t (by omega) (Ev.obind (equal8 (in_blockOf h4 h2) (hb.take z)) ?_)))
  by_cases h : blockOf l = b.take z
  ·rw [if_pos h]; exact Ev.if_t (decide_eq_true h) (Ev.now _)
  ·rw [if_neg h]; exact Ev.if_f (by simpa using h) (Ev.now _)
theorem byOf_at (base : Nat) (ds : List Nat) (w : Nat) (more : List Int) : ∃ rest, byOf base ds w ++ more = (ds.length : Int) :: (numEnc base ++ rest) ∧ rest = (w : Int) :: (cntOf w ds : Int) :: (packOf w (lowOf w ds) ++ tailOf w 0 ds ++ more) := by
 refine ⟨_, ?_, rfl⟩
 unfold byOf
 simp
theorem getD_app {α : Type} (a b : List α) (i : Nat) (d : α) : (a ++ b).getD (a.length + i) d = b.getD i d := by
 rw [List.getD_eq_getElem?_getD, List.getD_eq_getElem?_getD, List.getElem?_append_right (by omega), show a.length + i - a.length = i by omega]
theorem takeN_of {b : List Int} {v k : Nat} (h : takeOf b = ((v : Int), (k : Int), 0)) : takeN b = some (v, k) := by
 unfold takeN
 rw [h]
 simp only [if_true, Int.toNat_natCast]
theorem getD_at {α : Type} (x : α) (a : List α) (b : List α) (i : Nat) (d : α) : (x :: (a ++ b)).getD (1 + a.length + i) d = b.getD i d := by
 rw [show 1 + a.length + i = (a.length + i) + 1 by omega, List.getD_cons_succ, getD_app]
def lowN (w : Nat) (ds : List Nat) : List Nat := ds.map fun d => d % 2 ^ w
theorem highs_tail (n w : Nat) (hw : w ≤ 64) (b more : List Int) : ∀ (ds done : List Nat) (at_ : Nat), Lt64 ds → done.length + ds.length = n → n ≤ 255 → b.drop at_ = tailOf w done.length ds ++ more → at_ ≤ b.length →
  highsN n w b (cntOf w ds) at_ (done ++ lowN w ds) = some (done ++ ds, at_ + tailLen w ds)
 | [], done, at_, _, _, _, _, _ => by simp [cntOf, lowN, highsN, tailLen]
 | d :: ds, done, at_, hd, hn, h255, hb, hat => by
  have hx : d < 2 ^ 64 := hd d List.mem_cons_self
  have hd' : Lt64 ds := fun x hx => hd x (List.mem_cons_of_mem _ hx)
  have ih := highs_tail n w hw b more ds (done ++ [d])
  rw [List.length_append, List.length_singleton, List.append_assoc, List.append_assoc, List.singleton_append, List.singleton_append] at ih
  rw [List.length_cons] at hn
  rw [tailOf] at hb
  rw [cntOf, tailLen]
  by_cases hp : 0 < d / 2 ^ w
  ·rw [if_pos hp, List.cons_append, List.cons_append, List.append_assoc] at hb
   rw [if_pos hp, if_pos hp, Nat.add_comm 1, highsN]
   have hlt : at_ < b.length := by
    rcases Nat.lt_or_ge at_ b.length with h | h
    ·exact h
    ·rw [List.drop_of_length_le h] at hb; cases hb
   have hg : b.getD at_ 0 = (done.length : Int) := by
    rw [List.drop_eq_getElem_cons hlt] at hb
    rw [List.getD_eq_getElem?_getD, List.getElem?_eq_getElem hlt]
    exact (List.cons.inj hb).1
   have hdr : b.drop (at_ + 1) = numEnc (d / 2 ^ w) ++ (tailOf w (done.length + 1) ds ++ more) := by
    rw [List.drop_eq_getElem_cons hlt] at hb
    exact (List.cons.inj hb).2
   have hw64 : w ≠ 64 := by
    rintro rfl
    rw [fits64 hx (Nat.le_refl _)] at hp
    omega
   have ht : takeN (b.drop (at_ + 1)) = some (d / 2 ^ w, (numEnc (d / 2 ^ w)).length) := by
    rw [hdr]
    exact takeN_of (takeOf_enc (div_lt64 hx w) _)
   rw [if_neg (by omega), hg, if_neg (by omega), if_neg hw64, ht]
   simp only [Int.toNat_natCast]
   have e1 : (done ++ lowN w (d :: ds)).getD done.length 0 = d % 2 ^ w := by
    have := getD_app done (lowN w (d :: ds)) 0 0; rw [Nat.add_zero] at this; rw [this]; rfl
   have e2 : d % 2 ^ w + d / 2 ^ w * 2 ^ w = d := by rw [Nat.mul_comm]; exact Nat.mod_add_div d (2 ^ w)
   have e3 : (done ++ lowN w (d :: ds)).set done.length d = done ++ d :: lowN w ds := by
    rw [List.set_append_right _ _ (Nat.le_refl _), Nat.sub_self]; rfl
   rw [e1, e2, Nat.mod_eq_of_lt hx, e3, ih _ hd' (by omega) h255 ?_ ?_]
   ·congr 2; omega
   ·have := (List.drop_drop (i := (numEnc (d / 2 ^ w)).length) (j := at_ + 1) (l := b)).symm
    rw [this, hdr, List.drop_left]
   ·have := congrArg List.length hdr
    rw [List.length_drop, List.length_append] at this
    omega
  ·rw [if_neg hp, List.nil_append] at hb
   rw [if_neg hp, if_neg hp, Nat.zero_add, Nat.zero_add]
   have e : d % 2 ^ w = d := by
    have h1 := Nat.mod_add_div d (2 ^ w)
    rw [Nat.eq_zero_of_not_pos hp, Nat.mul_zero] at h1
    exact h1
   have e1 : lowN w (d :: ds) = d :: lowN w ds := by simp [lowN, e]
   rw [e1]
   exact ih _ hd' (by omega) h255 hb hat
theorem val_packOf {w : Nat} {l : List Int} (hf : Fit w l) : val (packOf w l) = pval w l := by
 have := pval_lt w hf
 rw [packOf, val_digits, p256]
 exact Nat.mod_eq_of_lt (Nat.lt_of_lt_of_le this (Nat.pow_le_pow_right (by decide) (by omega)))
theorem unN_low (w : Nat) (ds : List Nat) : unN (pval w (lowOf w ds)) w ds.length = lowN w ds := by
 have h := unOf_pval w (fit_lowOf w ds) (fun x hx => by
  obtain ⟨n, _, rfl⟩ := List.mem_map.1 hx
  omega)
 rw [length_lowOf, unOf_unN] at h
 exact up_inj h
theorem addN_less {ns : List Nat} (hn : Lt64 ns) : addN (baseOf ns) (lessOf ns) = ns := by
 unfold addN lessOf
 rw [List.map_map]
 conv => rhs; rw [← List.map_id ns]
 refine List.map_congr_left fun x hx => ?_
 obtain ⟨i, hi, rfl⟩ := List.getElem_of_mem hx
 have h1 := baseOf_le ns i hi
 have h2 := hn.get i hi
 simp only [Function.comp, id]
 rw [Nat.sub_add_cancel h1, Nat.mod_eq_of_lt h2]
theorem bodyN_back {ns : List Nat} (hn : Lt64 ns) (h32 : ns.length ≤ 32) (b more : List Int) (at_ : Nat)
  (hb : b.drop (at_ + 2) = packOf (widthB ns) (lowOf (widthB ns) (lessOf ns)) ++ (tailOf (widthB ns) 0 (lessOf ns) ++ more)) (hat : at_ + 2 ≤ b.length) :
  bodyN b ns.length (baseOf ns) at_ (widthB ns) (cntOf (widthB ns) (lessOf ns)) = some (ns, at_ + 2 + costOf (lessOf ns) (widthB ns)) := by
 have hw := widthB_le ns
 generalize widthB ns = w at *
 have hs : (packOf w (lowOf w (lessOf ns))).length = (ns.length * w + 7) / 8 := by rw [length_packOf, length_lowOf, length_lessOf, Nat.mul_comm]
 have hlen := congrArg List.length hb
 rw [List.length_drop, List.length_append, hs] at hlen
 have hseg : (b.take (at_ + 2 + (ns.length * w + 7) / 8)).drop (at_ + 2) = packOf w (lowOf w (lessOf ns)) := by
  rw [List.drop_take, hb, show at_ + 2 + (ns.length * w + 7) / 8 - (at_ + 2) = (ns.length * w + 7) / 8 by omega, ← hs, List.take_left]
 have hdr : b.drop (at_ + 2 + (ns.length * w + 7) / 8) = tailOf w 0 (lessOf ns) ++ more := by
  rw [← List.drop_drop, hb, ← hs, List.drop_left]
 have hv := pval_lt w (fit_lowOf w (lessOf ns))
 rw [length_lowOf, length_lessOf, Nat.mul_comm] at hv
 unfold bodyN
 rw [if_neg (by omega), hseg, val_packOf (fit_lowOf _ _), if_neg (by omega)]
 have hu := unN_low w (lessOf ns)
 rw [length_lessOf] at hu
 have ht := highs_tail ns.length w hw b more (lessOf ns) [] (at_ + 2 + (ns.length * w + 7) / 8) (lt_lessOf hn) (by simp) (by omega) hdr (by omega)
 simp only [List.nil_append] at ht
 rw [hu, ht]
 simp only []
 rw [addN_less hn]
 unfold costOf
 rw [length_lessOf]
 congr 2
 omega
theorem readN_back {ns : List Nat} (hn : Lt64 ns) (h1 : 1 ≤ ns.length) (h32 : ns.length ≤ 32) (more : List Int) : readN true (blockOf ns ++ more) = some (ns, (blockOf ns).length) := by
 have hw := widthB_le ns
 have hk := cntOf_le (widthB ns) (lessOf ns)
 have hlen : (blockOf ns).length = 3 + (numEnc (baseOf ns)).length + costOf (lessOf ns) (widthB ns) := length_byOf _ _ _
 obtain ⟨r2, e1, e2⟩ := byOf_at (baseOf ns) (lessOf ns) (widthB ns) more
 have e3 : blockOf ns ++ more = (ns.length : Int) :: (numEnc (baseOf ns) ++ r2) := by
  rw [← length_lessOf ns, ← e1]; rfl
 rw [length_lessOf] at hk
 rw [e3, readN, if_neg (by omega), if_neg (by omega), takeN_of (takeOf_enc (baseOf_lt hn) r2)]
 simp only []
 have g0 : ((ns.length : Int) :: (numEnc (baseOf ns) ++ r2)).getD (1 + (numEnc (baseOf ns)).length) 0 = (widthB ns : Int) := by
  have := getD_at (ns.length : Int) (numEnc (baseOf ns)) r2 0 0
  rw [Nat.add_zero] at this
  rw [this, e2]; rfl
 have g1 : ((ns.length : Int) :: (numEnc (baseOf ns) ++ r2)).getD (1 + (numEnc (baseOf ns)).length + 1) 0 = (cntOf (widthB ns) (lessOf ns) : Int) := by
  rw [getD_at, e2]; rfl
 rw [g0, g1, if_neg (by rw [List.length_cons, List.length_append, e2]; simp; omega), if_neg (by omega)]
 simp only [if_true]
 rw [if_neg (by omega)]
 simp only [Int.toNat_natCast]
 have hd : ((ns.length : Int) :: (numEnc (baseOf ns) ++ r2)).drop (1 + (numEnc (baseOf ns)).length + 2) = packOf (widthB ns) (lowOf (widthB ns) (lessOf ns)) ++ (tailOf (widthB ns) 0 (lessOf ns) ++ more) := by
  rw [show 1 + (numEnc (baseOf ns)).length + 2 = (numEnc (baseOf ns)).length + 2 + 1 by omega, List.drop_succ_cons, ← List.drop_drop, List.drop_left, e2, List.append_assoc]
  rfl
 rw [bodyN_back hn h32 _ more _ hd (by rw [List.length_cons, List.length_append, e2]; simp; omega), hlen]
 congr 2
 omega
theorem takeB_back {ns : List Nat} (hn : Lt64 ns) (h1 : 1 ≤ ns.length) (h32 : ns.length ≤ 32) (more : List Int) : takeB true (blockOf ns ++ more) = (up ns, ((blockOf ns).length : Int), 0) := by
 unfold takeB
 rw [readN_back hn h1 h32 more]
 simp only []
 rw [if_pos (List.take_left).symm]
theorem takeB_spec {b : List Int} (hb : B8 b) : takeB true b = ([], 0, 2) ∨ ∃ (ns : List Nat) (z : Nat), takeB true b = (up ns, (z : Int), 0) ∧ Lt64 ns ∧ 1 ≤ ns.length ∧ ns.length ≤ 32 ∧ z ≤ b.length ∧ blockOf ns = b.take z ∧ 4 ≤ z := by
 unfold takeB
 cases hr : readN true b with
 | none => exact .inl rfl
 | some p =>
  obtain ⟨l, z⟩ := p
  obtain ⟨h1, h2, h3, h4⟩ := readN_some hb hr
  simp only []
  by_cases h : blockOf l = b.take z
  ·rw [if_pos h]
   refine .inr ⟨l, z, rfl, h4, h1, h2, h3, h, ?_⟩
   have hlen := congrArg List.length h
   have hbl : (blockOf l).length = 3 + (numEnc (baseOf l)).length + costOf (lessOf l) (widthB l) := length_byOf _ _ _
   rw [List.length_take, hbl] at hlen
   have : 1 ≤ (numEnc (baseOf l)).length := by rw [length_numEnc]; split <;> omega
   omega
  ·rw [if_neg h]; exact .inl rfl
def blocksF : Nat → List Nat → List Int
 | 0, _ => []
 | m + 1, ns => if ns.length = 0 then [] else blockOf (ns.take 32) ++ blocksF m (ns.drop 32)
def listOf (m : Nat) (ns : List Nat) : List Int := numEnc ns.length ++ blocksF m ns
theorem blocksF_len (m : Nat) : ∀ (ns : List Nat), Lt64 ns → (blocksF m ns).length ≤ 700 * ns.length := by
 induction m with
 | zero => intro ns _; exact Nat.zero_le _
 | succ m ih =>
  intro ns h
  rw [blocksF]
  by_cases h0 : ns.length = 0
  ·rw [if_pos h0]; exact Nat.zero_le _
  ·rw [if_neg h0, List.length_append]
   have h1 := length_blockOf_le (h.take 32) (by rw [List.length_take]; omega)
   have h2 := ih (ns.drop 32) (h.drop 32)
   rw [List.length_drop] at h2
   omega
theorem in_blocksF (m : Nat) : ∀ (ns : List Nat), Lt64 ns → B8 (blocksF m ns) := by
 induction m with
 | zero => intro ns _; exact In.nil _
 | succ m ih =>
  intro ns h
  rw [blocksF]
  by_cases h0 : ns.length = 0
  ·rw [if_pos h0]; exact In.nil _
  ·rw [if_neg h0]
   exact In.append (in_blockOf (h.take 32) (by rw [List.length_take]; omega)) (ih _ (h.drop 32))
theorem in_listOf {m : Nat} {ns : List Nat} (h : Lt64 ns) (hn : ns.length ≤ 1000000) : B8 (listOf m ns) := In.append (in_numEnc (by omega)) (in_blocksF m ns h)
theorem listOf_len {m : Nat} {ns : List Nat} (h : Lt64 ns) (hn : ns.length ≤ 1000000) : (listOf m ns).length ≤ 9 + 700 * ns.length := by
 have h1 := length_numEnc_le (v := ns.length) (by omega)
 have h2 := blocksF_len m ns h
 unfold listOf
 rw [List.length_append]
 omega
theorem putList_l0 : ∀ (m : Nat) (ns : List Nat) (out : List Int), Lt64 ns → ns.length ≤ 32 * m → out.length + 700 * ns.length ≤ 140737488352000 → Ev (fun k => pfor_PutList.l0 k out (up ns)) (out ++ blocksF m ns)
 | 0, ns, out, h, hm, hb => by
  apply Ev.succ
  simp only [pfor_PutList.l0]
  refine Ev.if_t (by rw [up_length]; omega) ?_
  rw [blocksF, List.append_nil]
  exact Ev.now _
 | m + 1, ns, out, h, hm, hb => by
  apply Ev.succ
  simp only [pfor_PutList.l0]
  rw [blocksF]
  by_cases h0 : ns.length = 0
  ·rw [if_pos h0, List.append_nil]
   exact Ev.if_t (by rw [up_length]; omega) (Ev.now _)
  ·rw [if_neg h0]
   have h1 := length_blockOf_le (h.take 32) (by rw [List.length_take]; omega)
   refine Ev.if_f (by rw [up_length]; omega) ?_
   rw [up_take, up_drop]
   refine Ev.bind (putBlock_ok out (by omega) (h.take 32) (by rw [List.length_take]; omega) (by rw [List.length_take]; omega)) ?_
   have ih := putList_l0 m (ns.drop 32) (out ++ blockOf (ns.take 32)) (h.drop 32) (by rw [List.length_drop]; omega) (by rw [List.length_append, List.length_drop]; omega)
   rw [List.append_assoc] at ih
   exact ih
theorem putList_ok (b : List Int) (hB : B8 b) {ns : List Nat} (h : Lt64 ns) (hb : b.length + 2000 + 1000 * ns.length ≤ 140737488350000) : pfor_PutList.Ok b (up ns) := by
 refine ⟨hB, by rw [up_length]; omega, fun acc ha hal j hj => ?_⟩
 rw [up_length] at hal hj
 have hc1 : 1 ≤ ((ns.drop (32 * j)).take 32).length := by simp; omega
 have hc2 : ((ns.drop (32 * j)).take 32).length ≤ 32 := by simp; omega
 have hc3 : Lt64 ((ns.drop (32 * j)).take 32) := (h.drop _).take _
 obtain ⟨k, hk⟩ := (putBlock_ok acc (by omega) hc3 hc1 hc2).rounds
 refine ⟨k, (acc ++ blockOf ((ns.drop (32 * j)).take 32), 0), ?_, ?_, ?_⟩
 ·rw [up_drop, up_take]; exact hk
 ·exact In.append ha (in_blockOf hc3 hc2)
 ·have := length_blockOf_le hc3 hc2
  simp only [List.length_append]
  omega
theorem putList_ev (b : List Int) (hB : B8 b) {ns : List Nat} (h : Lt64 ns) {m : Nat} (hm : ns.length ≤ 32 * m) (hb : b.length + 2000 + 1000 * ns.length ≤ 140737488350000) : Ev (fun k => pfor_PutList.f k b (up ns)) (b ++ listOf m ns) := by
 have hl : ns.length < 2 ^ 64 := by omega
 have h9 := length_numEnc_le hl
 refine Ev.fn (f := fun k => (num_Put.f k b ((up ns).length : Int)).bind fun t => if (∀ x ∈ t, 0 ≤ x ∧ x ≤ 255) ∧ t.length ≤ b.length + 1000 then pfor_PutList.l0 k t (up ns) else none) ?_ (fun k => ?_)
 ·rw [up_length]
  refine Ev.bind (put_ev b (by omega) hl) (Ev.if_t ⟨In.append hB (in_numEnc hl), by rw [List.length_append]; omega⟩ ?_)
  have := putList_l0 m ns (b ++ numEnc ns.length) h hm (by rw [List.length_append]; omega)
  rw [List.append_assoc] at this
  exact this
 ·unfold pfor_PutList.f
  rw [if_pos (putList_ok b hB h hb)]
def takeLF (b : List Int) : Nat → Nat → List Nat → Nat → List Int × Int × Int
 | 0, _, _, _ => ([], 0, 2)
 | f + 1, at_, acc, left =>
  if left = 0 then (up acc, (at_ : Int), 0) else
  if (takeB true (b.drop at_)).2.2 = 0 then
   if (takeB true (b.drop at_)).1.length = min left 32 then takeLF b f (at_ + (takeB true (b.drop at_)).2.1.toNat) (acc ++ ((takeB true (b.drop at_)).1.map Int.toNat)) (left - (takeB true (b.drop at_)).1.length)
   else ([], 0, 2)
  else ([], 0, 2)
theorem up_toNat (ns : List Nat) : (up ns).map Int.toNat = ns := by
 simp [up, Function.comp_def]
theorem take_l0 (b : List Int) (hB : B8 b) (hbl : b.length ≤ 10000000) : ∀ (f at_ left : Nat) (acc : List Nat), b.length - at_ < f → at_ ≤ b.length → acc.length ≤ 32 * at_ → left ≤ 9223372036854775807 →
  Ev (fun k => pfor_TakeList.l0 k b (at_ : Int) (up acc) (left : Int)) (takeLF b f at_ acc left)
 | 0, at_, left, acc, hf, _, _, _ => by omega
 | f + 1, at_, left, acc, hf, hat, hacc, hleft => by
  apply Ev.succ
  simp only [pfor_TakeList.l0]
  rw [takeLF]
  by_cases h0 : left = 0
  ·rw [if_pos h0]
   exact Ev.if_f (by omega) (Ev.now _)
  rw [if_neg h0, Int.toNat_natCast]
  refine Ev.if_t (by omega) (Ev.if_t (by omega) (Ev.if_t (by omega) (Ev.bind (takeBlock_ev (b.drop at_) (hB.drop _) (by rw [List.length_drop]; omega)) ?_)))
  rcases takeB_spec (hB.drop at_) with h | ⟨ns, z, h, hlt, h1, h32, hz, _, h4⟩
  ·rw [h]
   exact Ev.if_f (by show ¬ (2 : Int) = 0; decide) (by rw [if_neg (by show ¬ (2 : Int) = 0; decide)]; exact Ev.now _)
  ·rw [h]
   rw [List.length_drop] at hz
   simp only [up_length, up_toNat, Int.toNat_natCast, if_true]
   rw [show (32 : Int) = ((32 : Nat) : Int) from rfl, mn_nat]
   by_cases h5 : ns.length = min left 32
   ·rw [if_pos h5]
    refine Ev.if_t (by omega) (Ev.if_t (by omega) ?_)
    have e : wrap64 ((left : Int) - (ns.length : Int)) = ((left - ns.length : Nat) : Int) := by rw [w64 (by omega) (by omega)]; omega
    rw [add64 at_ z (by omega), e, ← up_append]
    exact take_l0 b hB hbl f (at_ + z) (left - ns.length) (acc ++ ns) (by omega) (by omega) (by rw [List.length_append]; omega) (by omega)
   ·rw [if_neg h5]
    exact Ev.if_f (by omega) (Ev.now _)
def takeLOf (b : List Int) (most : Int) : List Int × Int × Int :=
 if most < 0 then ([], 0, 1) else
 match takeN b with
 | none => ([], 0, 2)
 | some (c, at_) => if most < (c : Int) then ([], 0, 5) else takeLF b (b.length + 1) at_ [] c
theorem takeList_ev (b : List Int) (hB : B8 b) (hbl : b.length ≤ 10000000) (most : Int) (hm : most ≤ 9223372036854775807) : Ev (fun k => pfor_TakeList.f k b most) (takeLOf b most) := by
 unfold pfor_TakeList.f takeLOf
 by_cases h : most < 0
 ·rw [if_pos h]; exact Ev.if_t h (Ev.now _)
 rw [if_neg h]
 refine Ev.if_f h (Ev.bind (take_ev b hB (by omega)) ?_)
 rcases takeN_cases b hB with ⟨e, he, h4, h5⟩ | ⟨v, k, h4, h5, hv, hk1, hk9, hkl, _⟩
 ·rw [h4, h5]; exact Ev.if_f he (Ev.now _)
 ·rw [h4, h5]
  refine Ev.if_t rfl ?_
  simp only []
  rw [wu64 (x := most) (by omega) (by omega)]
  by_cases h6 : most < (v : Int)
  ·rw [if_pos h6]; exact Ev.if_t (by omega) (Ev.now _)
  ·rw [if_neg h6, w64 (x := (v : Int)) (by omega) (by omega)]
   exact Ev.if_f (by omega) (take_l0 b hB hbl (b.length + 1) k v [] (by omega) hkl (by simp) (by omega))
theorem takeLF_spec (b : List Int) (hB : B8 b) : ∀ (f at_ left : Nat) (acc : List Nat), at_ ≤ b.length → Lt64 acc → acc.length ≤ 32 * at_ →
  takeLF b f at_ acc left = ([], 0, 2) ∨ ∃ (ns : List Nat) (z : Nat), takeLF b f at_ acc left = (up ns, (z : Int), 0) ∧ Lt64 ns ∧ ns.length = acc.length + left ∧ z ≤ b.length ∧ at_ ≤ z ∧ ns.length ≤ 32 * z
 | 0, _, _, _, _, _, _ => .inl rfl
 | f + 1, at_, left, acc, hat, hacc, hal => by
  rw [takeLF]
  by_cases h0 : left = 0
  ·rw [if_pos h0]
   exact .inr ⟨acc, at_, rfl, hacc, by omega, hat, Nat.le_refl _, hal⟩
  rw [if_neg h0]
  rcases takeB_spec (hB.drop at_) with h | ⟨ns, z, h, hlt, h1, h32, hz, _, h4⟩
  ·rw [h]
   exact .inl (if_neg (by show ¬ (2 : Int) = 0; decide))
  ·rw [h]
   rw [List.length_drop] at hz
   simp only [up_length, up_toNat, Int.toNat_natCast, if_true]
   by_cases h5 : ns.length = min left 32
   ·rw [if_pos h5]
    have hap : Lt64 (acc ++ ns) := fun x hx => by
     rcases List.mem_append.1 hx with h | h
     ·exact hacc x h
     ·exact hlt x h
    rcases takeLF_spec b hB f (at_ + z) (left - ns.length) (acc ++ ns) (by omega) hap (by rw [List.length_append]; omega) with g | ⟨ms, y, g1, g2, g3, g4, g5, g6⟩
    ·exact .inl g
    ·rw [List.length_append] at g3
     exact .inr ⟨ms, y, g1, g2, by omega, g4, by omega, g6⟩
   ·rw [if_neg h5]; exact .inl rfl
theorem takeLOf_spec (b : List Int) (hB : B8 b) (most : Int) : (∃ e : Int, (e = 1 ∨ e = 2 ∨ e = 5) ∧ takeLOf b most = ([], 0, e)) ∨ ∃ (ns : List Nat) (z : Nat), takeLOf b most = (up ns, (z : Int), 0) ∧ Lt64 ns ∧ (ns.length : Int) ≤ most ∧ z ≤ b.length ∧ 1 ≤ z ∧ ns.length ≤ 32 * z := by
 unfold takeLOf
 by_cases h : most < 0
 ·rw [if_pos h]; exact .inl ⟨1, by omega, rfl⟩
 rw [if_neg h]
 rcases takeN_cases b hB with ⟨e, he, h4, h5⟩ | ⟨v, k, h4, h5, hv, hk1, hk9, hkl, _⟩
 ·rw [h5]; exact .inl ⟨2, by omega, rfl⟩
 ·rw [h5]
  simp only []
  by_cases h6 : most < (v : Int)
  ·rw [if_pos h6]; exact .inl ⟨5, by omega, rfl⟩
  ·rw [if_neg h6]
   rcases takeLF_spec b hB (b.length + 1) k v [] hkl (fun x hx => by cases hx) (by simp) with g | ⟨ms, y, g1, g2, g3, g4, g5, g6⟩
   ·exact .inl ⟨2, by omega, g⟩
   ·simp at g3
    exact .inr ⟨ms, y, g1, g2, by omega, g4, by omega, g6⟩
theorem takeLF_back (b more : List Int) : ∀ (m f at_ : Nat) (ns acc : List Nat), Lt64 ns → ns.length ≤ 32 * m → b.drop at_ = blocksF m ns ++ more → at_ ≤ b.length → b.length - at_ < f →
  takeLF b f at_ acc ns.length = (up (acc ++ ns), ((at_ + (blocksF m ns).length : Nat) : Int), 0)
 | 0, f, at_, ns, acc, h, hm, hb, hat, hf => by
  obtain rfl : ns = [] := List.eq_nil_of_length_eq_zero (by omega)
  cases f with
  | zero => omega
  | succ f => simp [takeLF, blocksF]
 | m + 1, f, at_, ns, acc, h, hm, hb, hat, hf => by
  cases f with
  | zero => omega
  | succ f =>
   rw [takeLF]
   rw [blocksF] at hb ⊢
   by_cases h0 : ns.length = 0
   ·obtain rfl : ns = [] := List.eq_nil_of_length_eq_zero h0
    simp
   ·rw [if_neg h0] at hb ⊢
    rw [if_neg h0]
    have hc1 : 1 ≤ (ns.take 32).length := by simp; omega
    have hc2 : (ns.take 32).length ≤ 32 := by simp; omega
    have hlen := congrArg List.length hb
    rw [List.length_drop, List.length_append, List.length_append] at hlen
    have hpos : 1 ≤ (blockOf (ns.take 32)).length := by
     have : (blockOf (ns.take 32)).length = 3 + (numEnc (baseOf (ns.take 32))).length + costOf (lessOf (ns.take 32)) (widthB (ns.take 32)) := length_byOf _ _ _
     omega
    rw [List.append_assoc] at hb
    rw [hb, takeB_back (h.take 32) hc1 hc2]
    simp only [up_length, up_toNat, Int.toNat_natCast, if_true]
    rw [if_pos (by simp; omega)]
    have ih := takeLF_back b more m f (at_ + (blockOf (ns.take 32)).length) (ns.drop 32) (acc ++ ns.take 32) (h.drop 32) (by rw [List.length_drop]; omega) (by rw [← List.drop_drop, hb, List.drop_left]) (by omega) (by omega)
    rw [show (ns.drop 32).length = ns.length - (ns.take 32).length by simp; omega, List.append_assoc, List.take_append_drop] at ih
    rw [ih, List.length_append]
    congr 2
    omega
theorem takeLOf_back {ns : List Nat} (h : Lt64 ns) {m : Nat} (hm : ns.length ≤ 32 * m) (hn : ns.length ≤ 1000000) (more : List Int) {most : Int} (hmost : (ns.length : Int) ≤ most) : takeLOf (listOf m ns ++ more) most = (up ns, ((listOf m ns).length : Int), 0) := by
 have hl : ns.length < 2 ^ 64 := by omega
 unfold takeLOf listOf
 rw [if_neg (by omega), List.append_assoc, takeN_of (takeOf_enc hl _)]
 simp only []
 rw [if_neg (by omega)]
 have := takeLF_back (numEnc ns.length ++ (blocksF m ns ++ more)) more m ((numEnc ns.length ++ (blocksF m ns ++ more)).length + 1) (numEnc ns.length).length ns [] h hm (by rw [List.drop_left]) (by simp) (by omega)
 rw [this, List.nil_append, List.length_append]
def I64 (l : List Int) : Prop := ∀ x ∈ l, -9223372036854775808 ≤ x ∧ x ≤ 9223372036854775807
theorem I64.get {l : List Int} (h : I64 l) (i : Nat) (hi : i < l.length) : -9223372036854775808 ≤ l[i] ∧ l[i] ≤ 9223372036854775807 := h _ (List.getElem_mem hi)
def foldN (l : List Int) : List Nat := l.map fun x => (foldOf x).toNat
def unfoldN (ns : List Nat) : List Int := ns.map fun (n : Nat) => unfoldOf (n : Int)
@[simp] theorem foldN_length (l : List Int) : (foldN l).length = l.length := by simp [foldN]
@[simp] theorem unfoldN_length (l : List Nat) : (unfoldN l).length = l.length := by simp [unfoldN]
theorem foldN_get (l : List Int) (h : I64 l) (i : Nat) (hi : i < l.length) : (((foldN l)[i]'(by simpa using hi) : Nat) : Int) = foldOf l[i] := by
 have := foldOf_range l[i] (h.get i hi).1 (h.get i hi).2
 simp [foldN]
 omega
theorem lt_foldN {l : List Int} (h : I64 l) : Lt64 (foldN l) := fun x hx => by
 obtain ⟨y, hy, rfl⟩ := List.mem_map.1 hx
 have := foldOf_range y (h y hy).1 (h y hy).2
 omega
theorem unfold_foldN {l : List Int} (h : I64 l) : unfoldN (foldN l) = l := by
 unfold unfoldN foldN
 rw [List.map_map]
 conv => rhs; rw [← List.map_id l]
 refine List.map_congr_left fun x hx => ?_
 have := foldOf_range x (h x hx).1 (h x hx).2
 simp only [Function.comp, id]
 rw [Int.toNat_of_nonneg this.1, unfold_fold]
theorem unfoldN_get (l : List Nat) (i : Nat) (hi : i < l.length) : (unfoldN l)[i]'(by simpa using hi) = unfoldOf (l[i] : Int) := by simp [unfoldN]
theorem putInts_l0 (b : List Int) (hB : B8 b) {l : List Int} (h : I64 l) {m : Nat} (hm : l.length ≤ 32 * m) (hb : b.length + 2000 + 1000 * l.length ≤ 140737488350000) : ∀ (d i : Nat), i + d = l.length →
  Ev (fun k => pfor_PutInts.l0 k b (fill (up (foldN l)) i) l (l.length : Int) (i : Int)) (b ++ listOf m (foldN l))
 | 0, i, hi => by
  obtain rfl : i = l.length := by omega
  apply Ev.succ
  simp only [pfor_PutInts.l0]
  have e : fill (up (foldN l)) l.length = up (foldN l) := by
   have := fill_all (up (foldN l))
   rwa [up_length, foldN_length] at this
  rw [e]
  refine Ev.if_f (by omega) (Ev.bind (putList_ev b hB (lt_foldN h) (m := m) (by simpa using hm) (by simpa using hb)) (Ev.now _))
 | d + 1, i, hi => by
  have hil : i < l.length := by omega
  have hx := h.get i hil
  have ih := putInts_l0 b hB h hm hb d (i + 1) (by omega)
  rw [← fill_set _ i (by simpa using hil), up_get (foldN l) i (by simpa using hil), foldN_get l h i hil] at ih
  apply Ev.succ
  simp only [pfor_PutInts.l0]
  rw [rd_nat l i hil, inc i (by omega), Int.toNat_natCast, fill_length _ _ (by simp; omega)]
  exact Ev.if_t (by omega) (Ev.if_t (by omega) (Ev.if_t (by omega) (Ev.obind (fold_eq _ hx.1 hx.2) (Ev.if_t (by simpa using hil) ih))))
theorem putInts_ev (b : List Int) (hB : B8 b) {l : List Int} (h : I64 l) {m : Nat} (hm : l.length ≤ 32 * m) (hb : b.length + 2000 + 1000 * l.length ≤ 140737488350000) : Ev (fun k => pfor_PutInts.f k b l) (b ++ listOf m (foldN l)) := by
 unfold pfor_PutInts.f
 refine Ev.if_t (by omega) (Ev.if_t (by omega) ?_)
 have := putInts_l0 b hB h hm hb l.length 0 (by omega)
 rw [fill_zero] at this
 simp only [up_length, foldN_length, Int.toNat_natCast] at this ⊢
 exact this
theorem takeInts_l0 {ns : List Nat} (h : Lt64 ns) (hn : ns.length ≤ 35184372088832) (z : Int) : ∀ (d i : Nat), i + d = ns.length →
  Ev (fun k => pfor_TakeInts.l0 k z (fill (unfoldN ns) i) (up ns) (ns.length : Int) (i : Int)) (unfoldN ns, z, 0)
 | 0, i, hi => by
  obtain rfl : i = ns.length := by omega
  apply Ev.succ
  simp only [pfor_TakeInts.l0]
  have e : fill (unfoldN ns) ns.length = unfoldN ns := by
   have := fill_all (unfoldN ns)
   rwa [unfoldN_length] at this
  rw [e]
  exact Ev.if_f (by omega) (Ev.now _)
 | d + 1, i, hi => by
  have hil : i < ns.length := by omega
  have hx := h.get i hil
  have ih := takeInts_l0 h hn z d (i + 1) (by omega)
  rw [← fill_set _ i (by simpa using hil), unfoldN_get ns i hil] at ih
  apply Ev.succ
  simp only [pfor_TakeInts.l0]
  rw [rd_up ns i hil, inc i (by omega), Int.toNat_natCast, fill_length _ _ (by simp; omega)]
  exact Ev.if_t (by omega) (Ev.if_t (by omega) (Ev.if_t (by simp; omega) (Ev.obind (unfold_eq _ (by omega) (by omega)) (Ev.if_t (by simpa using hil) ih))))
def takeIOf (b : List Int) (most : Int) : List Int × Int × Int := (unfoldN ((takeLOf b most).1.map Int.toNat), (takeLOf b most).2.1, (takeLOf b most).2.2)
theorem takeInts_ev (b : List Int) (hB : B8 b) (hbl : b.length ≤ 10000000) (most : Int) (hm : most ≤ 9223372036854775807) : Ev (fun k => pfor_TakeInts.f k b most) (takeIOf b most) := by
 unfold pfor_TakeInts.f takeIOf
 refine Ev.bind (takeList_ev b hB hbl most hm) ?_
 rcases takeLOf_spec b hB most with ⟨e, he, h⟩ | ⟨ns, z, h, hlt, h1, hz, _, h32⟩
 ·rw [h]
  exact Ev.if_f (by show ¬ e = 0; omega) (Ev.of_eq fun _ => rfl)
 ·rw [h]
  simp only [up_length, up_toNat, Int.toNat_natCast]
  refine Ev.if_t (by simp) (Ev.if_t (by omega) (Ev.if_t (by omega) ?_))
  have := takeInts_l0 hlt (by omega) (z : Int) ns.length 0 (by omega)
  rw [fill_zero, unfoldN_length] at this
  exact this
def hasL (l : List S42) : List Int := l.map (fun c => if c.f0 = true then 1 else 0)
def numsL (l : List S42) : List Int := (l.filter (·.f0)).map (·.f1)
def Cells (l : List S42) : Prop := ∀ c ∈ l, -9223372036854775808 ≤ c.f1 ∧ c.f1 ≤ 9223372036854775807
theorem hasL_length (l : List S42) : (hasL l).length = l.length := by simp [hasL]
theorem hasL_u64 (l : List S42) : U64 (hasL l) := by
 intro x hx
 obtain ⟨c, _, rfl⟩ := List.mem_map.1 hx
 split <;> omega
theorem hasL_fit (l : List S42) : Fit 1 (hasL l) := by
 intro x hx
 obtain ⟨c, _, rfl⟩ := List.mem_map.1 hx
 split <;> simp
theorem numsL_i64 {l : List S42} (h : Cells l) : I64 (numsL l) := by
 intro x hx
 obtain ⟨c, hc, rfl⟩ := List.mem_map.1 hx
 exact h c (List.mem_filter.1 hc).1
theorem numsL_length (l : List S42) : (numsL l).length ≤ l.length := by
 unfold numsL
 rw [List.length_map]
 exact List.length_filter_le _ _
theorem hasL_snoc (l : List S42) (c : S42) : hasL (l ++ [c]) = hasL l ++ [if c.f0 = true then 1 else 0] := by simp [hasL]
theorem numsL_snoc (l : List S42) (c : S42) : numsL (l ++ [c]) = numsL l ++ (if c.f0 = true then [c.f1] else []) := by
 unfold numsL
 rw [List.filter_append, List.map_append]
 cases h : c.f0 <;> simp [h]
def bytesL (l : List S42) : List Int := numEnc l.length ++ packOf 1 (hasL l) ++ listOf 4096 (foldN (numsL l))
theorem lay_end (b : List Int) (hB : B8 b) {l : List S42} (hc : Cells l) (hl : l.length ≤ 4096) (hb : b.length + 20000 + 1000 * l.length ≤ 140737488350000) :
  Ev (fun k => (bits_Pack.f k (hasL l) 1).bind fun bt => if bt.2 = 0 then (num_Put.f k b (IntKind.u64.wrap (l.length : Int))).bind fun t => if t.length + bt.1.length < 140737488355328 then (pfor_PutInts.f k (t ++ bt.1) (numsL l)).bind fun u => some (u, (0 : Int)) else none else some (([] : List Int), bt.2)) (b ++ bytesL l, 0) := by
 have h1 := pack_ok (hasL_u64 l) (by rw [hasL_length]; omega) (show 1 ≤ 64 by decide) (hasL_fit l)
 have e1 : IntKind.u64.wrap (l.length : Int) = ((l.length : Nat) : Int) := by
  simp only [IntKind.wrap, IntKind.bits, IntKind.signed, Bool.false_and, Bool.false_eq_true, if_false]
  omega
 have hv : l.length < 2 ^ 64 := by omega
 have h2 := put_ev b (by omega) hv
 have h3 := length_numEnc_le hv
 have h4 := length_packOf 1 (hasL l)
 rw [hasL_length] at h4
 have hn := numsL_length l
 have hB2 : B8 (b ++ numEnc l.length ++ packOf 1 (hasL l)) := In.append (In.append hB (in_numEnc hv)) (in_packOf _ _)
 have h5 := putInts_ev _ hB2 (numsL_i64 hc) (m := 4096) (by omega) (by simp only [List.length_append]; omega)
 refine Ev.bind (a := (packOf 1 (hasL l), (0 : Int))) (by exact_mod_cast h1) (Ev.if_t rfl ?_)
 rw [e1]
 refine Ev.bind h2 (Ev.if_t (by simp only [List.length_append]; omega) (Ev.bind h5 ?_))
 rw [show b ++ bytesL l = b ++ numEnc l.length ++ packOf 1 (hasL l) ++ listOf 4096 (foldN (numsL l)) by simp [bytesL, List.append_assoc]]
 exact Ev.now _
theorem lay_l0 (b : List Int) (hB : B8 b) {l : List S42} (hc : Cells l) (hl : l.length ≤ 4096) (hb : b.length + 20000 + 1000 * l.length ≤ 140737488350000) :
  ∀ (d i : Nat) (x n : List Int), i + d = l.length → x = hasL (l.take i) ++ List.replicate (l.length - i) 0 → n = numsL (l.take i) → Ev (fun k => ints_Put.l0 k b l x n l (l.length : Int) (i : Int)) (b ++ bytesL l, 0)
 | 0, i, x, n, hi, hx, hn => by
  apply Ev.succ
  simp only [ints_Put.l0]
  refine Ev.if_f (by omega) ?_
  have e : l.take i = l := List.take_of_length_le (by omega)
  rw [e, show l.length - i = 0 by omega] at hx
  rw [e] at hn
  simp only [List.replicate_zero, List.append_nil] at hx
  rw [hx, hn]
  exact lay_end b hB hc hl hb
 | d + 1, i, x, n, hi, hx, hn => by
  have hlt : i < l.length := by omega
  have hti : (l.take i).length = i := by rw [List.length_take]; omega
  have hxl : x.length = l.length := by rw [hx, List.length_append, hasL_length, hti, List.length_replicate]; omega
  have hnl := numsL_length (l.take i)
  rw [← hn] at hnl
  apply Ev.succ
  simp only [ints_Put.l0]
  rw [rd42 l i hlt, w64i (x := (i : Int) + 1) (by omega) (by omega), Int.toNat_natCast]
  refine Ev.if_t (by omega) (Ev.if_t (by omega) (Ev.if_t (by omega) ?_))
  have er : l.length - i = (l.length - (i + 1)) + 1 := by omega
  by_cases h : l[i].f0 = true
  ·refine Ev.if_t h (Ev.if_t (by omega) (Ev.if_t (by omega) (lay_l0 b hB hc hl hb d (i + 1) _ _ (by omega) ?_ ?_)))
   ·rw [take_snoc l i hlt, hasL_snoc, if_pos h, hx, er, List.replicate_succ, List.set_append_right _ _ (by rw [hasL_length, hti]; omega), hasL_length, hti, Nat.sub_self, List.set_cons_zero, List.append_assoc]
    rfl
   ·rw [take_snoc l i hlt, numsL_snoc, if_pos h, hn]
  ·refine Ev.if_f h (lay_l0 b hB hc hl hb d (i + 1) _ _ (by omega) ?_ ?_)
   ·rw [take_snoc l i hlt, hasL_snoc, if_neg h, hx, er, List.replicate_succ, List.append_assoc]
    rfl
   ·rw [take_snoc l i hlt, numsL_snoc, if_neg h, List.append_nil, hn]
theorem lay_ev (b : List Int) (hB : B8 b) {l : List S42} (hc : Cells l) (hb : formedOf l = true → b.length + 20000 + 1000 * l.length ≤ 140737488350000) : Ev (fun k => ints_Put.f k b l) (if formedOf l = true then (b ++ bytesL l, 0) else ([], 1)) := by
 unfold ints_Put.f
 refine Ev.bind (formed_ev l) ?_
 cases h : formedOf l with
 | true =>
  have hl := formed_len h
  refine Ev.if_t rfl (Ev.if_t (by omega) (Ev.if_t (by omega) ?_))
  rw [if_pos rfl, Int.toNat_natCast]
  exact lay_l0 b hB hc hl (hb h) l.length 0 _ _ (by omega) (by simp [hasL]) (by simp [numsL])
 | false =>
  refine Ev.if_f (by decide) ?_
  rw [if_neg (by decide)]
  exact Ev.now _
theorem same09 (a b : List Int) (hn : a.length ≤ 9223372036854775000) : Ev (fun k => dragnetref09_Ints.f k a b) (decide (a = b)) := by
 have loop : ∀ (hl : a.length = b.length) (d i : Nat), i + d = a.length → Ev (fun k => dragnetref09_Ints.l0 k a b (i : Int)) (decide (a.drop i = b.drop i)) := by
  intro hl d
  induction d with
  | zero =>
   intro i hi
   apply Ev.succ
   simp only [dragnetref09_Ints.l0]
   rw [List.drop_eq_nil_of_le (by omega), List.drop_eq_nil_of_le (by omega)]
   exact Ev.if_f (by omega) (Ev.now _)
  | succ d ih =>
   intro i hi
   have h1 : i < a.length := by omega
   have h2 : i < b.length := by omega
   have hr : ∀ (l : List Int) (h : i < l.length), rd l (i : Int) = l[i] := fun l h => by simp [rd, h]
   apply Ev.succ
   simp only [dragnetref09_Ints.l0]
   rw [hr a h1, hr b h2, w64i (x := (i : Int) + 1) (by omega) (by omega), List.drop_eq_getElem_cons h1, List.drop_eq_getElem_cons h2]
   refine Ev.if_t (by omega) (Ev.if_t (by omega) (Ev.if_t (by omega) ?_))
   by_cases h : a[i] = b[i]
   ·refine Ev.if_t h ?_
    have := ih (i + 1) (by omega)
    rw [h]
    simp only [List.cons.injEq, true_and]
    exact this
   ·refine Ev.if_f h ?_
    simp only [List.cons.injEq, h, false_and, decide_false]
    exact Ev.now _
 unfold dragnetref09_Ints.f
 by_cases hl : a.length = b.length
 ·exact Ev.if_t (by omega) (by simpa using loop hl a.length 0 (by omega))
 ·refine Ev.if_f (by omega) ?_
  rw [decide_eq_false (fun h => hl (by rw [h]))]
  exact Ev.now _
theorem below_ev (l : List S42) (n : Int) : Ev (fun k => ints_Below.f k l n) (if formedOf l = true then gransOf (fun c => c.f0 && decide (c.f1 < n)) l else []) := by
 unfold ints_Below.f
 refine Ev.bind (zones_ev l) ?_
 unfold zonesOf
 cases h : formedOf l with
 | true =>
  have hl := formed_len h
  have ha := all_length l
  rw [if_pos rfl, if_pos rfl, where_grans _ _ l (fun ch => zone_below ch n)]
  exact Ev.if_t (by omega) (Ev.now _)
 | false =>
  simp only [Bool.false_eq_true, if_false]
  exact Ev.if_t (by simp) (Ev.now _)
theorem above_ev (l : List S42) (n : Int) : Ev (fun k => ints_Above.f k l n) (if formedOf l = true then gransOf (fun c => c.f0 && decide (c.f1 > n)) l else []) := by
 unfold ints_Above.f
 refine Ev.bind (zones_ev l) ?_
 unfold zonesOf
 cases h : formedOf l with
 | true =>
  have hl := formed_len h
  have ha := all_length l
  rw [if_pos rfl, if_pos rfl, where_grans _ _ l (fun ch => zone_above ch n)]
  exact Ev.if_t (by omega) (Ev.now _)
 | false =>
  simp only [Bool.false_eq_true, if_false]
  exact Ev.if_t (by simp) (Ev.now _)
theorem alive10 : Ev (fun k => dragnetlaw10_alive.f k) true := by
 unfold dragnetlaw10_alive.f
 have hc : Cells [(⟨true, 5⟩ : S42), (⟨false, 0⟩ : S42), (⟨true, 7⟩ : S42)] := by intro c hc; simp at hc; rcases hc with rfl | rfl | rfl <;> decide
 have hl := lay_ev [] (fun x hx => by cases hx) hc (fun _ => by decide)
 rw [if_pos (by decide)] at hl
 refine Ev.obind rfl (Ev.bind hl (Ev.if_t rfl ?_))
 have hv : ([] : List Int) ++ bytesL [(⟨true, 5⟩ : S42), (⟨false, 0⟩ : S42), (⟨true, 7⟩ : S42)] = [3, 5, 2, 2, 10, 3, 0, 32] := by decide +kernel
 rw [hv]
 have h1 := below_ev [(⟨true, 5⟩ : S42), (⟨false, 0⟩ : S42), (⟨true, 7⟩ : S42)] 6
 have h2 := above_ev [(⟨true, 5⟩ : S42), (⟨false, 0⟩ : S42), (⟨true, 7⟩ : S42)] 7
 rw [if_pos (by decide)] at h1 h2
 rw [show gransOf (fun c => c.f0 && decide (c.f1 < 6)) [(⟨true, 5⟩ : S42), (⟨false, 0⟩ : S42), (⟨true, 7⟩ : S42)] = [0] by decide] at h1
 rw [show gransOf (fun c => c.f0 && decide (c.f1 > 7)) [(⟨true, 5⟩ : S42), (⟨false, 0⟩ : S42), (⟨true, 7⟩ : S42)] = [] by decide] at h2
 refine Ev.if_t (by decide) (Ev.if_t (by decide) (Ev.if_t (by decide) (Ev.if_t (by decide) (Ev.if_t (by decide) (Ev.bind h1 (Ev.bind (same09 [0] [0] (by decide)) (Ev.if_t (by decide) (Ev.bind h2 (Ev.now _)))))))))
theorem same10_self (l : List S42) (hn : l.length ≤ 9223372036854775000) : Ev (fun k => dragnetref10_Same.f k l l) true := by
 have loop : ∀ d i : Nat, i + d = l.length → Ev (fun k => dragnetref10_Same.l0 k l l (i : Int)) true := by
  intro d
  induction d with
  | zero =>
   intro i hi
   apply Ev.succ
   simp only [dragnetref10_Same.l0]
   exact Ev.if_f (by omega) (Ev.now _)
  | succ d ih =>
   intro i hi
   apply Ev.succ
   simp only [dragnetref10_Same.l0]
   rw [w64i (x := (i : Int) + 1) (by omega) (by omega)]
   exact Ev.if_t (by omega) (Ev.if_t (by omega) (Ev.if_t (by omega) (Ev.if_f (by simp) (ih (i + 1) (by omega)))))
 unfold dragnetref10_Same.f
 exact Ev.if_t rfl (loop l.length 0 (by omega))
theorem in_bytesL {l : List S42} (hc : Cells l) (hl : l.length ≤ 4096) : B8 (bytesL l) := by
 have hnl := numsL_length l
 exact In.append (In.append (in_numEnc (by omega)) (in_packOf _ _)) (in_listOf (lt_foldN (numsL_i64 hc)) (by rw [foldN_length]; omega))
theorem bytesL_len {l : List S42} (hc : Cells l) (hl : l.length ≤ 4096) : (bytesL l).length ≤ 10000 + 1000 * l.length := by
 have hnl := numsL_length l
 have h3 := length_numEnc_le (v := l.length) (by omega)
 have h4 := length_packOf 1 (hasL l)
 rw [hasL_length] at h4
 have h6 := listOf_len (m := 4096) (lt_foldN (numsL_i64 hc)) (by rw [foldN_length]; omega)
 rw [foldN_length] at h6
 unfold bytesL
 simp only [List.length_append]
 omega
theorem cells_of {l : List S42} (h : ∀ y ∈ l, (True ∧ (Lit.int .i64 y.f1).wf = true)) : Cells l := fun c hc => by
 have := (h c hc).2
 simp [Lit.wf, IntKind.min, IntKind.max, IntKind.signed, IntKind.bits] at this
 omega
def fillC : List Int → List Int → Option (List S42 × List Int)
 | [], ns => some ([], ns)
 | h :: hs, ns => if h = 0 then (fillC hs ns).map (fun r => (⟨false, 0⟩ :: r.1, r.2)) else
  match ns with
  | [] => none
  | n :: ns' => (fillC hs ns').map (fun r => (⟨true, n⟩ :: r.1, r.2))
theorem fillC_nil (ns : List Int) : fillC [] ns = some ([], ns) := by unfold fillC; rfl
theorem fillC_zero {h : Int} (e : h = 0) (hs ns : List Int) : fillC (h :: hs) ns = (fillC hs ns).map (fun r => (⟨false, 0⟩ :: r.1, r.2)) := by rw [fillC.eq_def]; exact if_pos e
theorem fillC_none {h : Int} (e : ¬ h = 0) (hs : List Int) : fillC (h :: hs) [] = none := by rw [fillC.eq_def]; exact if_neg e
theorem fillC_one {h : Int} (e : ¬ h = 0) (hs ns : List Int) (n : Int) : fillC (h :: hs) (n :: ns) = (fillC hs ns).map (fun r => (⟨true, n⟩ :: r.1, r.2)) := by rw [fillC.eq_def]; exact if_neg e
def doneC (z : Int) (acc : List S42) : Option (List S42 × List Int) → List S42 × Int × Int
 | none => ([], 0, 2)
 | some (cs, rest) => if rest.length = 0 then (acc ++ cs, z, 0) else ([], 0, 2)
theorem doneC_map (z : Int) (acc : List S42) (c : S42) (o : Option (List S42 × List Int)) : doneC z acc (o.map (fun r => (c :: r.1, r.2))) = doneC z (acc ++ [c]) o := by
 cases o with
 | none => rfl
 | some r => obtain ⟨cs, rest⟩ := r; simp [doneC]
theorem fill_zero_at (acc : List S42) (d : Nat) (c : S42) : (acc ++ List.replicate (d + 1) z42).set acc.length c = acc ++ [c] ++ List.replicate d z42 := by
 rw [List.set_append_right _ _ (Nat.le_refl _), Nat.sub_self, List.replicate_succ, List.set_cons_zero]
 simp
def Bits01 (l : List Int) : Prop := ∀ x ∈ l, x = 0 ∨ x = 1
theorem takeC_l0 (e z : Int) (hz : wrap64 (e + z) = e + z) {hs : List Int} (hb : Bits01 hs) (hn : hs.length ≤ 4096) : ∀ (d i : Nat) (acc : List S42) (ns : List Int), i + d = hs.length → acc.length = i →
  Ev (fun k => ints_Take.l0 k e ns z (acc ++ List.replicate d z42) hs (hs.length : Int) (i : Int)) (doneC (e + z) acc (fillC (hs.drop i) ns))
 | 0, i, acc, ns, hi, ha => by
  apply Ev.succ
  simp only [ints_Take.l0]
  rw [List.drop_of_length_le (l := hs) (by omega), fillC_nil, List.replicate_zero, List.append_nil]
  refine Ev.if_f (by omega) ?_
  simp only [doneC, List.append_nil]
  by_cases h : ns.length = 0
  ·rw [if_pos h, hz]; exact Ev.if_f (by omega) (Ev.now _)
  ·rw [if_neg h]; exact Ev.if_t (by omega) (Ev.now _)
 | d + 1, i, acc, ns, hi, ha => by
  have hil : i < hs.length := by omega
  have hx := hb _ (List.getElem_mem hil)
  apply Ev.succ
  simp only [ints_Take.l0]
  rw [rd_nat hs i hil, inc i (by omega), List.drop_eq_getElem_cons hil]
  refine Ev.if_t (by omega) (Ev.if_t (by omega) (Ev.if_t (by omega) ?_))
  by_cases h : hs[i] = 0
  ·rw [fillC_zero h, doneC_map]
   refine Ev.if_t h ?_
   have := takeC_l0 e z hz hb hn d (i + 1) (acc ++ [⟨false, 0⟩]) ns (by omega) (by simp [ha])
   rw [List.append_assoc, show [(⟨false, 0⟩ : S42)] ++ List.replicate d z42 = List.replicate (d + 1) z42 by rw [List.replicate_succ]; rfl] at this
   exact this
  ·refine Ev.if_f h ?_
   cases ns with
   | nil => rw [fillC_none h]; exact Ev.if_t rfl (Ev.now _)
   | cons n ns =>
    rw [fillC_one h, doneC_map]
    have := takeC_l0 e z hz hb hn d (i + 1) (acc ++ [⟨true, n⟩]) ns (by omega) (by simp [ha])
    refine Ev.if_f (by rw [List.length_cons]; omega) (Ev.if_t (by rw [List.length_cons]; omega) (Ev.if_t (by rw [List.length_cons]; omega) (Ev.if_t (by rw [List.length_append, List.length_replicate]; omega) ?_)))
    rw [Int.toNat_natCast, ← ha, fill_zero_at, ha]
    exact this
def takeVK (b : List Int) (n a : Nat) : List S42 × Int × Int :=
  if n > 4096 then ([], 0, 2) else
  if a + (n + 7) / 8 > b.length then ([], 0, 2) else
  let u := unpackOf ((b.take (a + (n + 7) / 8)).drop a) (n : Int) 1
  if u.2 = 0 then
    (let t := takeIOf (b.drop (a + (n + 7) / 8)) 4096
     if t.2.2 = 0 then doneC (((a + (n + 7) / 8 : Nat) : Int) + t.2.1) [] (fillC u.1 t.1) else ([], 0, 2))
  else ([], 0, 2)
def takeCOf (b : List Int) : List S42 × Int × Int :=
 if (takeOf b).2.2 = 0 then takeVK b (takeOf b).1.toNat (takeOf b).2.1.toNat else ([], 0, 2)
theorem unpack01 {b : List Int} {n : Nat} (h : (unpackOf b (n : Int) 1).2 = 0) : Bits01 (unpackOf b (n : Int) 1).1 ∧ (unpackOf b (n : Int) 1).1.length = n ∧ n ≤ 4096 := by
 unfold unpackOf at h ⊢
 split at h
 ·exact absurd h (by decide)
 ·next h0 =>
  rw [if_neg h0]
  split at h
  ·exact absurd h (by decide)
  ·next h1 =>
   rw [if_neg h1]
   split at h
   ·exact absurd h (by decide)
   ·next h2 =>
    rw [if_neg h2]
    split at h
    ·exact absurd h (by decide)
    ·next h3 =>
     rw [if_neg h3]
     refine ⟨fun x hx => ?_, by rw [length_unOf]; omega, by omega⟩
     have hf := fit_unOf _ _ _ x hx
     have hu := (u64_unOf _ _ _ (by decide) x hx).1
     have : (2 : Nat) ^ (Int.toNat 1) = 2 := by decide
     rw [this] at hf
     omega
theorem takeI_z (b : List Int) (hB : B8 b) (m : Int) : 0 ≤ (takeIOf b m).2.1 ∧ (takeIOf b m).2.1 ≤ b.length := by
 unfold takeIOf
 rcases takeLOf_spec b hB m with ⟨e, he, h⟩ | ⟨ns, z, h, _, _, hz, _, _⟩
 ·rw [h]; exact ⟨Int.le_refl _, by show (0 : Int) ≤ _; omega⟩
 ·rw [h]; exact ⟨by show (0 : Int) ≤ (z : Int); omega, by show (z : Int) ≤ _; omega⟩
theorem In.take_drop {b : List Int} (hB : B8 b) (x y : Nat) : B8 ((b.take x).drop y) := fun c hc => hB c (List.mem_of_mem_take (List.mem_of_mem_drop hc))
theorem In.drop' {b : List Int} (hB : B8 b) (y : Nat) : B8 (b.drop y) := fun c hc => hB c (List.mem_of_mem_drop hc)
theorem takeC_ev (b : List Int) (hB : B8 b) (hl : b.length ≤ 10000000) : Ev (fun k => ints_Take.f k b) (takeCOf b) := by
 unfold ints_Take.f takeCOf
 refine Ev.bind (take_ev b hB (by omega)) ?_
 have hbad : ∀ x y : Int, Ev (fun k => ints_Take.j0 k b x y true) ([], 0, 2) := by
  intro x y
  apply Ev.succ
  simp only [ints_Take.j0]
  exact Ev.if_t trivial (Ev.now _)
 rcases takeOf_spec b hB with h | h | ⟨v, k, h, hv, h1, h9, hk, _⟩
 ·rw [h]; exact Ev.if_f (by decide) (hbad _ _)
 ·rw [h]; exact Ev.if_f (by decide) (hbad _ _)
 ·rw [h]
  refine Ev.if_t rfl ?_
  simp only [Int.toNat_natCast, if_true]
  unfold takeVK
  by_cases hn : v > 4096
  ·rw [if_pos hn, decide_eq_true (show (v : Int) > 4096 by omega)]
   exact hbad _ _
  ·rw [if_neg hn, decide_eq_false (show ¬ (v : Int) > 4096 by omega)]
   apply Ev.succ
   simp only [ints_Take.j0]
   have e1 : wrap64 (v : Int) = (v : Int) := w64i (by omega) (by omega)
   have e2 : wrap64 ((k : Int) + wrap64 (Int.tdiv (wrap64 ((v : Int) + 7)) 8)) = ((k + (v + 7) / 8 : Nat) : Int) := by
    rw [w64i (x := (v : Int) + 7) (by omega) (by omega), show ((v : Int) + 7) = ((v + 7 : Nat) : Int) by omega, show Int.tdiv ((v + 7 : Nat) : Int) 8 = (((v + 7) / 8 : Nat) : Int) from rfl, w64i (x := (((v + 7) / 8 : Nat) : Int)) (by omega) (by omega), w64i (by omega) (by omega)]
    omega
   rw [e1, e2]
   refine Ev.if_f (by decide) ?_
   by_cases hend : k + (v + 7) / 8 > b.length
   ·rw [if_pos hend]
    exact Ev.if_t (by omega) (Ev.now _)
   ·rw [if_neg hend]
    refine Ev.if_f (by omega) (Ev.if_t (by omega) (Ev.if_t (by omega) (Ev.if_t (by omega) ?_)))
    simp only [Int.toNat_natCast]
    refine Ev.bind (unpack_ev _ (In.take_drop hB _ _) (by simp; omega) _ _) ?_
    by_cases hu : (unpackOf ((b.take (k + (v + 7) / 8)).drop k) (v : Int) 1).2 = 0
    ·rw [if_pos hu]
     obtain ⟨h01, hul, _⟩ := unpack01 hu
     refine Ev.if_t hu (Ev.if_t (by omega) (Ev.bind (takeInts_ev _ (In.drop' hB _) (by simp; omega) 4096 (by decide)) ?_))
     have hz := takeI_z (b.drop (k + (v + 7) / 8)) (In.drop' hB _) 4096
     rw [List.length_drop] at hz
     by_cases ht : (takeIOf (b.drop (k + (v + 7) / 8)) 4096).2.2 = 0
     ·rw [if_pos ht]
      refine Ev.if_t ht (Ev.if_t (by omega) (Ev.if_t (by omega) ?_))
      have := takeC_l0 ((k + (v + 7) / 8 : Nat) : Int) (takeIOf (b.drop (k + (v + 7) / 8)) 4096).2.1 (w64i (by omega) (by omega)) h01 (by omega) v 0 [] (takeIOf (b.drop (k + (v + 7) / 8)) 4096).1 (by omega) rfl
      rw [List.drop_zero, List.nil_append] at this
      exact this
     ·rw [if_neg ht]; exact Ev.if_f ht (Ev.now _)
    ·rw [if_neg hu]; exact Ev.if_f hu (Ev.now _)
end Go.Proofs.YtcjkmmajokkkfaaQ
end
section
namespace Go.Proofs.Ytcjkmmajokkkfaa.Pure
open Go.RowKit Go.Proofs.Ytcjkmmajokkkfaa.P Go.Proofs.YtcjkmmajokkkfaaW.PrintWords Go.Proofs.YtcjkmmajokkkfaaW.PrintLast Go.Proofs.YtcjkmmajokkkfaaQ
theorem fillC_back : ∀ (l : List S42), l.any bad = false → fillC (hasL l) (numsL l) = some (l, [])
 | [], _ => fillC_nil _
 | c :: l, h => by
  rw [List.any_cons, Bool.or_eq_false_iff] at h
  have ih := fillC_back l h.2
  obtain ⟨c0, c1⟩ := c
  cases c0 with
  | true =>
   show fillC (1 :: hasL l) (c1 :: numsL l) = _
   rw [fillC_one (by decide), ih]
   rfl
  | false =>
   have h1 : c1 = 0 := by
    have := h.1
    unfold bad at this
    simpa using this
   subst h1
   show fillC (0 :: hasL l) (numsL l) = _
   rw [fillC_zero rfl, ih]
   rfl
theorem takeC_back {l : List S42} (hc : Cells l) (hf : formedOf l = true) (more : List Int) : takeCOf (bytesL l ++ more) = (l, ((bytesL l).length : Int), 0) := by
 have hl := formed_len hf
 have hbad : l.any bad = false := by
  unfold formedOf at hf
  simp at hf
  rw [List.any_eq_false]
  intro x hx
  simpa using hf.2 x hx
 have hnl := numsL_length l
 have hpl : (packOf 1 (hasL l)).length = (l.length + 7) / 8 := by rw [length_packOf, hasL_length, Nat.one_mul]
 have hv : val (packOf 1 (hasL l)) = pval 1 (hasL l) := by
  have := pval_lt 1 (hasL_fit l)
  rw [packOf, val_digits, p256]
  exact Nat.mod_eq_of_lt (Nat.lt_of_lt_of_le this (Nat.pow_le_pow_right (by decide) (by omega)))
 have hun : unpackOf (packOf 1 (hasL l)) (l.length : Int) 1 = (hasL l, 0) := by
  have := pval_lt 1 (hasL_fit l)
  unfold unpackOf
  rw [hasL_length] at this
  have e1 : Int.toNat 1 = 1 := rfl
  simp only [Int.toNat_natCast, e1, Nat.mul_one]
  rw [Nat.one_mul] at this
  rw [if_neg (by omega), if_neg (by omega), if_neg (by omega), if_neg (by rw [hv]; omega), hv]
  have h2 := unOf_pval 1 (hasL_fit l) (fun x hx => (hasL_u64 l x hx).1)
  rw [hasL_length] at h2
  rw [h2]
 have htk : takeOf (bytesL l ++ more) = ((l.length : Int), ((numEnc l.length).length : Int), 0) := by
  unfold bytesL
  rw [List.append_assoc, List.append_assoc]
  exact takeOf_enc (by omega) _
 have e1 : bytesL l ++ more = numEnc l.length ++ (packOf 1 (hasL l) ++ (listOf 4096 (foldN (numsL l)) ++ more)) := by simp [bytesL]
 have e2 : ((bytesL l ++ more).take ((numEnc l.length).length + (l.length + 7) / 8)).drop (numEnc l.length).length = packOf 1 (hasL l) := by
  rw [e1, ← hpl, List.take_length_add_append, List.take_left, List.drop_left]
 have e3 : (bytesL l ++ more).drop ((numEnc l.length).length + (l.length + 7) / 8) = listOf 4096 (foldN (numsL l)) ++ more := by
  rw [e1, ← hpl, ← List.drop_drop, List.drop_left, List.drop_left]
 have e4 : takeIOf (listOf 4096 (foldN (numsL l)) ++ more) 4096 = (numsL l, ((listOf 4096 (foldN (numsL l))).length : Int), 0) := by
  unfold takeIOf
  rw [takeLOf_back (lt_foldN (numsL_i64 hc)) (by simp; omega) (by simp; omega) more (by simp; omega)]
  simp only [up_toNat, unfold_foldN (numsL_i64 hc)]
 unfold takeCOf
 rw [htk]
 simp only [Int.toNat_natCast, if_true]
 unfold takeVK
 rw [if_neg (by omega), if_neg ?_]
 ·rw [e2, e3, hun]
  simp only [if_true]
  rw [e4]
  simp only [if_true]
  rw [fillC_back l hbad]
  simp only [doneC, List.length_nil, if_true, List.nil_append]
  congr 1
  congr 1
  unfold bytesL
  rw [List.length_append, List.length_append, hpl]
  omega
 ·rw [e1]
  simp only [List.length_append, hpl]
  omega
theorem IntsBackUp : ∀ (l0 : (List S42)) (l1 : (List Int)), l0.length * 16 ≤ 140737488351232 → (∀ y ∈ l0, (True ∧ (Lit.int .i64 y.f1).wf = true)) → l1.length * 1 ≤ 140737488351232 → (∀ y ∈ l1, (Lit.int .u8 y).wf = true) → l0.length + l1.length ≤ 1048576 → ∃ k, dragnetlaw10_IntsBack.f k l0 l1 = some true := by
 intro l more _ hc0 _ hm0 hbulk
 have hM : B8 more := fun x hx => wf_u8 (hm0 x hx)
 have hc := cells_of hc0
 refine Ev.rounds (r := true) ?_
 unfold dragnetlaw10_IntsBack.f
 refine Ev.bind alive10 (Ev.if_t rfl ?_)
 by_cases h : (l.length : Int) > 500
 ·exact Ev.if_t h (Ev.now _)
 ·refine Ev.if_f h (Ev.bind (lay_ev [] (fun x hx => by cases hx) hc (fun _ => by simp; omega)) ?_)
  cases hf : formedOf l with
  | true =>
   have h6 := bytesL_len hc (by omega)
   have hB : B8 (bytesL l) := in_bytesL hc (by omega)
   simp only [if_true, List.nil_append]
   refine Ev.obind (copy8 _ (by omega)) (Ev.if_t (by omega) ?_)
   have := takeC_ev (bytesL l ++ more) (In.append hB hM) (by rw [List.length_append]; omega)
   rw [takeC_back hc hf more] at this
   exact Ev.bind this (Ev.if_t rfl (Ev.if_t rfl (Ev.bind (same10_self l (by omega)) (Ev.now _))))
  | false =>
   simp only [Bool.false_eq_true, if_false]
   refine Ev.if_f (by decide) (Ev.bind (ref_formed_ev l (by omega)) ?_)
   rw [hf]
   exact Ev.now _
end Go.Proofs.Ytcjkmmajokkkfaa.Pure
end
