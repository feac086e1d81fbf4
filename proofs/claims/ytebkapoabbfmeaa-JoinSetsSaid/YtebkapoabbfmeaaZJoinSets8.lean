/- Words and proofs that JoinSets leans on; put together by wip/tools/shake.py. -/
import Derived.Test.YtebkapoabbfmeaaZJoinSets4
import Derived.Test.YtebkapoabbfmeaaZJoinSets5
import Derived.Test.YtebkapoabbfmeaaZJoinSets6
import Derived.Test.YtebkapoabbfmeaaZJoinSets7
import Derived.ArgAppend
import Derived.Below
import Derived.BigQuiet
import Derived.Deep.AppendLies
import Derived.Deep.CutBlock
import Derived.Deep.DeepCutAuto
import Derived.Deep.Draws
import Derived.Deep.LoopGhost
import Derived.Deep.OwnRows
import Derived.Deep.QuietTactic
import Derived.Deep.RegionHeld3
import Derived.KernelRfl
import Derived.Laws.BitsLemmas
import Derived.Laws.BytesArg
import Derived.Laws.Cover1
import Derived.Laws.IdiomCopy
import Derived.Laws.MakeOwn
import Derived.Laws.OwnMore
import Derived.Laws.Rows
import Derived.Laws.Slices
import Derived.Laws.StructEq
import Derived.Lib.AppendStr
import Derived.Lib.BitFns
import Derived.Lib.ConvBytes
import Derived.Lib.Slices
import Derived.Lib.Small
import Derived.Lib.Strings
import Derived.Lib.Walk
import Derived.Maps.AppendAt
import Derived.OrdersHeld
import Derived.OwnWalk
import Derived.RangeFuncBox
import Derived.RowKit
import Derived.RowKit3
import Derived.ScopeJumps
import Derived.Shelf.Abstract
import Derived.Tactics
import Derived.Test.YtebkapoabbfmeaaProg
import Derived.WalkKit
import Derived.WalkMore
import Derived.WalkSpells
import Derived.WideLaws
section
namespace Go.Proofs.Ytebkapoabbfmeaa.P
open Go.RowKit Go.Proofs.YtebkapoabbfmeaaW.PrintWords Go.Proofs.YtebkapoabbfmeaaW.PrintLast Go.Proofs.YtebkapoabbfmeaaW.PrintMore
attribute [local go_sem] max2_int min2_int max_two min_two max_three min_three max_four min_four
set_option linter.unusedVariables false
set_option linter.unusedSimpArgs false
end Go.Proofs.Ytebkapoabbfmeaa.P
end
section
namespace Go.Proofs.Ytebkapoabbfmeaa.P
open Go.RowKit Go.Proofs.YtebkapoabbfmeaaW.PrintWords Go.Proofs.YtebkapoabbfmeaaW.PrintLast Go.Proofs.YtebkapoabbfmeaaW.PrintMore
attribute [local go_sem] max2_int min2_int max_two min_two max_three min_three max_four min_four
set_option linter.unusedVariables false
set_option linter.unusedSimpArgs false
end Go.Proofs.Ytebkapoabbfmeaa.P
end
section
namespace Go.Proofs.Ytebkapoabbfmeaa.P
open Go.RowKit Go.Proofs.YtebkapoabbfmeaaW.PrintWords Go.Proofs.YtebkapoabbfmeaaW.PrintLast Go.Proofs.YtebkapoabbfmeaaW.PrintMore
attribute [local go_sem] max2_int min2_int max_two min_two max_three min_three max_four min_four
set_option linter.unusedVariables false
set_option linter.unusedSimpArgs false
end Go.Proofs.Ytebkapoabbfmeaa.P
end
section
namespace Go.Proofs.YtebkapoabbfmeaaQ
open Go.RowKit Go.Proofs.YtebkapoabbfmeaaW.PrintWords Go.Proofs.YtebkapoabbfmeaaW.PrintMore Go.Proofs.YtebkapoabbfmeaaW.PrintLast Go.Proofs.Ytebkapoabbfmeaa.P
def Rs : Int → List Int → Bool
 | _, [] => true
 | lo, x :: t => decide (lo < x) && decide (x < 4096) && Rs x t
theorem rs_cons {lo x : Int} {t : List Int} : Rs lo (x :: t) = true ↔ lo < x ∧ x < 4096 ∧ Rs x t = true := by
 simp [Rs, and_assoc]
theorem rs_weak {lo hi : Int} {l : List Int} (h : Rs hi l = true) (hl : lo ≤ hi) : Rs lo l = true := by
 cases l with
 | nil => rfl
 | cons x t => rw [rs_cons] at h ⊢; exact ⟨by omega, h.2⟩
theorem rs_gt : ∀ {lo : Int} {l : List Int}, Rs lo l = true → ∀ z ∈ l, lo < z ∧ z < 4096
 | _, [], _, z, hz => by cases hz
 | lo, x :: t, h, z, hz => by
  rw [rs_cons] at h
  rcases List.mem_cons.1 hz with rfl | hz
  ·exact ⟨h.1, h.2.1⟩
  ·have := rs_gt h.2.2 z hz
   omega
theorem rs_length : ∀ {lo : Int} {l : List Int}, Rs lo l = true → -1 ≤ lo → lo ≤ 4095 → (l.length : Int) ≤ 4095 - lo
 | lo, [], _, _, h => by simp; omega
 | lo, x :: t, h, h0, _ => by
  rw [rs_cons] at h
  have := rs_length h.2.2 (by omega) (by omega)
  simp
  omega
theorem rs_ext : ∀ {lo : Int} {a b : List Int}, Rs lo a = true → Rs lo b = true → (∀ z, z ∈ a ↔ z ∈ b) → a = b
 | _, [], [], _, _, _ => rfl
 | _, [], y :: b, _, _, h => by have := (h y).2 List.mem_cons_self; cases this
 | _, x :: a, [], _, _, h => by have := (h x).1 List.mem_cons_self; cases this
 | lo, x :: a, y :: b, ha, hb, h => by
  rw [rs_cons] at ha hb
  have e : x = y := by
   rcases List.mem_cons.1 ((h x).1 List.mem_cons_self) with e | e
   ·exact e
   ·rcases List.mem_cons.1 ((h y).2 List.mem_cons_self) with e2 | e2
    ·exact e2.symm
    ·have := (rs_gt hb.2.2 x e).1
     have := (rs_gt ha.2.2 y e2).1
     omega
  subst e
  rw [rs_ext ha.2.2 hb.2.2 fun z => ?_]
  constructor
  ·intro hz
   rcases List.mem_cons.1 ((h z).1 (List.mem_cons_of_mem _ hz)) with rfl | hz2
   ·have := (rs_gt ha.2.2 z hz).1; omega
   ·exact hz2
  ·intro hz
   rcases List.mem_cons.1 ((h z).2 (List.mem_cons_of_mem _ hz)) with rfl | hz2
   ·have := (rs_gt hb.2.2 z hz).1; omega
   ·exact hz2
theorem drop_rd {l : List Int} {i : Nat} (h : i < l.length) : l.drop i = rd l (i : Int) :: l.drop (i + 1) := by
 rw [List.drop_eq_getElem_cons h, rd_nat l i h]
theorem rises_l0 (l : List Int) (hl : l.length ≤ 17592186044416) : ∀ (d i : Nat) (lo : Int), i + d = l.length →
  Ev (fun k => join_Rises.l0 k lo l (l.length : Int) (i : Int)) (Rs lo (l.drop i))
 | 0, i, lo, hi => by
  apply Ev.succ
  simp only [join_Rises.l0]
  rw [List.drop_eq_nil_of_le (by omega)]
  exact Ev.if_f (by omega) (Ev.now _)
 | d + 1, i, lo, hi => by
  have hil : i < l.length := by omega
  apply Ev.succ
  simp only [join_Rises.l0]
  rw [drop_rd hil, inc i (by omega)]
  refine Ev.if_t (by omega) (Ev.if_t (by omega) (Ev.if_t (by omega) ?_))
  by_cases h1 : rd l (i : Int) ≤ lo
  ·refine Ev.if_t h1 ?_
   rw [show Rs lo (rd l (i : Int) :: l.drop (i + 1)) = false by simp [Rs]; omega]
   exact Ev.now _
  ·refine Ev.if_f h1 ?_
   by_cases h2 : rd l (i : Int) ≥ 4096
   ·refine Ev.if_t h2 ?_
    rw [show Rs lo (rd l (i : Int) :: l.drop (i + 1)) = false by simp [Rs]; omega]
    exact Ev.now _
   ·refine Ev.if_f h2 ?_
    rw [show Rs lo (rd l (i : Int) :: l.drop (i + 1)) = Rs (rd l (i : Int)) (l.drop (i + 1)) by simp [Rs]; omega]
    exact rises_l0 l hl d (i + 1) _ (by omega)
theorem rises_ev (l : List Int) (hl : l.length ≤ 17592186044416) : Ev (fun k => join_Rises.f k l) (Rs (-1) l) := by
 unfold join_Rises.f
 have := rises_l0 l hl l.length 0 (-1) (by omega)
 simpa using this
theorem ref_rises_l0 (l : List Int) (hl : l.length ≤ 17592186044416) : ∀ (d i : Nat) (lo : Int), i + d = l.length → -1 ≤ lo → (i = 0 → lo = -1) → (0 < i → lo = rd l ((i - 1 : Nat) : Int)) →
  Ev (fun k => dragnetref14_Rises.l0 k l (i : Int)) (Rs lo (l.drop i))
 | 0, i, lo, hi, _, _, _ => by
  apply Ev.succ
  simp only [dragnetref14_Rises.l0]
  rw [List.drop_eq_nil_of_le (by omega)]
  exact Ev.if_f (by omega) (Ev.now _)
 | d + 1, i, lo, hi, hlo, h0, h1 => by
  have hil : i < l.length := by omega
  apply Ev.succ
  simp only [dragnetref14_Rises.l0]
  rw [drop_rd hil, inc i (by omega)]
  refine Ev.if_t (by omega) (Ev.if_t (by omega) ?_)
  by_cases h2 : rd l (i : Int) < 0
  ·refine Ev.if_t h2 ?_
   rw [show Rs lo (rd l (i : Int) :: l.drop (i + 1)) = false by simp [Rs]; omega]
   exact Ev.now _
  ·refine Ev.if_f h2 ?_
   by_cases h3 : rd l (i : Int) > 4095
   ·refine Ev.if_t h3 ?_
    rw [show Rs lo (rd l (i : Int) :: l.drop (i + 1)) = false by simp [Rs]; omega]
    exact Ev.now _
   ·refine Ev.if_f h3 ?_
    have ih := ref_rises_l0 l hl d (i + 1) (rd l (i : Int)) (by omega) (by omega) (by omega) (fun _ => by rw [Nat.add_sub_cancel])
    rcases Nat.eq_zero_or_pos i with hz | hz
    ·refine Ev.if_f (by omega) ?_
     have := h0 hz
     rw [show Rs lo (rd l (i : Int) :: l.drop (i + 1)) = Rs (rd l (i : Int)) (l.drop (i + 1)) by simp [Rs]; omega]
     exact ih
    ·have hlo2 := h1 hz
     have e : wrap64 ((i : Int) - 1) = ((i - 1 : Nat) : Int) := by rw [w64 (by omega) (by omega)]; omega
     rw [e, ← hlo2]
     refine Ev.if_t (by omega) (Ev.if_t (by omega) (Ev.if_t (by omega) ?_))
     by_cases h4 : lo ≥ rd l (i : Int)
     ·refine Ev.if_t h4 ?_
      rw [show Rs lo (rd l (i : Int) :: l.drop (i + 1)) = false by simp [Rs]; omega]
      exact Ev.now _
     ·refine Ev.if_f h4 ?_
      rw [show Rs lo (rd l (i : Int) :: l.drop (i + 1)) = Rs (rd l (i : Int)) (l.drop (i + 1)) by simp [Rs]; omega]
      exact ih
theorem ref_rises_ev (l : List Int) (hl : l.length ≤ 17592186044416) : Ev (fun k => dragnetref14_Rises.f k l) (Rs (-1) l) := by
 unfold dragnetref14_Rises.f
 have := ref_rises_l0 l hl l.length 0 (-1) (by omega) (by omega) (fun _ => rfl) (fun h => absurd h (by omega))
 simpa using this
theorem ints_l0 (a b : List Int) (hl : a.length ≤ 17592186044416) (hab : a.length = b.length) : ∀ (d i : Nat), i + d = a.length →
  Ev (fun k => dragnetref09_Ints.l0 k a b (i : Int)) (decide (a.drop i = b.drop i))
 | 0, i, hi => by
  apply Ev.succ
  simp only [dragnetref09_Ints.l0]
  rw [List.drop_eq_nil_of_le (by omega), List.drop_eq_nil_of_le (by omega)]
  exact Ev.if_f (by omega) (Ev.now _)
 | d + 1, i, hi => by
  have hil : i < a.length := by omega
  apply Ev.succ
  simp only [dragnetref09_Ints.l0]
  rw [drop_rd hil, drop_rd (l := b) (by omega), inc i (by omega)]
  refine Ev.if_t (by omega) (Ev.if_t (by omega) (Ev.if_t (by omega) ?_))
  by_cases h1 : rd a (i : Int) = rd b (i : Int)
  ·refine Ev.if_t h1 ?_
   rw [h1]
   have := ints_l0 a b hl hab d (i + 1) (by omega)
   simpa using this
  ·refine Ev.if_f h1 ?_
   rw [decide_eq_false (by simp [h1])]
   exact Ev.now _
theorem ints_ev (a b : List Int) (hl : a.length ≤ 17592186044416) : Ev (fun k => dragnetref09_Ints.f k a b) (decide (a = b)) := by
 unfold dragnetref09_Ints.f
 by_cases h : a.length = b.length
 ·refine Ev.if_t (by omega) ?_
  have := ints_l0 a b hl h a.length 0 (by omega)
  simpa using this
 ·refine Ev.if_f (by omega) ?_
  rw [decide_eq_false (fun e => h (by rw [e]))]
  exact Ev.now _
end Go.Proofs.YtebkapoabbfmeaaQ
end
section
namespace Go.Proofs.YtebkapoabbfmeaaQ
open Go.RowKit Go.Proofs.YtebkapoabbfmeaaW.PrintWords Go.Proofs.YtebkapoabbfmeaaW.PrintMore Go.Proofs.YtebkapoabbfmeaaW.PrintLast Go.Proofs.Ytebkapoabbfmeaa.P
def Sel (f g h : Bool) (p q : Prop) : Prop := (p ∧ ¬ q ∧ f = true) ∨ (p ∧ q ∧ g = true) ∨ (¬ p ∧ q ∧ h = true)
def Told (f g h : Bool) (lo : Int) (a b r : List Int) : Prop := Rs lo r = true ∧ ∀ z, z ∈ r ↔ Sel f g h (z ∈ a) (z ∈ b)
theorem told_nil_left {f g h : Bool} {lo : Int} {b : List Int} (hb : Rs lo b = true) : Told f g h lo [] b (if h then b else []) := by
 cases h <;> simp [Told, Sel, hb, Rs]
theorem told_nil_right {f g h : Bool} {lo : Int} {a : List Int} (ha : Rs lo a = true) : Told f g h lo a [] (if f then a else []) := by
 cases f <;> simp [Told, Sel, ha, Rs]
theorem told_first {f g h : Bool} {lo x : Int} {a b r : List Int} (hx : lo < x ∧ x < 4096) (ha : Rs x a = true) (hb : Rs x b = true) (hr : Told f g h x a b r) :
  Told f g h lo (x :: a) b ((if f then [x] else []) ++ r) := by
 have na : x ∉ a := fun hm => by have := (rs_gt ha x hm).1; omega
 have nb : x ∉ b := fun hm => by have := (rs_gt hb x hm).1; omega
 refine ⟨?_, fun z => ?_⟩
 ·cases f
  ·exact rs_weak hr.1 (by omega)
  ·exact rs_cons.2 ⟨hx.1, hx.2, hr.1⟩
 ·have hz := hr.2 z
  by_cases e : z = x
  ·subst e
   have : z ∉ r := fun hm => by have := (rs_gt hr.1 z hm).1; omega
   cases f <;> simp [Sel, nb, this]
  ·cases f <;> simp [Sel, e, hz]
theorem sel_swap {f g h : Bool} {p q : Prop} : Sel f g h p q ↔ Sel h g f q p := by
 unfold Sel
 constructor
 ·rintro (⟨a, b, c⟩ | ⟨a, b, c⟩ | ⟨a, b, c⟩)
  ·exact .inr (.inr ⟨b, a, c⟩)
  ·exact .inr (.inl ⟨b, a, c⟩)
  ·exact .inl ⟨b, a, c⟩
 ·rintro (⟨a, b, c⟩ | ⟨a, b, c⟩ | ⟨a, b, c⟩)
  ·exact .inr (.inr ⟨b, a, c⟩)
  ·exact .inr (.inl ⟨b, a, c⟩)
  ·exact .inl ⟨b, a, c⟩
theorem told_swap {f g h : Bool} {lo : Int} {a b r : List Int} (hr : Told h g f lo b a r) : Told f g h lo a b r := ⟨hr.1, fun z => (hr.2 z).trans sel_swap.symm⟩
theorem told_both {f g h : Bool} {lo x : Int} {a b r : List Int} (hx : lo < x ∧ x < 4096) (ha : Rs x a = true) (hb : Rs x b = true) (hr : Told f g h x a b r) :
  Told f g h lo (x :: a) (x :: b) ((if g then [x] else []) ++ r) := by
 refine ⟨?_, fun z => ?_⟩
 ·cases g
  ·exact rs_weak hr.1 (by omega)
  ·exact rs_cons.2 ⟨hx.1, hx.2, hr.1⟩
 ·have hz := hr.2 z
  by_cases e : z = x
  ·subst e
   have : z ∉ r := fun hm => by have := (rs_gt hr.1 z hm).1; omega
   cases g <;> simp [Sel, this]
  ·cases g <;> simp [Sel, e, hz]
theorem foldl_put (x : Bool) : ∀ (l out : List Int), l.foldl (join_merged.put x) out = out ++ (if x then l else [])
 | [], out => by cases x <;> simp
 | y :: l, out => by
  rw [List.foldl_cons, foldl_put x l]
  cases x <;> simp [join_merged.put]
theorem put_eq (x : Bool) (out : List Int) (n : Int) : join_merged.put x out n = out ++ (if x then [n] else []) := by
 cases x <;> simp [join_merged.put]
theorem merged_l0 (f g h : Bool) : ∀ (n : Nat) (a b out : List Int) (lo : Int), a.length + b.length ≤ n → Rs lo a = true → Rs lo b = true →
  ∃ r, Ev (fun k => join_merged.l0 k f g h a b out) (out ++ r) ∧ Told f g h lo a b r
 | _, [], b, out, lo, _, _, hb => by
  refine ⟨if h then b else [], ?_, told_nil_left hb⟩
  apply Ev.succ
  simp only [join_merged.l0]
  refine Ev.if_f (by simp) ?_
  rw [List.foldl_nil, foldl_put]
  exact Ev.now _
 | _, x :: a, [], out, lo, _, ha, _ => by
  refine ⟨if f then x :: a else [], ?_, told_nil_right ha⟩
  apply Ev.succ
  simp only [join_merged.l0]
  refine Ev.if_f (by simp) ?_
  rw [List.foldl_nil, foldl_put]
  exact Ev.now _
 | 0, x :: a, y :: b, out, lo, hn, _, _ => by simp at hn
 | n + 1, x :: a, y :: b, out, lo, hn, ha, hb => by
  have ha' := rs_cons.1 ha
  have hb' := rs_cons.1 hb
  have ex : rd (x :: a) 0 = x := rfl
  have ey : rd (y :: b) 0 = y := rfl
  simp only [List.length_cons] at hn
  by_cases h1 : x < y
  ·obtain ⟨r, he, ht⟩ := merged_l0 f g h n a (y :: b) (out ++ (if f then [x] else [])) x (by simp; omega) ha'.2.2 (rs_cons.2 ⟨h1, hb'.2⟩)
   refine ⟨(if f then [x] else []) ++ r, ?_, told_first ⟨ha'.1, ha'.2.1⟩ ha'.2.2 (rs_cons.2 ⟨h1, hb'.2⟩) ht⟩
   apply Ev.succ
   simp only [join_merged.l0]
   rw [ex, ey, put_eq, ← List.append_assoc]
   exact Ev.if_t (by simp) (Ev.if_t h1 he)
  ·by_cases h2 : x > y
   ·obtain ⟨r, he, ht⟩ := merged_l0 f g h n (x :: a) b (out ++ (if h then [y] else [])) y (by simp; omega) (rs_cons.2 ⟨h2, ha'.2⟩) hb'.2.2
    refine ⟨(if h then [y] else []) ++ r, ?_, told_swap (told_first ⟨hb'.1, hb'.2.1⟩ hb'.2.2 (rs_cons.2 ⟨h2, ha'.2⟩) (told_swap ht))⟩
    apply Ev.succ
    simp only [join_merged.l0]
    rw [ex, ey, put_eq h, ← List.append_assoc]
    exact Ev.if_t (by simp) (Ev.if_f h1 (Ev.if_t h2 he))
   ·obtain rfl : x = y := by omega
    obtain ⟨r, he, ht⟩ := merged_l0 f g h n a b (out ++ (if g then [x] else [])) x (by omega) ha'.2.2 hb'.2.2
    refine ⟨(if g then [x] else []) ++ r, ?_, told_both ⟨ha'.1, ha'.2.1⟩ ha'.2.2 hb'.2.2 ht⟩
    apply Ev.succ
    simp only [join_merged.l0]
    rw [ex, ey, put_eq g, ← List.append_assoc]
    exact Ev.if_t (by simp) (Ev.if_f h1 (Ev.if_f h2 he))
theorem merged_good (f g h : Bool) {a b : List Int} (ha : Rs (-1) a = true) (hb : Rs (-1) b = true) :
  ∃ r, Ev (fun k => join_merged.f k a b f g h) (r, 0) ∧ Told f g h (-1) a b r := by
 have la := rs_length ha (by omega) (by omega)
 have lb := rs_length hb (by omega) (by omega)
 obtain ⟨r, he, ht⟩ := merged_l0 f g h _ a b [] (-1) (Nat.le_refl _) ha hb
 refine ⟨r, ?_, ht⟩
 have e1 := rises_ev a (by omega)
 have e2 := rises_ev b (by omega)
 rw [ha] at e1
 rw [hb] at e2
 unfold join_merged.f
 exact Ev.bind e1 (Ev.if_f (by decide) (Ev.bind e2 (Ev.if_f (by decide) (Ev.if_t (by omega) (Ev.bind he (Ev.now _))))))
theorem merged_bad (f g h : Bool) {a b : List Int} (la : a.length ≤ 17592186044416) (lb : b.length ≤ 17592186044416) (hab : ¬ (Rs (-1) a = true ∧ Rs (-1) b = true)) :
  Ev (fun k => join_merged.f k a b f g h) ([], 1) := by
 have e1 := rises_ev a la
 have e2 := rises_ev b lb
 unfold join_merged.f
 by_cases ha : Rs (-1) a = true
 ·have hb : Rs (-1) b = false := by simpa using fun hb => hab ⟨ha, hb⟩
  rw [ha] at e1
  rw [hb] at e2
  exact Ev.bind e1 (Ev.if_f (by decide) (Ev.bind e2 (Ev.if_t rfl (Ev.now _))))
 ·rw [show Rs (-1) a = false by simpa using ha] at e1
  exact Ev.bind e1 (Ev.if_t rfl (Ev.now _))
theorem both_ev {a b r : List Int} {e : Int} (h : Ev (fun k => join_merged.f k a b false true false) (r, e)) : Ev (fun k => join_Both.f k a b) (r, e) := by
 unfold join_Both.f
 exact Ev.bind h (Ev.now _)
theorem either_ev {a b r : List Int} {e : Int} (h : Ev (fun k => join_merged.f k a b true true true) (r, e)) : Ev (fun k => join_Either.f k a b) (r, e) := by
 unfold join_Either.f
 exact Ev.bind h (Ev.now _)
theorem without_ev {a b r : List Int} {e : Int} (h : Ev (fun k => join_merged.f k a b true false false) (r, e)) : Ev (fun k => join_Without.f k a b) (r, e) := by
 unfold join_Without.f
 exact Ev.bind h (Ev.now _)
theorem alive14 : Ev (fun k => dragnetlaw14_alive.f k) true := Ev.of (fun k => dragnetlaw14_alive.mono k) (k := 40) (by decide +kernel)
end Go.Proofs.YtebkapoabbfmeaaQ
end
section
namespace Go.Proofs.Ytebkapoabbfmeaa.Pure
open Go.RowKit Go.Proofs.Ytebkapoabbfmeaa.P Go.Proofs.YtebkapoabbfmeaaW.PrintWords Go.Proofs.YtebkapoabbfmeaaW.PrintLast Go.Proofs.YtebkapoabbfmeaaQ
theorem JoinSets : dragnetlaw14_JoinSets.Pure := by
 intro a b _ hla _ _ hlb _
 refine Ev.rounds (r := true) ?_
 have la : a.length ≤ 17592186044416 := by omega
 have lb : b.length ≤ 17592186044416 := by omega
 unfold dragnetlaw14_JoinSets.f
 refine Ev.bind alive14 (Ev.if_t rfl ?_)
 by_cases hab : Rs (-1) a = true ∧ Rs (-1) b = true
 ·obtain ⟨ha, hb⟩ := hab
  obtain ⟨both, e1, t1⟩ := merged_good false true false ha hb
  obtain ⟨mine, e2, t2⟩ := merged_good true false false ha hb
  obtain ⟨yours, e3, t3⟩ := merged_good true false false hb ha
  obtain ⟨either, e4, t4⟩ := merged_good true true true ha hb
  obtain ⟨x, e5, t5⟩ := merged_good true true true t1.1 t2.1
  obtain ⟨y, e6, t6⟩ := merged_good true true true t5.1 t3.1
  have hx : x = a := rs_ext t5.1 ha fun z => by
   rw [t5.2 z]
   have h1 := t1.2 z
   have h2 := t2.2 z
   simp only [Sel, Bool.false_eq_true, and_false, and_true, false_or, or_false] at h1 h2 ⊢
   by_cases p : z ∈ a <;> by_cases q : z ∈ b <;> simp [h1, h2, p, q]
  subst hx
  have hy : y = either := rs_ext t6.1 t4.1 fun z => by
   rw [t6.2 z]
   have h3 := t3.2 z
   have h4 := t4.2 z
   simp only [Sel, Bool.false_eq_true, and_false, and_true, or_false] at h3 h4 ⊢
   by_cases p : z ∈ x <;> by_cases q : z ∈ b <;> simp [h3, h4, p, q]
  subst hy
  have lx := rs_length t5.1 (by omega) (by omega)
  have ly := rs_length t6.1 (by omega) (by omega)
  refine Ev.bind (both_ev e1) (Ev.bind (without_ev e2) (Ev.bind (without_ev e3) (Ev.bind (either_ev e4) (Ev.if_t rfl (Ev.if_t rfl (Ev.if_t rfl ?_))))))
  apply Ev.succ
  simp only [dragnetlaw14_JoinSets.j0]
  refine Ev.if_f (by decide) (Ev.bind (either_ev e5) (Ev.bind (either_ev e6) (Ev.if_t rfl (Ev.if_t rfl ?_))))
  have i1 := ints_ev x x la
  have i2 := ints_ev y y (by omega)
  rw [decide_eq_true rfl] at i1 i2
  have i3 := rises_ev y (by omega)
  rw [t6.1] at i3
  exact Ev.bind i1 (Ev.if_t rfl (Ev.bind i2 (Ev.if_t rfl (Ev.bind i3 (Ev.now _)))))
 ·have hba : ¬ (Rs (-1) b = true ∧ Rs (-1) a = true) := fun h => hab ⟨h.2, h.1⟩
  refine Ev.bind (both_ev (merged_bad _ _ _ la lb hab)) (Ev.bind (without_ev (merged_bad _ _ _ la lb hab)) (Ev.bind (without_ev (merged_bad _ _ _ lb la hba)) (Ev.bind (either_ev (merged_bad _ _ _ la lb hab)) (Ev.if_f (by decide) ?_))))
  apply Ev.succ
  simp only [dragnetlaw14_JoinSets.j0]
  refine Ev.if_t trivial ?_
  have e1 := ref_rises_ev a la
  have e2 := ref_rises_ev b lb
  by_cases ha : Rs (-1) a = true
  ·have hb : Rs (-1) b = false := by simpa using fun hb => hab ⟨ha, hb⟩
   rw [ha] at e1
   rw [hb] at e2
   exact Ev.bind e1 (Ev.if_t rfl (Ev.bind e2 (Ev.now _)))
  ·rw [show Rs (-1) a = false by simpa using ha] at e1
   exact Ev.bind e1 (Ev.if_f (by decide) (Ev.now _))
end Go.Proofs.Ytebkapoabbfmeaa.Pure
end
