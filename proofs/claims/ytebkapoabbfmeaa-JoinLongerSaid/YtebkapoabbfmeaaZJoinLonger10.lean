/- Words and proofs that JoinLonger leans on; put together by wip/tools/shake.py. -/
import Derived.Test.YtebkapoabbfmeaaZJoinLonger8
import Derived.Test.YtebkapoabbfmeaaZJoinLonger9
import Derived.ArgAppend
import Derived.Below
import Derived.BigQuiet
import Derived.Deep.AppendLies
import Derived.Deep.CutBlock
import Derived.Deep.DeepCutAuto
import Derived.Deep.Draws
import Derived.Deep.LoopGhost
import Derived.Deep.OwnRows
import Derived.Deep.QuietTactic
import Derived.Deep.RegionHeld3
import Derived.KernelRfl
import Derived.Laws.BitsLemmas
import Derived.Laws.BytesArg
import Derived.Laws.Cover1
import Derived.Laws.IdiomCopy
import Derived.Laws.MakeOwn
import Derived.Laws.OwnMore
import Derived.Laws.Rows
import Derived.Laws.Slices
import Derived.Laws.StructEq
import Derived.Lib.AppendStr
import Derived.Lib.BitFns
import Derived.Lib.ConvBytes
import Derived.Lib.Slices
import Derived.Lib.Small
import Derived.Lib.Strings
import Derived.Lib.Walk
import Derived.Maps.AppendAt
import Derived.OrdersHeld
import Derived.OwnWalk
import Derived.RangeFuncBox
import Derived.RowKit
import Derived.RowKit3
import Derived.ScopeJumps
import Derived.Shelf.Abstract
import Derived.Tactics
import Derived.Test.YtebkapoabbfmeaaProg
import Derived.WalkKit
import Derived.WalkMore
import Derived.WalkSpells
import Derived.WideLaws
section
namespace Go.Proofs.YtebkapoabbfmeaaQ
open Go.RowKit Go.Proofs.YtebkapoabbfmeaaW.PrintWords Go.Proofs.YtebkapoabbfmeaaW.PrintMore Go.Proofs.YtebkapoabbfmeaaW.PrintLast Go.Proofs.Ytebkapoabbfmeaa.P
theorem drop_rd {l : List Int} {i : Nat} (h : i < l.length) : l.drop i = rd l (i : Int) :: l.drop (i + 1) := by
 rw [List.drop_eq_getElem_cons h, rd_nat l i h]
theorem ints_l0 (a b : List Int) (hl : a.length ≤ 17592186044416) (hab : a.length = b.length) : ∀ (d i : Nat), i + d = a.length →
  Ev (fun k => dragnetref09_Ints.l0 k a b (i : Int)) (decide (a.drop i = b.drop i))
 | 0, i, hi => by
  apply Ev.succ
  simp only [dragnetref09_Ints.l0]
  rw [List.drop_eq_nil_of_le (by omega), List.drop_eq_nil_of_le (by omega)]
  exact Ev.if_f (by omega) (Ev.now _)
 | d + 1, i, hi => by
  have hil : i < a.length := by omega
  apply Ev.succ
  simp only [dragnetref09_Ints.l0]
  rw [drop_rd hil, drop_rd (l := b) (by omega), inc i (by omega)]
  refine Ev.if_t (by omega) (Ev.if_t (by omega) (Ev.if_t (by omega) ?_))
  by_cases h1 : rd a (i : Int) = rd b (i : Int)
  ·refine Ev.if_t h1 ?_
   rw [h1]
   have := ints_l0 a b hl hab d (i + 1) (by omega)
   simpa using this
  ·refine Ev.if_f h1 ?_
   rw [decide_eq_false (by simp [h1])]
   exact Ev.now _
theorem ints_ev (a b : List Int) (hl : a.length ≤ 17592186044416) : Ev (fun k => dragnetref09_Ints.f k a b) (decide (a = b)) := by
 unfold dragnetref09_Ints.f
 by_cases h : a.length = b.length
 ·refine Ev.if_t (by omega) ?_
  have := ints_l0 a b hl h a.length 0 (by omega)
  simpa using this
 ·refine Ev.if_f (by omega) ?_
  rw [decide_eq_false (fun e => h (by rw [e]))]
  exact Ev.now _
end Go.Proofs.YtebkapoabbfmeaaQ
end
section
namespace Go.Proofs.YtebkapoabbfmeaaQ
set_option linter.unusedVariables false
open Go.RowKit Go.Proofs.YtebkapoabbfmeaaW.PrintWords Go.Proofs.YtebkapoabbfmeaaW.PrintMore Go.Proofs.YtebkapoabbfmeaaW.PrintLast Go.Proofs.Ytebkapoabbfmeaa.P
theorem rdP (l : List S35) (i : Nat) (h : i < l.length) : rd_T35 l (i : Int) = l[i] := by
 simp [rd_T35, h]
def Rm (m : Int) : Int → List Int → Bool
 | _, [] => true
 | lo, x :: t => decide (lo < x) && decide (x ≤ m) && Rm m x t
theorem rm_cons {m lo x : Int} {t : List Int} : Rm m lo (x :: t) = true ↔ lo < x ∧ x ≤ m ∧ Rm m x t = true := by
 simp [Rm, and_assoc]
theorem rm_weak {m lo hi : Int} {l : List Int} (h : Rm m hi l = true) (hl : lo ≤ hi) : Rm m lo l = true := by
 cases l with
 | nil => rfl
 | cons x t => rw [rm_cons] at h ⊢; exact ⟨by omega, h.2⟩
theorem rm_gt {m : Int} : ∀ {lo : Int} {l : List Int}, Rm m lo l = true → ∀ z ∈ l, lo < z ∧ z ≤ m
 | _, [], _, z, hz => by cases hz
 | lo, x :: t, h, z, hz => by
  rw [rm_cons] at h
  rcases List.mem_cons.1 hz with rfl | hz
  ·exact ⟨h.1, h.2.1⟩
  ·have := rm_gt h.2.2 z hz
   omega
theorem rm_filter {m : Int} (c : Int → Bool) : ∀ {lo : Int} {l : List Int}, Rm m lo l = true → Rm m lo (l.filter c) = true
 | _, [], _ => rfl
 | lo, x :: t, h => by
  rw [rm_cons] at h
  rw [List.filter_cons]
  split
  ·exact rm_cons.2 ⟨h.1, h.2.1, rm_filter c h.2.2⟩
  ·exact rm_weak (rm_filter c h.2.2) (by omega)
def okPost (p : S35) : Bool := decide (p.f1 ≠ []) && Rm 2147483647 (-1) p.f1
def formedGo : Int → List S35 → Bool
 | _, [] => true
 | lo, p :: t => decide (lo < p.f0) && decide (p.f0 ≤ 4095) && okPost p && formedGo p.f0 t
theorem formed_cons {lo : Int} {p : S35} {t : List S35} : formedGo lo (p :: t) = true ↔ lo < p.f0 ∧ p.f0 ≤ 4095 ∧ okPost p = true ∧ formedGo p.f0 t = true := by
 simp [formedGo, and_assoc]
abbrev formedOf (l : List S35) : Bool := formedGo (-1) l
theorem formed_weak {lo hi : Int} {l : List S35} (h : formedGo hi l = true) (hl : lo ≤ hi) : formedGo lo l = true := by
 cases l with
 | nil => rfl
 | cons x t => rw [formed_cons] at h ⊢; exact ⟨by omega, h.2⟩
theorem formed_gt : ∀ {lo : Int} {l : List S35}, formedGo lo l = true → ∀ p ∈ l, lo < p.f0 ∧ p.f0 ≤ 4095 ∧ okPost p = true
 | _, [], _, z, hz => by cases hz
 | lo, x :: t, h, z, hz => by
  rw [formed_cons] at h
  rcases List.mem_cons.1 hz with rfl | hz
  ·exact ⟨h.1, h.2.1, h.2.2.1⟩
  ·have := formed_gt h.2.2.2 z hz
   exact ⟨by omega, this.2⟩
theorem okPost_iff {p : S35} : okPost p = true ↔ p.f1 ≠ [] ∧ Rm 2147483647 (-1) p.f1 = true := by simp [okPost]
theorem dropP {l : List S35} {i : Nat} (h : i < l.length) : l.drop i = l[i] :: l.drop (i + 1) := List.drop_eq_getElem_cons h
theorem formed_l1 (l : List S35) (hl : l.length ≤ 17592186044416) (n0 : Int) (i : Int) (v : List Int) (hv : v.length ≤ 17592186044416) {R : Bool} (hR : Ev (fun k => post_Formed.l0 k n0 l (l.length : Int) (wrap64 (i + 1))) R) :
  ∀ (d j : Nat) (lo : Int), j + d = v.length → Ev (fun k => post_Formed.l1 k n0 lo l (l.length : Int) i v (v.length : Int) (j : Int)) (Rm 2147483647 lo (v.drop j) && R)
 | 0, j, lo, hj => by
  apply Ev.succ
  simp only [post_Formed.l1]
  rw [List.drop_eq_nil_of_le (by omega)]
  exact Ev.if_f (by omega) (by simpa [Rm] using hR)
 | d + 1, j, lo, hj => by
  have hlt : j < v.length := by omega
  have ih := formed_l1 l hl n0 i v hv hR d (j + 1)
  apply Ev.succ
  simp only [post_Formed.l1]
  rw [drop_rd hlt, inc j (by omega), Rm]
  refine Ev.if_t (by omega) (Ev.if_t (by omega) (Ev.if_t (by omega) ?_))
  by_cases h1 : rd v (j : Int) ≤ lo
  ·refine Ev.if_t h1 ?_
   rw [decide_eq_false (show ¬ lo < rd v (j : Int) by omega)]
   exact Ev.now _
  ·refine Ev.if_f h1 ?_
   by_cases h2 : rd v (j : Int) > 2147483647
   ·refine Ev.if_t h2 ?_
    rw [decide_eq_false (show ¬ rd v (j : Int) ≤ 2147483647 by omega)]
    simpa using Ev.now _
   ·refine Ev.if_f h2 ?_
    rw [decide_eq_true (show lo < rd v (j : Int) by omega), decide_eq_true (show rd v (j : Int) ≤ 2147483647 by omega)]
    simpa using ih _ (by omega)
theorem formed_l0 (l : List S35) (hl : l.length ≤ 17592186044416) (hv : ∀ p ∈ l, p.f1.length ≤ 17592186044416) : ∀ (d i : Nat) (lo : Int), i + d = l.length →
  Ev (fun k => post_Formed.l0 k lo l (l.length : Int) (i : Int)) (formedGo lo (l.drop i))
 | 0, i, lo, hi => by
  apply Ev.succ
  simp only [post_Formed.l0]
  rw [List.drop_eq_nil_of_le (by omega)]
  exact Ev.if_f (by omega) (Ev.now _)
 | d + 1, i, lo, hi => by
  have hlt : i < l.length := by omega
  have ih := formed_l0 l hl hv d (i + 1) l[i].f0 (by omega)
  rw [← inc i (by omega)] at ih
  have h1 := formed_l1 l hl l[i].f0 (i : Int) l[i].f1 (hv _ (List.getElem_mem hlt)) ih l[i].f1.length 0 (-1) (by omega)
  rw [List.drop_zero] at h1
  have bad : Ev (fun k => post_Formed.j1 k l (l.length : Int) (i : Int) true l[i].f0 l[i].f1) false := by
   apply Ev.succ
   simp only [post_Formed.j1]
   exact Ev.if_t trivial (Ev.now _)
  apply Ev.succ
  simp only [post_Formed.l0]
  rw [dropP hlt, formedGo, rdP l i hlt]
  refine Ev.if_t (by omega) (Ev.if_t (by omega) (Ev.if_t (by omega) ?_))
  by_cases h2 : l[i].f0 ≤ lo
  ·refine Ev.if_t h2 ?_
   rw [decide_eq_false (show ¬ lo < l[i].f0 by omega)]
   simpa using bad
  ·refine Ev.if_f h2 ?_
   by_cases h3 : l[i].f0 > 4095
   ·refine Ev.if_t h3 ?_
    rw [decide_eq_false (show ¬ l[i].f0 ≤ 4095 by omega)]
    simpa using bad
   ·refine Ev.if_f h3 ?_
    rw [decide_eq_true (show lo < l[i].f0 by omega), decide_eq_true (show l[i].f0 ≤ 4095 by omega)]
    by_cases h4 : l[i].f1 = []
    ·rw [h4] at bad ⊢
     have : okPost l[i] = false := by simp [okPost, h4]
     rw [this]
     simpa using bad
    ·have hne : ((l[i].f1.length : Int) == 0) = false := by
      rw [beq_eq_false_iff_ne]
      intro e
      exact h4 (List.length_eq_zero_iff.1 (by omega))
     rw [hne]
     have hok : okPost l[i] = Rm 2147483647 (-1) l[i].f1 := by simp [okPost, h4]
     rw [hok]
     apply Ev.succ
     simp only [post_Formed.j1]
     refine Ev.if_f (by decide) ?_
     simpa using h1
theorem formed_ev (l : List S35) (hl : l.length ≤ 17592186044416) (hv : ∀ p ∈ l, p.f1.length ≤ 17592186044416) : Ev (fun k => post_Formed.f k l) (formedOf l) := by
 unfold post_Formed.f
 have := formed_l0 l hl hv l.length 0 (-1) (by omega)
 simpa using this
theorem same_l0 (l : List S35) (hl : l.length ≤ 17592186044416) (hv : ∀ p ∈ l, p.f1.length ≤ 17592186044416) : ∀ (d i : Nat), i + d = l.length →
  Ev (fun k => dragnetref13_Same.l0 k l l (i : Int)) true
 | 0, i, hi => by
  apply Ev.succ
  simp only [dragnetref13_Same.l0]
  exact Ev.if_f (by omega) (Ev.now _)
 | d + 1, i, hi => by
  have hil : i < l.length := by omega
  have h1 := ints_ev (rd_T35 l (i : Int)).f1 (rd_T35 l (i : Int)).f1 (by rw [rdP l i hil]; exact hv _ (List.getElem_mem hil))
  rw [decide_eq_true rfl] at h1
  have h2 : Ev (fun k => dragnetref13_SamePost.f k (rd_T35 l (i : Int)).f0 (rd_T35 l (i : Int)).f1 (rd_T35 l (i : Int)).f0 (rd_T35 l (i : Int)).f1) true := by
   unfold dragnetref13_SamePost.f
   exact Ev.if_t rfl (Ev.bind h1 (Ev.now _))
  apply Ev.succ
  simp only [dragnetref13_Same.l0]
  rw [inc i (by omega)]
  exact Ev.if_t (by omega) (Ev.if_t (by omega) (Ev.if_t (by omega) (Ev.bind h2 (Ev.if_t rfl (same_l0 l hl hv d (i + 1) (by omega))))))
theorem same_ev (l : List S35) (hl : l.length ≤ 17592186044416) (hv : ∀ p ∈ l, p.f1.length ≤ 17592186044416) : Ev (fun k => dragnetref13_Same.f k l l) true := by
 unfold dragnetref13_Same.f
 exact Ev.if_t rfl (same_l0 l hl hv l.length 0 (by omega))
end Go.Proofs.YtebkapoabbfmeaaQ
end
section
namespace Go.Proofs.YtebkapoabbfmeaaQ
open Go.RowKit Go.Proofs.YtebkapoabbfmeaaW.PrintWords Go.Proofs.YtebkapoabbfmeaaW.PrintMore Go.Proofs.YtebkapoabbfmeaaW.PrintLast Go.Proofs.Ytebkapoabbfmeaa.P
theorem alive14 : Ev (fun k => dragnetlaw14_alive.f k) true := Ev.of (fun k => dragnetlaw14_alive.mono k) (k := 40) (by decide +kernel)
end Go.Proofs.YtebkapoabbfmeaaQ
end
section
namespace Go.Proofs.YtebkapoabbfmeaaQ
set_option linter.unusedVariables false
open Go.RowKit Go.Proofs.YtebkapoabbfmeaaW.PrintWords Go.Proofs.YtebkapoabbfmeaaW.PrintMore Go.Proofs.YtebkapoabbfmeaaW.PrintLast Go.Proofs.Ytebkapoabbfmeaa.P
theorem rm_get {m lo : Int} {l : List Int} (h : Rm m lo l = true) {i j : Nat} (hij : i < j) (hj : j < l.length) : l[i] < l[j] := by
 induction l generalizing lo i j with
 | nil => simp at hj
 | cons x t ih =>
  rw [rm_cons] at h
  cases j with
  | zero => omega
  | succ j =>
   cases i with
   | zero => exact (rm_gt h.2.2 _ (List.getElem_mem (by simpa using hj))).1
   | succ i => exact ih h.2.2 (by omega) (by simpa using hj)
theorem less_f (a b : Int) : cmp_Less_int.f a b = some (decide (a < b)) := by
 unfold cmp_Less_int.f cmp_isNaN_int.f
 simp
theorem mid (a b : Nat) (h : a + b ≤ 9223372036854775800) : wrap64 ((IntKind.u64.wrap (wrap64 ((a : Int) + (b : Int)))) / 2) = (((a + b) / 2 : Nat) : Int) := by
 rw [w64 (x := (a : Int) + b) (by omega) (by omega), wu64 (by omega) (by omega), w64 (by omega) (by omega)]
 omega
theorem search_l0 {m lo : Int} {l : List Int} (hr : Rm m lo l = true) (hl : l.length ≤ 17592186044416) (x : Int) : ∀ (d i j : Nat), j - i ≤ d → i ≤ j → j ≤ l.length → (∀ k (hk : k < l.length), k < i → l[k] < x) → (∀ k (hk : k < l.length), j ≤ k → x ≤ l[k]) →
    ∃ p, Ev (fun k => slices_BinarySearch_int_int.l0 k l x (l.length : Int) (i : Int) (j : Int)) (p, decide (x ∈ l)) := by
  intro d
  induction d with
  | zero =>
    intro i j hd hij hj h1 h2
    obtain rfl : i = j := by omega
    by_cases hil : i < l.length
    · have hrd := rd_nat l i hil
      by_cases he : l[i] = x
      · refine ⟨(i : Int), ?_⟩
        apply Ev.succ
        simp only [slices_BinarySearch_int_int.l0]
        rw [hrd, decide_eq_true (he ▸ List.getElem_mem hil)]
        exact Ev.if_f (by omega) (Ev.if_t (by omega) (Ev.if_t (by omega) (Ev.if_t (by omega) (Ev.if_t he (Ev.now _)))))
      · refine ⟨(i : Int), ?_⟩
        apply Ev.succ
        simp only [slices_BinarySearch_int_int.l0]
        have hn : x ∉ l := by
          intro hx
          obtain ⟨k, hk, e⟩ := List.getElem_of_mem hx
          rcases Nat.lt_trichotomy k i with h | h | h
          · have := h1 k hk h; omega
          · subst h; exact he e
          · have h3 := rm_get hr h hk
            have h4 := h2 i hil (Nat.le_refl _)
            omega
        rw [hrd, decide_eq_false hn]
        unfold slices_isNaN_int.f
        refine Ev.if_f (by omega) (Ev.if_t (by omega) (Ev.if_t (by omega) (Ev.if_t (by omega) (Ev.if_f he (Ev.obind rfl (Ev.if_f (by simp) (Ev.now _)))))))
    · refine ⟨(i : Int), ?_⟩
      apply Ev.succ
      simp only [slices_BinarySearch_int_int.l0]
      have hn : x ∉ l := by
        intro hx
        obtain ⟨k, hk, e⟩ := List.getElem_of_mem hx
        have := h1 k hk (by omega)
        omega
      rw [decide_eq_false hn]
      exact Ev.if_f (by omega) (Ev.if_f (by omega) (Ev.now _))
  | succ d ih =>
    intro i j hd hij hj h1 h2
    by_cases he : i = j
    · exact (ih i j (by omega) hij hj h1 h2)
    · have hm : (i + j) / 2 < l.length := by omega
      have hrd := rd_nat l ((i + j) / 2) hm
      by_cases hx : l[(i + j) / 2] < x
      · obtain ⟨p, hp⟩ := ih ((i + j) / 2 + 1) j (by omega) (by omega) hj (fun k hk hki => by
          rcases Nat.lt_or_eq_of_le (show k ≤ (i + j) / 2 by omega) with h | h
          · have := rm_get hr h hm; omega
          · subst h; exact hx) h2
        refine ⟨p, ?_⟩
        apply Ev.succ
        simp only [slices_BinarySearch_int_int.l0]
        rw [mid i j (by omega), hrd, less_f, decide_eq_true hx, inc _ (by omega)]
        exact Ev.if_t (by omega) (Ev.if_t (by omega) (Ev.if_t (by omega) (Ev.obind rfl (Ev.if_t rfl hp))))
      · obtain ⟨p, hp⟩ := ih i ((i + j) / 2) (by omega) (by omega) (by omega) h1 (fun k hk hki => by
          rcases Nat.lt_or_eq_of_le hki with h | h
          · have := rm_get hr h hk; omega
          · subst h; omega)
        refine ⟨p, ?_⟩
        apply Ev.succ
        simp only [slices_BinarySearch_int_int.l0]
        rw [mid i j (by omega), hrd, less_f, decide_eq_false hx]
        exact Ev.if_t (by omega) (Ev.if_t (by omega) (Ev.if_t (by omega) (Ev.obind rfl (Ev.if_f (by decide) hp))))
theorem search_ev {m lo : Int} {l : List Int} (hr : Rm m lo l = true) (hl : l.length ≤ 17592186044416) (x : Int) : ∃ p, Ev (fun k => slices_BinarySearch_int_int.f k l x) (p, decide (x ∈ l)) := by
 unfold slices_BinarySearch_int_int.f
 exact search_l0 hr hl x l.length 0 l.length (by omega) (by omega) (by omega) (fun k hk h => by omega) (fun k hk h => by omega)
def atOf : List S35 → Int → List Int
 | [], _ => []
 | p :: t, d => if p.f0 = d then p.f1 else atOf t d
def sieve (c : Int → Int → Bool) (p : S35) : S35 := ⟨p.f0, p.f1.filter (c p.f0)⟩
def keep (c : Int → Int → Bool) (l : List S35) : List S35 := (l.map (sieve c)).filter (fun p => decide (p.f1 ≠ []))
theorem keep_nil (c : Int → Int → Bool) : keep c [] = [] := rfl
theorem keep_cons (c : Int → Int → Bool) (p : S35) (l : List S35) : keep c (p :: l) = (if p.f1.filter (c p.f0) = [] then [] else [sieve c p]) ++ keep c l := by
 unfold keep
 rw [List.map_cons, List.filter_cons]
 by_cases h : p.f1.filter (c p.f0) = []
 ·simp [sieve, h]
 ·simp [sieve, h]
theorem keep_congr {c d : Int → Int → Bool} : ∀ {l : List S35}, (∀ p ∈ l, ∀ a ∈ p.f1, c p.f0 a = d p.f0 a) → keep c l = keep d l
 | [], _ => rfl
 | p :: l, h => by
  have e : p.f1.filter (c p.f0) = p.f1.filter (d p.f0) := List.filter_congr (h p List.mem_cons_self)
  rw [keep_cons, keep_cons, keep_congr fun q hq => h q (List.mem_cons_of_mem _ hq), sieve, sieve, e]
theorem keep_keep (c d : Int → Int → Bool) : ∀ l : List S35, keep d (keep c l) = keep (fun x a => c x a && d x a) l
 | [] => rfl
 | p :: l => by
  have e : p.f1.filter (fun a => c p.f0 a && d p.f0 a) = (p.f1.filter (c p.f0)).filter (d p.f0) := by
   rw [List.filter_filter]
   exact List.filter_congr fun a _ => Bool.and_comm _ _
  rw [keep_cons c, keep_cons (fun x a => c x a && d x a)]
  by_cases h : p.f1.filter (c p.f0) = []
  ·rw [if_pos h, List.nil_append, keep_keep c d l, e, h, List.filter_nil, if_pos rfl, List.nil_append]
  ·rw [if_neg h, List.singleton_append, keep_cons, keep_keep c d l]
   show (if (p.f1.filter (c p.f0)).filter (d p.f0) = [] then [] else _) ++ _ = _
   rw [e]
   simp only [sieve, e]
theorem keep_all : ∀ {l : List S35}, (∀ p ∈ l, p.f1 ≠ []) → keep (fun _ _ => true) l = l
 | [], _ => rfl
 | p :: l, h => by
  have e : p.f1.filter (fun _ => true) = p.f1 := List.filter_eq_self.2 fun _ _ => rfl
  rw [keep_cons, e, if_neg (h p List.mem_cons_self), keep_all fun q hq => h q (List.mem_cons_of_mem _ hq), sieve, e]
  rfl
theorem keep_formed (c : Int → Int → Bool) : ∀ {l : List S35} {lo : Int}, formedGo lo l = true → formedGo lo (keep c l) = true
 | [], _, _ => rfl
 | p :: l, lo, h => by
  rw [formed_cons] at h
  have ih := keep_formed c h.2.2.2
  rw [keep_cons]
  by_cases e : p.f1.filter (c p.f0) = []
  ·rw [if_pos e]
   exact formed_weak ih (by omega)
  ·rw [if_neg e]
   exact formed_cons.2 ⟨h.1, h.2.1, okPost_iff.2 ⟨e, rm_filter _ (okPost_iff.1 h.2.2.1).2⟩, ih⟩
theorem keep_few (c : Int → Int → Bool) {n : Nat} : ∀ {l : List S35}, (∀ p ∈ l, p.f1.length ≤ n) → (∀ p ∈ keep c l, p.f1.length ≤ n) ∧ (keep c l).length ≤ l.length
 | [], _ => ⟨fun _ h => (by cases h), Nat.le_refl _⟩
 | p :: l, h => by
  have ih := keep_few c (l := l) fun q hq => h q (List.mem_cons_of_mem _ hq)
  rw [keep_cons]
  by_cases e : p.f1.filter (c p.f0) = []
  ·rw [if_pos e, List.nil_append]
   exact ⟨ih.1, by rw [List.length_cons]; omega⟩
  ·rw [if_neg e]
   refine ⟨fun q hq => ?_, by simp <;> omega⟩
   rcases List.mem_cons.1 hq with rfl | hq
   ·exact Nat.le_trans (List.length_filter_le _ _) (h p List.mem_cons_self)
   ·exact ih.1 q hq
theorem at_none {l : List S35} {lo d : Int} (h : formedGo lo l = true) (hd : d ≤ lo) : atOf l d = [] := by
 induction l generalizing lo with
 | nil => rfl
 | cons p l ih =>
  rw [formed_cons] at h
  rw [atOf, if_neg (by omega)]
  exact ih h.2.2.2 (by omega)
def cOf (other : List S35) (by_ : Int) : Int → Int → Bool := fun d a => decide (a + by_ ∈ atOf other d)
def dropLt (d : Int) : List S35 → List S35
 | [] => []
 | p :: t => if p.f0 < d then dropLt d t else p :: t
theorem dropLt_at {d e : Int} (h : d ≤ e) : ∀ l : List S35, atOf (dropLt d l) e = atOf l e
 | [] => rfl
 | p :: t => by
  rw [dropLt]
  split
  ·rw [dropLt_at h t, atOf, if_neg (by omega)]
  ·rfl
theorem dropLt_formed {d : Int} : ∀ {l : List S35} {lo : Int}, formedGo lo l = true → formedGo lo (dropLt d l) = true
 | [], _, _ => rfl
 | p :: t, lo, h => by
  rw [dropLt]
  split
  ·rw [formed_cons] at h
   exact dropLt_formed (formed_weak h.2.2.2 (by omega))
  ·exact h
theorem dropLt_head {d : Int} : ∀ {l : List S35} {p : S35} {t : List S35}, dropLt d l = p :: t → d ≤ p.f0
 | q :: l, p, t, h => by
  rw [dropLt] at h
  split at h
  ·exact dropLt_head h
  ·have e := (List.cons.inj h).1
   rw [← e]
   omega
theorem behind_l1 {by_ : Int} {l out : List S35} {n i d : Int} {pl : List Int} {R : List S35} : ∀ (other : List S35), Ev (fun k => join_behind.j2 k (dropLt d other) by_ out l n i d pl) R → Ev (fun k => join_behind.l1 k other by_ out l n i d pl) R
 | [], h => by
  apply Ev.succ
  simp only [join_behind.l1]
  exact Ev.if_f (by simp) h
 | q :: t, h => by
  have e : rd_T35 (q :: t) 0 = q := rfl
  apply Ev.succ
  simp only [join_behind.l1]
  rw [e]
  refine Ev.if_t (by simp <;> omega) (Ev.if_t (by simp <;> omega) ?_)
  by_cases hq : q.f0 < d
  ·rw [dropLt, if_pos hq] at h
   exact Ev.if_t hq (Ev.if_t (by simp <;> omega) (behind_l1 t h))
  ·rw [dropLt, if_neg hq] at h
   exact Ev.if_f hq h
theorem behind_l2 {by_ : Int} {l out : List S35} {n : Int} {i : Int} {q : S35} {t : List S35} {d : Int} {pl : List Int} (hq : okPost q = true) (hqn : q.f1.length ≤ 17592186044416) (hpl : pl.length ≤ 1000000) (hp : ∀ a ∈ pl, -1 < a ∧ a ≤ 2147483647) (hb : 0 ≤ by_ ∧ by_ ≤ 1000000) (ho : out.length ≤ 1000000) {R : List S35}
  (h : Ev (fun k => join_behind.l0 k (q :: t) by_ (out ++ (if pl.filter (fun a => decide (a + by_ ∈ q.f1)) = [] then [] else [⟨d, pl.filter (fun a => decide (a + by_ ∈ q.f1))⟩])) l n (wrap64 (i + 1))) R) :
  ∀ (e j : Nat) (acc : List Int), j + e = pl.length → acc = (pl.take j).filter (fun a => decide (a + by_ ∈ q.f1)) → Ev (fun k => join_behind.l2 k (q :: t) by_ out acc l n i pl (pl.length : Int) (j : Int) d pl) R
 | 0, j, acc, hj, hacc => by
  rw [List.take_of_length_le (by omega)] at hacc
  rw [← hacc] at h
  apply Ev.succ
  simp only [join_behind.l2]
  refine Ev.if_f (by omega) ?_
  by_cases he : acc = []
  ·rw [if_pos he, List.append_nil] at h
   exact Ev.if_f (by rw [he]; simp) h
  ·rw [if_neg he] at h
   have : 0 < acc.length := List.length_pos_iff.2 he
   exact Ev.if_t (by omega) (Ev.if_t (by omega) h)
 | e + 1, j, acc, hj, hacc => by
  have hlt : j < pl.length := by omega
  have hrd := rd_nat pl j hlt
  have ha := hp _ (List.getElem_mem hlt)
  have eq0 : rd_T35 (q :: t) 0 = q := rfl
  have hw : wrap64 (pl[j] + by_) = pl[j] + by_ := w64 (by omega) (by omega)
  obtain ⟨p, hs⟩ := search_ev (okPost_iff.1 hq).2 hqn (pl[j] + by_)
  have hal : acc.length ≤ pl.length := by rw [hacc]; exact Nat.le_trans (List.length_filter_le _ _) (by rw [List.length_take]; omega)
  have ih := fun a => behind_l2 hq hqn hpl hp hb ho h e (j + 1) a (by omega)
  apply Ev.succ
  simp only [join_behind.l2]
  rw [hrd, eq0, hw, inc j (by omega)]
  refine Ev.if_t (by omega) (Ev.if_t (by omega) (Ev.if_t (by omega) (Ev.if_t (by simp <;> omega) (Ev.bind hs ?_))))
  by_cases hm : pl[j] + by_ ∈ q.f1
  ·rw [decide_eq_true hm]
   refine Ev.if_t rfl (Ev.if_t (by omega) (ih _ ?_))
   rw [List.take_succ_eq_append_getElem hlt, List.filter_append, ← hacc]
   simp [hm]
  ·rw [decide_eq_false hm]
   refine Ev.if_f (by simp) (ih _ ?_)
   rw [List.take_succ_eq_append_getElem hlt, List.filter_append, ← hacc]
   simp [hm]
theorem filter_false {c : Int → Bool} {l : List Int} (h : ∀ a ∈ l, c a = false) : l.filter c = [] := by
 rw [List.filter_eq_nil_iff]
 exact fun a ha => by rw [h a ha]; decide
theorem behind_l0 {by_ : Int} (hb : 0 ≤ by_ ∧ by_ ≤ 1000000) (l : List S35) (hl : l.length ≤ 1000000) (hpn : ∀ p ∈ l, p.f1.length ≤ 1000000) : ∀ (e i : Nat) (other out : List S35) (lo lo2 : Int), i + e = l.length → formedGo lo (l.drop i) = true → formedGo lo2 other = true → (∀ q ∈ other, q.f1.length ≤ 1000000) → out.length ≤ i →
  Ev (fun k => join_behind.l0 k other by_ out l (l.length : Int) (i : Int)) (out ++ keep (cOf other by_) (l.drop i))
 | 0, i, other, out, lo, lo2, hi, _, _, _, _ => by
  rw [List.drop_eq_nil_of_le (by omega), keep_nil, List.append_nil]
  apply Ev.succ
  simp only [join_behind.l0]
  exact Ev.if_f (by omega) (Ev.now _)
 | e + 1, i, other, out, lo, lo2, hi, hf, ho, hoq, hol => by
  have hlt : i < l.length := by omega
  rw [dropP hlt] at hf ⊢
  rw [formed_cons] at hf
  have hok := okPost_iff.1 hf.2.2.1
  have hpl := hpn _ (List.getElem_mem hlt)
  have hfo := dropLt_formed (d := l[i].f0) ho
  have hoq2 : ∀ q ∈ dropLt l[i].f0 other, q.f1.length ≤ 1000000 := by
   have : ∀ (L : List S35) (d : Int), ∀ q ∈ dropLt d L, q ∈ L := by
    intro L d
    induction L with
    | nil => intro q h; cases h
    | cons x L ih =>
     intro q h
     rw [dropLt] at h
     split at h
     ·exact List.mem_cons_of_mem _ (ih q h)
     ·exact h
   exact fun q h => hoq q (this _ _ q h)
  have hrest : keep (cOf other by_) (l.drop (i + 1)) = keep (cOf (dropLt l[i].f0 other) by_) (l.drop (i + 1)) :=
   keep_congr fun p hp a _ => by
    have := formed_gt hf.2.2.2 p hp
    unfold cOf
    rw [dropLt_at (by omega)]
  have hhead : ∀ a, cOf other by_ l[i].f0 a = decide (a + by_ ∈ atOf (dropLt l[i].f0 other) l[i].f0) := fun a => by
   unfold cOf
   rw [dropLt_at (Int.le_refl _)]
  have hfil : l[i].f1.filter (cOf other by_ l[i].f0) = l[i].f1.filter (fun a => decide (a + by_ ∈ atOf (dropLt l[i].f0 other) l[i].f0)) := List.filter_congr fun a _ => hhead a
  rw [keep_cons, sieve, hfil, hrest]
  apply Ev.succ
  simp only [join_behind.l0]
  rw [rdP l i hlt]
  refine Ev.if_t (by omega) (Ev.if_t (by omega) (Ev.if_t (by omega) (behind_l1 other ?_)))
  have hhd := @dropLt_head l[i].f0 other
  revert hfo hoq2 hhd
  generalize dropLt l[i].f0 other = o2
  intro hfo hoq2 hhd
  apply Ev.succ
  simp only [join_behind.j2]
  cases o2 with
  | nil =>
   have hn : ∀ L : List S35, keep (cOf [] by_) L = [] := by
    intro L
    induction L with
    | nil => rfl
    | cons p L ih =>
     rw [keep_cons, filter_false (fun a _ => by simp [cOf, atOf]), if_pos rfl, ih]
     rfl
   rw [filter_false (fun a _ => by simp [atOf]), if_pos rfl, hn, List.append_nil, List.append_nil]
   exact Ev.if_t (by simp) (Ev.now _)
  | cons q t =>
   have hqd := hhd rfl
   have eq0 : rd_T35 (q :: t) 0 = q := rfl
   rw [formed_cons] at hfo
   rw [eq0]
   refine Ev.if_f (by simp <;> omega) (Ev.if_t (by simp <;> omega) ?_)
   by_cases hq : q.f0 > l[i].f0
   ·have hat : atOf (q :: t) l[i].f0 = [] := by
     rw [atOf, if_neg (by omega)]
     exact at_none hfo.2.2.2 (by omega)
    rw [hat, filter_false (fun a _ => by simp), if_pos rfl, List.nil_append, inc i (by omega)]
    exact Ev.if_t hq (behind_l0 hb l hl hpn e (i + 1) (q :: t) out l[i].f0 lo2 (by omega) hf.2.2.2 (formed_cons.2 hfo) hoq2 (by omega))
   ·have hat : atOf (q :: t) l[i].f0 = q.f1 := by rw [atOf, if_pos (by omega)]
    rw [hat]
    refine Ev.if_f hq (behind_l2 hfo.2.2.1 (by have := hoq2 q List.mem_cons_self; omega) hpl (rm_gt hok.2) hb (by omega) ?_ l[i].f1.length 0 [] (by omega) (by simp))
    rw [← List.append_assoc, inc i (by omega)]
    exact behind_l0 hb l hl hpn e (i + 1) (q :: t) _ l[i].f0 lo2 (by omega) hf.2.2.2 (formed_cons.2 hfo) hoq2 (by split <;> simp <;> omega)
theorem behind_ev {by_ : Int} (hb : 0 ≤ by_ ∧ by_ ≤ 1000000) {l other : List S35} (hl : l.length ≤ 1000000) (hpn : ∀ p ∈ l, p.f1.length ≤ 1000000) (hf : formedOf l = true) (ho : formedOf other = true) (hoq : ∀ q ∈ other, q.f1.length ≤ 1000000) :
  Ev (fun k => join_behind.f k l other by_) (keep (cOf other by_) l) := by
 unfold join_behind.f
 have := behind_l0 hb l hl hpn l.length 0 other [] (-1) (-1) (by omega) (by simpa using hf) ho hoq (by simp)
 simpa using this
def allIn (d a : Int) : Nat → List (List S35) → Bool
 | _, [] => true
 | k, l :: t => decide (a + (k : Int) ∈ atOf l d) && allIn d a (k + 1) t
def phraseOf (lists : List (List S35)) : List S35 := match lists with
 | [] => []
 | l :: t => keep (fun d a => allIn d a 1 t) l
def Small (lists : List (List S35)) : Prop := lists.length ≤ 100000 ∧ ∀ l ∈ lists, l.length ≤ 100000 ∧ ∀ p ∈ l, p.f1.length ≤ 100000
theorem rdL (x : List (List S35)) (i : Nat) (h : i < x.length) : rd_L3 x (i : Int) = x[i] := by
 simp [rd_L3, h]
theorem phrase_l1 : ∀ (e i : Nat) (found : List S35) (x : List (List S35)), Small x → i + e = x.length → formedOf found = true → found.length ≤ 100000 → (∀ p ∈ found, p.f1.length ≤ 100000) → (∀ l ∈ x, formedOf l = true) →
  Ev (fun k => join_Phrase.l1 k found x (x.length : Int) (i : Int)) (keep (fun d a => allIn d a (i + 1) (x.drop i)) found, 0)
 | 0, i, found, x, hs, hi, hf, hfl, hfp, hx => by
  rw [List.drop_eq_nil_of_le (by omega)]
  have : keep (fun d a => allIn d a (i + 1) []) found = found := keep_all fun p hp => (okPost_iff.1 (formed_gt hf p hp).2.2).1
  rw [this]
  apply Ev.succ
  simp only [join_Phrase.l1]
  exact Ev.if_f (by omega) (Ev.now _)
 | e + 1, i, found, x, hs, hi, hf, hfl, hfp, hx => by
  have hlt : i < x.length := by omega
  have hxi := hs.2 _ (List.getElem_mem hlt)
  have hb := behind_ev (by_ := ((i + 1 : Nat) : Int)) ⟨by omega, by have := hs.1; omega⟩ (l := found) (other := x[i]) (by omega) (fun p hp => by have := hfp p hp; omega) hf (hx _ (List.getElem_mem hlt)) (fun q hq => by have := hxi.2 q hq; omega)
  have hk := keep_few (cOf x[i] ((i + 1 : Nat) : Int)) hfp
  have ih := phrase_l1 e (i + 1) (keep (cOf x[i] ((i + 1 : Nat) : Int)) found) x hs (by omega) (keep_formed _ hf) (by omega) hk.1 hx
  rw [keep_keep] at ih
  rw [List.drop_eq_getElem_cons hlt]
  apply Ev.succ
  simp only [join_Phrase.l1]
  rw [rdL x i hlt, inc i (by have := hs.1; omega)]
  exact Ev.if_t (by omega) (Ev.if_t (by omega) (Ev.if_t (by omega) (Ev.bind hb ih)))
theorem phrase_l0 (x : List (List S35)) (l : List S35) (t : List (List S35)) (hx : x = l :: t) (hs : Small x) (hf : ∀ m ∈ x, formedOf m = true) : ∀ (e i : Nat) (out : List S35), i + e = l.length → out = l.take i →
  Ev (fun k => join_Phrase.l0 k x out l (l.length : Int) (i : Int)) (phraseOf x, 0)
 | 0, i, out, hi, ho => by
  rw [List.take_of_length_le (by omega)] at ho
  subst ho; subst hx
  have hl := hs.2 out List.mem_cons_self
  have := phrase_l1 t.length 0 out t ⟨by have := hs.1; simp at this; omega, fun m hm => hs.2 m (List.mem_cons_of_mem _ hm)⟩ (by omega) (hf _ List.mem_cons_self) hl.1 hl.2 (fun m hm => hf m (List.mem_cons_of_mem _ hm))
  apply Ev.succ
  simp only [join_Phrase.l0]
  refine Ev.if_f (by omega) (Ev.if_t (by simp <;> omega) (Ev.obind rfl ?_))
  simpa [phraseOf] using this
 | e + 1, i, out, hi, ho => by
  have hlt : i < l.length := by omega
  have hl := hs.2 l (by rw [hx]; exact List.mem_cons_self)
  have hp := hl.2 _ (List.getElem_mem hlt)
  have hc : slices_Clone_int_int.f l[i].f1 = some l[i].f1 := by unfold slices_Clone_int_int.f; rw [if_pos (by omega)]
  apply Ev.succ
  simp only [join_Phrase.l0]
  rw [rdP l i hlt, inc i (by omega)]
  refine Ev.if_t (by omega) (Ev.if_t (by omega) (Ev.if_t (by omega) (Ev.obind hc (Ev.if_t (by rw [ho, List.length_take]; omega) (phrase_l0 x l t hx hs hf e (i + 1) _ (by omega) ?_)))))
  rw [List.take_succ_eq_append_getElem hlt, ho]
theorem any_l0 (x : List (List S35)) (hs : Small x) : ∀ (e i : Nat), i + e = x.length → ∃ r : Int, Ev (fun k => api_Post_34.l0 k x (x.length : Int) (i : Int)) r ∧ decide (r ≥ 0) = !((x.drop i).all formedOf)
 | 0, i, hi => by
  refine ⟨-1, ?_, by rw [List.drop_eq_nil_of_le (by omega)]; rfl⟩
  apply Ev.succ
  simp only [api_Post_34.l0]
  exact Ev.if_f (by omega) (Ev.now _)
 | e + 1, i, hi => by
  have hlt : i < x.length := by omega
  have hxi := hs.2 _ (List.getElem_mem hlt)
  have h1 : Ev (fun k => join_Phrase_1.f k x[i]) (!formedOf x[i]) := by
   unfold join_Phrase_1.f
   exact Ev.bind (formed_ev x[i] (by omega) (fun p hp => by have := hxi.2 p hp; omega)) (Ev.now _)
  obtain ⟨r, hr, hd⟩ := any_l0 x hs e (i + 1) (by omega)
  rw [List.drop_eq_getElem_cons hlt, List.all_cons]
  cases hfx : formedOf x[i] with
  | true =>
   rw [hfx] at h1
   refine ⟨r, ?_, by rw [hd]; rfl⟩
   apply Ev.succ
   simp only [api_Post_34.l0]
   rw [rdL x i hlt, inc i (by have := hs.1; omega)]
   exact Ev.if_t (by omega) (Ev.if_t (by omega) (Ev.if_t (by omega) (Ev.bind h1 (Ev.if_f (by decide) hr))))
  | false =>
   rw [hfx] at h1
   refine ⟨(i : Int), ?_, by simp⟩
   apply Ev.succ
   simp only [api_Post_34.l0]
   rw [rdL x i hlt]
   exact Ev.if_t (by omega) (Ev.if_t (by omega) (Ev.if_t (by omega) (Ev.bind h1 (Ev.if_t rfl (Ev.now _)))))
def fitOf (x : List (List S35)) : Bool := decide (x ≠ []) && x.all formedOf
theorem phrase_ev {x : List (List S35)} (hs : Small x) : Ev (fun k => join_Phrase.f k x) (if fitOf x then (phraseOf x, 0) else ([], 1)) := by
 have bad : Ev (fun k => join_Phrase.j0 k x true) (([] : List S35), (1 : Int)) := by
  apply Ev.succ
  simp only [join_Phrase.j0]
  exact Ev.if_t trivial (Ev.now _)
 unfold join_Phrase.f
 cases x with
 | nil => exact Ev.if_t rfl bad
 | cons l t =>
  obtain ⟨r, hr, hd⟩ := any_l0 (l :: t) hs (l :: t).length 0 (by omega)
  rw [List.drop_zero] at hd
  have h2 : Ev (fun k => api_Post_25.f k (l :: t) ()) (!((l :: t).all formedOf)) := by
   unfold api_Post_25.f api_Post_34.f
   refine Ev.bind hr ?_
   rw [hd]
   exact Ev.now _
  refine Ev.if_f (by simp <;> omega) (Ev.bind h2 ?_)
  have hfit : fitOf (l :: t) = (l :: t).all formedOf := by simp [fitOf]
  rw [hfit]
  cases ha : (l :: t).all formedOf with
  | false => exact bad
  | true =>
   rw [if_pos rfl]
   apply Ev.succ
   simp only [join_Phrase.j0]
   have e0 : rd_L3 (l :: t) 0 = l := rfl
   rw [e0]
   exact Ev.if_f (by decide) (Ev.if_t (by simp <;> omega) (phrase_l0 (l :: t) l t rfl hs (List.all_eq_true.1 ha) l.length 0 [] (by omega) (by simp)))
end Go.Proofs.YtebkapoabbfmeaaQ
end
section
namespace Go.Proofs.YtebkapoabbfmeaaQ
set_option linter.unusedVariables false
open Go.RowKit Go.Proofs.YtebkapoabbfmeaaW.PrintWords Go.Proofs.YtebkapoabbfmeaaW.PrintMore Go.Proofs.YtebkapoabbfmeaaW.PrintLast Go.Proofs.Ytebkapoabbfmeaa.P
theorem in_l0 (l : List Int) (hl : l.length ≤ 17592186044416) (x : Int) : ∀ (d i : Nat), i + d = l.length → Ev (fun k => dragnetref14_In.l0 k l x (i : Int)) (decide (x ∈ l.drop i))
 | 0, i, hi => by
  rw [List.drop_eq_nil_of_le (by omega)]
  apply Ev.succ
  simp only [dragnetref14_In.l0]
  exact Ev.if_f (by omega) (Ev.now _)
 | d + 1, i, hi => by
  have hlt : i < l.length := by omega
  have ih := in_l0 l hl x d (i + 1) (by omega)
  rw [drop_rd hlt]
  apply Ev.succ
  simp only [dragnetref14_In.l0]
  rw [inc i (by omega)]
  refine Ev.if_t (by omega) (Ev.if_t (by omega) ?_)
  by_cases he : rd l (i : Int) = x
  ·refine Ev.if_t he ?_
   rw [he, decide_eq_true List.mem_cons_self]
   exact Ev.now _
  ·refine Ev.if_f he ?_
   have : (x ∈ rd l (i : Int) :: l.drop (i + 1)) = (x ∈ l.drop (i + 1)) := by
    rw [List.mem_cons]
    exact propext ⟨fun h => h.elim (fun e => absurd e.symm he) id, .inr⟩
   simp only [this]
   exact ih
theorem in_ev (l : List Int) (hl : l.length ≤ 17592186044416) (x : Int) : Ev (fun k => dragnetref14_In.f k l x) (decide (x ∈ l)) := by
 unfold dragnetref14_In.f
 have := in_l0 l hl x l.length 0 (by omega)
 simpa using this
def greatP : Int → List S35 → Int
 | n, [] => n
 | n, p :: t => if n ≤ 300 then greatP (n + mn (p.f1.length : Int) 1000) t else n
def greatGo : Int → List (List S35) → Bool
 | n, [] => decide (n > 300)
 | n, l :: t => if n ≤ 300 then greatGo (greatP (n + mn (l.length : Int) 1000) l) t else true
theorem mn1000 (a : Nat) : 0 ≤ mn (a : Int) 1000 ∧ mn (a : Int) 1000 ≤ 1000 ∧ (mn (a : Int) 1000 ≤ 300 → a ≤ 300) := by
 unfold mn
 split <;> omega
theorem greatP_range : ∀ (l : List S35) (n : Int), 0 ≤ n → n ≤ 1300 → n ≤ greatP n l ∧ greatP n l ≤ 1300
 | [], n, _, _ => by simp [greatP]; omega
 | p :: t, n, h0, h1 => by
  rw [greatP]
  split
  ·have hr := mn1000 p.f1.length
   have := greatP_range t _ (by omega) (show n + mn (p.f1.length : Int) 1000 ≤ 1300 by omega)
   omega
  ·omega
theorem greatP_few : ∀ (l : List S35) (n : Int), 0 ≤ n → n ≤ 1300 → greatP n l ≤ 300 → ∀ p ∈ l, p.f1.length ≤ 300
 | [], _, _, _, _ => fun _ h => by cases h
 | p :: t, n, h0, h1, h => by
  have hr := mn1000 p.f1.length
  rw [greatP] at h
  split at h
  ·have hb := greatP_range t _ (by omega) (show n + mn (p.f1.length : Int) 1000 ≤ 1300 by omega)
   have ih := greatP_few t _ (by omega) (by omega) h
   intro q hq
   rcases List.mem_cons.1 hq with rfl | hq
   ·exact hr.2.2 (by omega)
   ·exact ih q hq
  ·omega
theorem greatGo_few : ∀ (x : List (List S35)) (n : Int), 0 ≤ n → greatGo n x = false → n ≤ 300 ∧ ∀ l ∈ x, l.length ≤ 300 ∧ ∀ p ∈ l, p.f1.length ≤ 300
 | [], n, _, h => by simp [greatGo] at h; exact ⟨h, fun _ h => by cases h⟩
 | l :: t, n, h0, h => by
  have hr := mn1000 l.length
  rw [greatGo] at h
  split at h
  ·have hb := greatP_range l (n + mn (l.length : Int) 1000) (by omega) (by omega)
   obtain ⟨h1, h2⟩ := greatGo_few t _ (by omega) h
   refine ⟨by assumption, fun m hm => ?_⟩
   rcases List.mem_cons.1 hm with rfl | hm
   ·exact ⟨hr.2.2 (by omega), greatP_few m _ (by omega) (by omega) h1⟩
   ·exact h2 m hm
  ·cases h
theorem great_l1 (x : List (List S35)) (hx : x.length ≤ 17592186044416) (i : Nat) (hi : i < x.length) (hl : x[i].length ≤ 17592186044416) {R : Bool} : ∀ (e j : Nat) (n : Int), j + e = x[i].length → 0 ≤ n → n ≤ 1300 →
  Ev (fun k => dragnetlaw14_great.l0 k x (greatP n (x[i].drop j)) (wrap64 ((i : Int) + 1))) R → Ev (fun k => dragnetlaw14_great.l1 k x n (i : Int) (j : Int)) R
 | 0, j, n, hj, h0, h1, h => by
  rw [List.drop_eq_nil_of_le (by omega), greatP] at h
  apply Ev.succ
  simp only [dragnetlaw14_great.l1]
  rw [rdL x i hi]
  exact Ev.if_t (by omega) (Ev.if_t (by omega) (Ev.if_f (by omega) h))
 | e + 1, j, n, hj, h0, h1, h => by
  have hlt : j < x[i].length := by omega
  have hr := mn1000 x[i][j].f1.length
  rw [dropP hlt, greatP] at h
  apply Ev.succ
  simp only [dragnetlaw14_great.l1]
  rw [rdL x i hi, rdP _ j hlt, inc j (by omega)]
  refine Ev.if_t (by omega) (Ev.if_t (by omega) (Ev.if_t (by omega) ?_))
  by_cases hn : n ≤ 300
  ·rw [if_pos hn] at h
   rw [w64 (x := n + mn (x[i][j].f1.length : Int) 1000) (by omega) (by omega)]
   exact Ev.if_t hn (Ev.if_t (by omega) (great_l1 x hx i hi hl e (j + 1) _ (by omega) (by omega) (by omega) h))
  ·rw [if_neg hn] at h
   exact Ev.if_f hn h
theorem greatP_over (l : List S35) {n : Int} (h : 300 < n) : greatP n l = n := by
 cases l with
 | nil => rfl
 | cons p t => rw [greatP, if_neg (by omega)]
theorem great_l1' (x : List (List S35)) (hx : x.length ≤ 17592186044416) (i : Nat) (hi : i < x.length) {R : Bool} (n : Int) (h0 : 0 ≤ n) (h1 : n ≤ 300)
  (h : Ev (fun k => dragnetlaw14_great.l0 k x (greatP (n + mn (x[i].length : Int) 1000) x[i]) (wrap64 ((i : Int) + 1))) R) : Ev (fun k => dragnetlaw14_great.l1 k x (n + mn (x[i].length : Int) 1000) (i : Int) 0) R := by
 have hr := mn1000 x[i].length
 by_cases hl : x[i].length ≤ 17592186044416
 ·have := great_l1 x hx i hi hl (R := R) x[i].length 0 (n + mn (x[i].length : Int) 1000) (by omega) (by omega) (by omega) (by rw [List.drop_zero]; exact h)
  exact this
 ·have hm : mn (x[i].length : Int) 1000 = 1000 := by unfold mn; split <;> omega
  rw [hm] at h ⊢
  rw [greatP_over _ (by omega)] at h
  apply Ev.succ
  simp only [dragnetlaw14_great.l1]
  rw [rdL x i hi]
  exact Ev.if_t (by omega) (Ev.if_t (by omega) (Ev.if_t (by omega) (Ev.if_f (by omega) h)))
theorem great_l0 (x : List (List S35)) (hx : x.length ≤ 17592186044416) : ∀ (e i : Nat) (n : Int), i + e = x.length → 0 ≤ n → n ≤ 17592186044416 →
  Ev (fun k => dragnetlaw14_great.l0 k x n (i : Int)) (greatGo n (x.drop i))
 | 0, i, n, hi, h0, h1 => by
  rw [List.drop_eq_nil_of_le (by omega), greatGo]
  apply Ev.succ
  simp only [dragnetlaw14_great.l0]
  refine Ev.if_f (by omega) ?_
  apply Ev.succ
  simp only [dragnetlaw14_great.j1]
  exact Ev.if_f (by decide) (Ev.now _)
 | e + 1, i, n, hi, h0, h1 => by
  have hlt : i < x.length := by omega
  have hr := mn1000 x[i].length
  rw [List.drop_eq_getElem_cons hlt, greatGo]
  apply Ev.succ
  simp only [dragnetlaw14_great.l0]
  refine Ev.if_t (by omega) ?_
  apply Ev.succ
  simp only [dragnetlaw14_great.j1]
  rw [rdL x i hlt]
  by_cases hn : n ≤ 300
  ·rw [if_pos hn, decide_eq_true hn, w64 (x := n + mn (x[i].length : Int) 1000) (by omega) (by omega)]
   have hb := greatP_range x[i] (n + mn (x[i].length : Int) 1000) (by omega) (by omega)
   have ih := great_l0 x hx e (i + 1) (greatP (n + mn (x[i].length : Int) 1000) x[i]) (by omega) (by omega) (by omega)
   rw [← inc i (by omega)] at ih
   exact Ev.if_t rfl (Ev.if_t (by omega) (Ev.if_t (by omega) (great_l1' x hx i hlt n h0 hn ih)))
  ·rw [if_neg hn, decide_eq_false hn]
   refine Ev.if_f (by decide) ?_
   rw [decide_eq_true (show n > 300 by omega)]
   exact Ev.now _
theorem great_ev (x : List (List S35)) (hx : x.length ≤ 17592186044416) : Ev (fun k => dragnetlaw14_great.f k x) (greatGo x.length x) := by
 unfold dragnetlaw14_great.f
 have := great_l0 x hx x.length 0 x.length (by omega) (by omega) (by omega)
 simpa using this
theorem small_of_few {x : List (List S35)} (h : greatGo x.length x = false) : Small x := by
 obtain ⟨h1, h2⟩ := greatGo_few x _ (by omega) h
 exact ⟨by omega, fun l hl => ⟨by have := (h2 l hl).1; omega, fun p hp => by have := (h2 l hl).2 p hp; omega⟩⟩
theorem phrase_small {x : List (List S35)} (h : Small x) : (phraseOf x).length ≤ 100000 ∧ ∀ p ∈ phraseOf x, p.f1.length ≤ 100000 := by
 cases x with
 | nil => exact ⟨Nat.zero_le _, fun _ h => by cases h⟩
 | cons l t =>
  have hl := h.2 l List.mem_cons_self
  have := keep_few (fun d a => allIn d a 1 t) hl.2
  exact ⟨by show (keep _ l).length ≤ _; omega, this.1⟩
end Go.Proofs.YtebkapoabbfmeaaQ
end
section
namespace Go.Proofs.Ytebkapoabbfmeaa.Pure
open Go.RowKit Go.Proofs.Ytebkapoabbfmeaa.P Go.Proofs.YtebkapoabbfmeaaW.PrintWords Go.Proofs.YtebkapoabbfmeaaW.PrintLast Go.Proofs.YtebkapoabbfmeaaQ
theorem allIn_left {d a : Int} : ∀ {t s : List (List S35)} {k : Nat}, allIn d a k (t ++ s) = true → allIn d a k t = true
 | [], _, _, _ => rfl
 | l :: t, s, k, h => by
  rw [List.cons_append, allIn, Bool.and_eq_true] at h
  rw [allIn, Bool.and_eq_true]
  exact ⟨h.1, allIn_left h.2⟩
theorem keep_mem {c : Int → Int → Bool} {l : List S35} {p : S35} (h : p ∈ keep c l) : ∃ q ∈ l, p = sieve c q := by
 unfold keep at h
 obtain ⟨q, hq, e⟩ := List.mem_map.1 (List.mem_filter.1 h).1
 exact ⟨q, hq, e.symm⟩
theorem mem_keep {c : Int → Int → Bool} {l : List S35} {q : S35} (hq : q ∈ l) {a : Int} (ha : a ∈ q.f1) (hc : c q.f0 a = true) : sieve c q ∈ keep c l ∧ a ∈ (sieve c q).f1 := by
 have h1 : a ∈ (sieve c q).f1 := List.mem_filter.2 ⟨ha, hc⟩
 refine ⟨List.mem_filter.2 ⟨List.mem_map.2 ⟨q, hq, rfl⟩, ?_⟩, h1⟩
 exact decide_eq_true fun e => by rw [e] at h1; cases h1
theorem longer_l2 (p q : List S35) (hp : p.length ≤ 100000) (hq : q.length ≤ 100000) (hqp : ∀ x ∈ q, x.f1.length ≤ 100000) (i k : Nat) (hi : i < p.length) (hk : k < p[i].f1.length) {R : Bool} (h : Ev (fun n => dragnetlaw14_JoinLonger.l1 n p q (i : Int) (wrap64 ((k : Int) + 1))) R) :
  ∀ (e j : Nat) (b : Bool), j + e = q.length → (b = true ∨ ∃ j0, ∃ hj : j0 < q.length, j ≤ j0 ∧ q[j0].f0 = p[i].f0 ∧ p[i].f1[k] ∈ q[j0].f1) → Ev (fun n => dragnetlaw14_JoinLonger.l2 n p q (i : Int) (k : Int) b (j : Int)) R
 | 0, j, b, hj, hb => by
  have hbt : b = true := hb.elim id fun ⟨j0, h1, h2, _⟩ => by omega
  subst hbt
  apply Ev.succ
  simp only [dragnetlaw14_JoinLonger.l2]
  exact Ev.if_f (by omega) (Ev.if_t (by trivial) h)
 | e + 1, j, b, hj, hb => by
  have hlt : j < q.length := by omega
  have ih := longer_l2 p q hp hq hqp i k hi hk h e (j + 1)
  apply Ev.succ
  simp only [dragnetlaw14_JoinLonger.l2]
  rw [rdP q j hlt, rdP p i hi, rd_nat _ k hk, inc j (by omega)]
  refine Ev.if_t (by omega) ?_
  by_cases hbt : b = true
  ·exact Ev.if_t hbt (ih true (by omega) (.inl rfl))
  ·refine Ev.if_f hbt (Ev.if_t (by omega) (Ev.if_t (by omega) (Ev.if_t (by omega) ?_)))
   obtain ⟨j0, h0, hj0, hd, hm⟩ := hb.resolve_left hbt
   by_cases he : q[j].f0 = p[i].f0
   ·refine Ev.if_t he (Ev.if_t (by omega) (Ev.if_t (by omega) (Ev.bind (in_ev _ (by have := hqp _ (List.getElem_mem hlt); omega) _) ?_)))
    by_cases hmj : p[i].f1[k] ∈ q[j].f1
    ·exact ih _ (by omega) (.inl (decide_eq_true hmj))
    ·refine ih _ (by omega) (.inr ⟨j0, h0, ?_, hd, hm⟩)
     rcases Nat.lt_or_eq_of_le hj0 with h1 | h1
     ·exact h1
     ·subst h1; exact absurd hm hmj
   ·refine Ev.if_f he (ih _ (by omega) (.inr ⟨j0, h0, ?_, hd, hm⟩))
    rcases Nat.lt_or_eq_of_le hj0 with h1 | h1
    ·exact h1
    ·subst h1; exact absurd hd he
def Within (p q : List S35) : Prop := ∀ x ∈ p, ∀ a ∈ x.f1, ∃ y ∈ q, y.f0 = x.f0 ∧ a ∈ y.f1
theorem longer_l1 (p q : List S35) (hp : p.length ≤ 100000) (hpp : ∀ x ∈ p, x.f1.length ≤ 100000) (hq : q.length ≤ 100000) (hqp : ∀ x ∈ q, x.f1.length ≤ 100000) (hw : Within p q) (i : Nat) (hi : i < p.length) {R : Bool} (h : Ev (fun n => dragnetlaw14_JoinLonger.l0 n p q (wrap64 ((i : Int) + 1))) R) :
  ∀ (e k : Nat), k + e = p[i].f1.length → Ev (fun n => dragnetlaw14_JoinLonger.l1 n p q (i : Int) (k : Int)) R
 | 0, k, hk => by
  apply Ev.succ
  simp only [dragnetlaw14_JoinLonger.l1]
  rw [rdP p i hi]
  exact Ev.if_t (by omega) (Ev.if_t (by omega) (Ev.if_f (by omega) h))
 | e + 1, k, hk => by
  have hlt : k < p[i].f1.length := by omega
  have hl := hpp _ (List.getElem_mem hi)
  have ih := longer_l1 p q hp hpp hq hqp hw i hi h e (k + 1) (by omega)
  rw [← inc k (by omega)] at ih
  obtain ⟨y, hy, hd, hm⟩ := hw _ (List.getElem_mem hi) _ (List.getElem_mem hlt)
  obtain ⟨j0, hj0, e0⟩ := List.getElem_of_mem hy
  apply Ev.succ
  simp only [dragnetlaw14_JoinLonger.l1]
  rw [rdP p i hi]
  exact Ev.if_t (by omega) (Ev.if_t (by omega) (Ev.if_t (by omega) (longer_l2 p q hp hq hqp i k hi hlt ih q.length 0 false (by omega) (.inr ⟨j0, hj0, Nat.zero_le _, by rw [e0]; exact hd, by rw [e0]; exact hm⟩))))
theorem longer_l0 (p q : List S35) (hp : p.length ≤ 100000) (hpp : ∀ x ∈ p, x.f1.length ≤ 100000) (hq : q.length ≤ 100000) (hqp : ∀ x ∈ q, x.f1.length ≤ 100000) (hw : Within p q) :
  ∀ (e i : Nat), i + e = p.length → Ev (fun n => dragnetlaw14_JoinLonger.l0 n p q (i : Int)) true
 | 0, i, hi => by
  apply Ev.succ
  simp only [dragnetlaw14_JoinLonger.l0]
  exact Ev.if_f (by omega) (Ev.now _)
 | e + 1, i, hi => by
  have hlt : i < p.length := by omega
  have ih := longer_l0 p q hp hpp hq hqp hw e (i + 1) (by omega)
  rw [← inc i (by omega)] at ih
  apply Ev.succ
  simp only [dragnetlaw14_JoinLonger.l0]
  exact Ev.if_t (by omega) (longer_l1 p q hp hpp hq hqp hw i hlt ih p[i].f1.length 0 (by omega))
theorem within_phrase {x : List (List S35)} (hx : x ≠ []) (more : List S35) : Within (phraseOf (x ++ [more])) (phraseOf x) := by
 cases x with
 | nil => exact absurd rfl hx
 | cons l t =>
  intro p hp a ha
  obtain ⟨q, hq, rfl⟩ := keep_mem (show p ∈ keep (fun d a => allIn d a 1 (t ++ [more])) l from hp)
  obtain ⟨h1, h2⟩ := List.mem_filter.1 (show a ∈ q.f1.filter (fun a => allIn q.f0 a 1 (t ++ [more])) from ha)
  obtain ⟨h3, h4⟩ := mem_keep (c := fun d a => allIn d a 1 t) hq h1 (allIn_left h2)
  exact ⟨_, h3, rfl, h4⟩
theorem JoinLonger : ∀ (l0 : (List (List S35))) (l1 : (List S35)), l0.length * 24 ≤ 140737488351232 → (∀ y ∈ l0, (y.length ≤ maxLen ∧ ∀ y0 ∈ y, ((Lit.int .i64 y0.f0).wf = true ∧ (y0.f1.length ≤ maxLen ∧ ∀ y1 ∈ y0.f1, (Lit.int .i64 y1).wf = true)))) → l1.length * 32 ≤ 140737488351232 → (∀ y ∈ l1, ((Lit.int .i64 y.f0).wf = true ∧ (y.f1.length ≤ maxLen ∧ ∀ y0 ∈ y.f1, (Lit.int .i64 y0).wf = true))) → ∃ k, dragnetlaw14_JoinLonger.f k l0 l1 = some true := by
 intro x more hx _ hm _
 refine Ev.rounds (r := true) ?_
 unfold dragnetlaw14_JoinLonger.f
 refine Ev.bind alive14 (Ev.if_t rfl ?_)
 by_cases hbig : x.length < 5864062014804
 case neg => omega
 refine Ev.obind rfl (Ev.if_t (by simp <;> omega) (Ev.obind rfl (Ev.if_t (by simp <;> omega) (Ev.obind rfl ?_))))
 rw [List.nil_append]
 have hlen : (x ++ [more]).length = x.length + 1 := by simp
 refine Ev.bind (great_ev (x ++ [more]) (by omega)) ?_
 cases hg : greatGo (x ++ [more]).length (x ++ [more]) with
 | true => exact Ev.if_t rfl (Ev.now _)
 | false =>
  have hs := small_of_few hg
  have hsx : Small x := ⟨by have := hs.1; omega, fun l hl => hs.2 l (List.mem_append_left _ hl)⟩
  have hmore := hs.2 more (List.mem_append_right _ (List.mem_singleton.2 rfl))
  have hsm : Small [more] := ⟨by simp, fun l hl => by rw [List.mem_singleton] at hl; rw [hl]; exact hmore⟩
  have h1 := phrase_ev hs
  have h2 := phrase_ev hsm
  have h3 := phrase_ev hsx
  refine Ev.if_f (by decide) (Ev.bind h1 (Ev.bind h2 ?_))
  have hend : Ev (fun k => dragnetlaw14_JoinLonger.j0 k x (if fitOf (x ++ [more]) then (phraseOf (x ++ [more]), (0 : Int)) else (([] : List S35), 1)).1 (if fitOf (x ++ [more]) then (phraseOf (x ++ [more]), (0 : Int)) else (([] : List S35), 1)).2 false) true := by
   apply Ev.succ
   simp only [dragnetlaw14_JoinLonger.j0]
   refine Ev.if_f (by decide) (Ev.bind h3 ?_)
   cases hf : fitOf (x ++ [more]) with
   | false =>
    refine Ev.if_f (by simp) ?_
    apply Ev.succ
    simp only [dragnetlaw14_JoinLonger.j1]
    exact Ev.if_t (by trivial) (Ev.if_t (by rfl) (Ev.now _))
   | true =>
    refine Ev.if_t rfl ?_
    cases hfx : fitOf x with
    | false =>
     have hnil : x = [] := by
      rcases hxe : x with _ | ⟨l, t⟩
      ·rfl
      ·exfalso
       have ha : (x ++ [more]).all formedOf = true := by simpa [fitOf] using hf
       rw [List.all_append, Bool.and_eq_true] at ha
       have : fitOf x = true := by unfold fitOf; rw [ha.1, decide_eq_true (by rw [hxe]; simp)]; rfl
       rw [hfx] at this
       cases this
     apply Ev.succ
     simp only [dragnetlaw14_JoinLonger.j1]
     refine Ev.if_t (by simp) ?_
     by_cases hp : ((phraseOf (x ++ [more])).length : Int) = 0
     ·exact Ev.if_t hp (Ev.now _)
     ·refine Ev.if_f hp ?_
      rw [hnil]
      exact Ev.now _
    | true =>
     have hp := phrase_small hs
     have hq := phrase_small hsx
     apply Ev.succ
     simp only [dragnetlaw14_JoinLonger.j1]
     refine Ev.if_f (by simp) (longer_l0 _ _ hp.1 hp.2 hq.1 hq.2 (within_phrase (fun e => ?_) more) _ 0 (Nat.zero_add _))
     rw [e] at hfx
     cases hfx
  cases hfm : fitOf [more] with
  | false => exact Ev.if_f (by simp) hend
  | true =>
   have hfo : formedOf more = true := by simpa [fitOf] using hfm
   have hone : phraseOf [more] = more := keep_all fun p hp => (okPost_iff.1 (formed_gt hfo p hp).2.2).1
   rw [hone]
   refine Ev.if_t rfl (Ev.bind (same_ev more (by omega) (fun p hp => by have := hmore.2 p hp; omega)) hend)
end Go.Proofs.Ytebkapoabbfmeaa.Pure
end
