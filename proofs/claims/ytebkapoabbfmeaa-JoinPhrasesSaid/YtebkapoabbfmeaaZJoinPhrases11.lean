/- Words and proofs that JoinPhrases leans on; put together by wip/tools/shake.py. -/
import Derived.Test.YtebkapoabbfmeaaZJoinPhrases9
import Derived.Test.YtebkapoabbfmeaaZJoinPhrases10
import Derived.ArgAppend
import Derived.Below
import Derived.BigQuiet
import Derived.Deep.AppendLies
import Derived.Deep.CutBlock
import Derived.Deep.DeepCutAuto
import Derived.Deep.Draws
import Derived.Deep.LoopGhost
import Derived.Deep.OwnRows
import Derived.Deep.QuietTactic
import Derived.Deep.RegionHeld3
import Derived.KernelRfl
import Derived.Laws.BitsLemmas
import Derived.Laws.BytesArg
import Derived.Laws.Cover1
import Derived.Laws.IdiomCopy
import Derived.Laws.MakeOwn
import Derived.Laws.OwnMore
import Derived.Laws.Rows
import Derived.Laws.Slices
import Derived.Laws.StructEq
import Derived.Lib.AppendStr
import Derived.Lib.BitFns
import Derived.Lib.ConvBytes
import Derived.Lib.Slices
import Derived.Lib.Small
import Derived.Lib.Strings
import Derived.Lib.Walk
import Derived.Maps.AppendAt
import Derived.OrdersHeld
import Derived.OwnWalk
import Derived.RangeFuncBox
import Derived.RowKit
import Derived.RowKit3
import Derived.ScopeJumps
import Derived.Shelf.Abstract
import Derived.Tactics
import Derived.Test.YtebkapoabbfmeaaProg
import Derived.WalkKit
import Derived.WalkMore
import Derived.WalkSpells
import Derived.WideLaws
section
namespace Go.Proofs.YtebkapoabbfmeaaQ
open Go.RowKit Go.Proofs.YtebkapoabbfmeaaW.PrintWords Go.Proofs.YtebkapoabbfmeaaW.PrintMore Go.Proofs.YtebkapoabbfmeaaW.PrintLast Go.Proofs.Ytebkapoabbfmeaa.P
theorem drop_rd {l : List Int} {i : Nat} (h : i < l.length) : l.drop i = rd l (i : Int) :: l.drop (i + 1) := by
 rw [List.drop_eq_getElem_cons h, rd_nat l i h]
theorem ints_l0 (a b : List Int) (hl : a.length ≤ 17592186044416) (hab : a.length = b.length) : ∀ (d i : Nat), i + d = a.length →
  Ev (fun k => dragnetref09_Ints.l0 k a b (i : Int)) (decide (a.drop i = b.drop i))
 | 0, i, hi => by
  apply Ev.succ
  simp only [dragnetref09_Ints.l0]
  rw [List.drop_eq_nil_of_le (by omega), List.drop_eq_nil_of_le (by omega)]
  exact Ev.if_f (by omega) (Ev.now _)
 | d + 1, i, hi => by
  have hil : i < a.length := by omega
  apply Ev.succ
  simp only [dragnetref09_Ints.l0]
  rw [drop_rd hil, drop_rd (l := b) (by omega), inc i (by omega)]
  refine Ev.if_t (by omega) (Ev.if_t (by omega) (Ev.if_t (by omega) ?_))
  by_cases h1 : rd a (i : Int) = rd b (i : Int)
  ·refine Ev.if_t h1 ?_
   rw [h1]
   have := ints_l0 a b hl hab d (i + 1) (by omega)
   simpa using this
  ·refine Ev.if_f h1 ?_
   rw [decide_eq_false (by simp [h1])]
   exact Ev.now _
theorem ints_ev (a b : List Int) (hl : a.length ≤ 17592186044416) : Ev (fun k => dragnetref09_Ints.f k a b) (decide (a = b)) := by
 unfold dragnetref09_Ints.f
 by_cases h : a.length = b.length
 ·refine Ev.if_t (by omega) ?_
  have := ints_l0 a b hl h a.length 0 (by omega)
  simpa using this
 ·refine Ev.if_f (by omega) ?_
  rw [decide_eq_false (fun e => h (by rw [e]))]
  exact Ev.now _
end Go.Proofs.YtebkapoabbfmeaaQ
end
section
namespace Go.Proofs.YtebkapoabbfmeaaQ
set_option linter.unusedVariables false
open Go.RowKit Go.Proofs.YtebkapoabbfmeaaW.PrintWords Go.Proofs.YtebkapoabbfmeaaW.PrintMore Go.Proofs.YtebkapoabbfmeaaW.PrintLast Go.Proofs.Ytebkapoabbfmeaa.P
theorem rdP (l : List S35) (i : Nat) (h : i < l.length) : rd_T35 l (i : Int) = l[i] := by
 simp [rd_T35, h]
def docsOf (l : List S35) : List Int := l.map (·.f0)
theorem docsOf_length (l : List S35) : (docsOf l).length = l.length := by simp [docsOf]
def Rm (m : Int) : Int → List Int → Bool
 | _, [] => true
 | lo, x :: t => decide (lo < x) && decide (x ≤ m) && Rm m x t
theorem rm_cons {m lo x : Int} {t : List Int} : Rm m lo (x :: t) = true ↔ lo < x ∧ x ≤ m ∧ Rm m x t = true := by
 simp [Rm, and_assoc]
theorem rm_weak {m lo hi : Int} {l : List Int} (h : Rm m hi l = true) (hl : lo ≤ hi) : Rm m lo l = true := by
 cases l with
 | nil => rfl
 | cons x t => rw [rm_cons] at h ⊢; exact ⟨by omega, h.2⟩
theorem rm_gt {m : Int} : ∀ {lo : Int} {l : List Int}, Rm m lo l = true → ∀ z ∈ l, lo < z ∧ z ≤ m
 | _, [], _, z, hz => by cases hz
 | lo, x :: t, h, z, hz => by
  rw [rm_cons] at h
  rcases List.mem_cons.1 hz with rfl | hz
  ·exact ⟨h.1, h.2.1⟩
  ·have := rm_gt h.2.2 z hz
   omega
theorem rm_filter {m : Int} (c : Int → Bool) : ∀ {lo : Int} {l : List Int}, Rm m lo l = true → Rm m lo (l.filter c) = true
 | _, [], _ => rfl
 | lo, x :: t, h => by
  rw [rm_cons] at h
  rw [List.filter_cons]
  split
  ·exact rm_cons.2 ⟨h.1, h.2.1, rm_filter c h.2.2⟩
  ·exact rm_weak (rm_filter c h.2.2) (by omega)
def okPost (p : S35) : Bool := decide (p.f1 ≠ []) && Rm 2147483647 (-1) p.f1
def formedGo : Int → List S35 → Bool
 | _, [] => true
 | lo, p :: t => decide (lo < p.f0) && decide (p.f0 ≤ 4095) && okPost p && formedGo p.f0 t
theorem formed_cons {lo : Int} {p : S35} {t : List S35} : formedGo lo (p :: t) = true ↔ lo < p.f0 ∧ p.f0 ≤ 4095 ∧ okPost p = true ∧ formedGo p.f0 t = true := by
 simp [formedGo, and_assoc]
abbrev formedOf (l : List S35) : Bool := formedGo (-1) l
theorem formed_split : ∀ (l : List S35) (lo : Int), formedGo lo l = (l.all okPost && Rm 4095 lo (docsOf l))
 | [], _ => rfl
 | p :: t, lo => by
  rw [formedGo, formed_split t, List.all_cons]
  show _ = (_ && Rm 4095 lo (p.f0 :: docsOf t))
  rw [Rm]
  cases okPost p <;> cases decide (lo < p.f0) <;> cases decide (p.f0 ≤ 4095) <;> cases t.all okPost <;> simp
theorem formed_weak {lo hi : Int} {l : List S35} (h : formedGo hi l = true) (hl : lo ≤ hi) : formedGo lo l = true := by
 cases l with
 | nil => rfl
 | cons x t => rw [formed_cons] at h ⊢; exact ⟨by omega, h.2⟩
theorem formed_gt : ∀ {lo : Int} {l : List S35}, formedGo lo l = true → ∀ p ∈ l, lo < p.f0 ∧ p.f0 ≤ 4095 ∧ okPost p = true
 | _, [], _, z, hz => by cases hz
 | lo, x :: t, h, z, hz => by
  rw [formed_cons] at h
  rcases List.mem_cons.1 hz with rfl | hz
  ·exact ⟨h.1, h.2.1, h.2.2.1⟩
  ·have := formed_gt h.2.2.2 z hz
   exact ⟨by omega, this.2⟩
theorem okPost_iff {p : S35} : okPost p = true ↔ p.f1 ≠ [] ∧ Rm 2147483647 (-1) p.f1 = true := by simp [okPost]
theorem dropP {l : List S35} {i : Nat} (h : i < l.length) : l.drop i = l[i] :: l.drop (i + 1) := List.drop_eq_getElem_cons h
theorem formed_l1 (l : List S35) (hl : l.length ≤ 17592186044416) (n0 : Int) (i : Int) (v : List Int) (hv : v.length ≤ 17592186044416) {R : Bool} (hR : Ev (fun k => post_Formed.l0 k n0 l (l.length : Int) (wrap64 (i + 1))) R) :
  ∀ (d j : Nat) (lo : Int), j + d = v.length → Ev (fun k => post_Formed.l1 k n0 lo l (l.length : Int) i v (v.length : Int) (j : Int)) (Rm 2147483647 lo (v.drop j) && R)
 | 0, j, lo, hj => by
  apply Ev.succ
  simp only [post_Formed.l1]
  rw [List.drop_eq_nil_of_le (by omega)]
  exact Ev.if_f (by omega) (by simpa [Rm] using hR)
 | d + 1, j, lo, hj => by
  have hlt : j < v.length := by omega
  have ih := formed_l1 l hl n0 i v hv hR d (j + 1)
  apply Ev.succ
  simp only [post_Formed.l1]
  rw [drop_rd hlt, inc j (by omega), Rm]
  refine Ev.if_t (by omega) (Ev.if_t (by omega) (Ev.if_t (by omega) ?_))
  by_cases h1 : rd v (j : Int) ≤ lo
  ·refine Ev.if_t h1 ?_
   rw [decide_eq_false (show ¬ lo < rd v (j : Int) by omega)]
   exact Ev.now _
  ·refine Ev.if_f h1 ?_
   by_cases h2 : rd v (j : Int) > 2147483647
   ·refine Ev.if_t h2 ?_
    rw [decide_eq_false (show ¬ rd v (j : Int) ≤ 2147483647 by omega)]
    simpa using Ev.now _
   ·refine Ev.if_f h2 ?_
    rw [decide_eq_true (show lo < rd v (j : Int) by omega), decide_eq_true (show rd v (j : Int) ≤ 2147483647 by omega)]
    simpa using ih _ (by omega)
theorem formed_l0 (l : List S35) (hl : l.length ≤ 17592186044416) (hv : ∀ p ∈ l, p.f1.length ≤ 17592186044416) : ∀ (d i : Nat) (lo : Int), i + d = l.length →
  Ev (fun k => post_Formed.l0 k lo l (l.length : Int) (i : Int)) (formedGo lo (l.drop i))
 | 0, i, lo, hi => by
  apply Ev.succ
  simp only [post_Formed.l0]
  rw [List.drop_eq_nil_of_le (by omega)]
  exact Ev.if_f (by omega) (Ev.now _)
 | d + 1, i, lo, hi => by
  have hlt : i < l.length := by omega
  have ih := formed_l0 l hl hv d (i + 1) l[i].f0 (by omega)
  rw [← inc i (by omega)] at ih
  have h1 := formed_l1 l hl l[i].f0 (i : Int) l[i].f1 (hv _ (List.getElem_mem hlt)) ih l[i].f1.length 0 (-1) (by omega)
  rw [List.drop_zero] at h1
  have bad : Ev (fun k => post_Formed.j1 k l (l.length : Int) (i : Int) true l[i].f0 l[i].f1) false := by
   apply Ev.succ
   simp only [post_Formed.j1]
   exact Ev.if_t trivial (Ev.now _)
  apply Ev.succ
  simp only [post_Formed.l0]
  rw [dropP hlt, formedGo, rdP l i hlt]
  refine Ev.if_t (by omega) (Ev.if_t (by omega) (Ev.if_t (by omega) ?_))
  by_cases h2 : l[i].f0 ≤ lo
  ·refine Ev.if_t h2 ?_
   rw [decide_eq_false (show ¬ lo < l[i].f0 by omega)]
   simpa using bad
  ·refine Ev.if_f h2 ?_
   by_cases h3 : l[i].f0 > 4095
   ·refine Ev.if_t h3 ?_
    rw [decide_eq_false (show ¬ l[i].f0 ≤ 4095 by omega)]
    simpa using bad
   ·refine Ev.if_f h3 ?_
    rw [decide_eq_true (show lo < l[i].f0 by omega), decide_eq_true (show l[i].f0 ≤ 4095 by omega)]
    by_cases h4 : l[i].f1 = []
    ·rw [h4] at bad ⊢
     have : okPost l[i] = false := by simp [okPost, h4]
     rw [this]
     simpa using bad
    ·have hne : ((l[i].f1.length : Int) == 0) = false := by
      rw [beq_eq_false_iff_ne]
      intro e
      exact h4 (List.length_eq_zero_iff.1 (by omega))
     rw [hne]
     have hok : okPost l[i] = Rm 2147483647 (-1) l[i].f1 := by simp [okPost, h4]
     rw [hok]
     apply Ev.succ
     simp only [post_Formed.j1]
     refine Ev.if_f (by decide) ?_
     simpa using h1
theorem formed_ev (l : List S35) (hl : l.length ≤ 17592186044416) (hv : ∀ p ∈ l, p.f1.length ≤ 17592186044416) : Ev (fun k => post_Formed.f k l) (formedOf l) := by
 unfold post_Formed.f
 have := formed_l0 l hl hv l.length 0 (-1) (by omega)
 simpa using this
theorem ref_rm_l0 (l : List Int) (m : Int) (hl : l.length ≤ 17592186044416) : ∀ (d i : Nat) (lo : Int), i + d = l.length → -1 ≤ lo → (i = 0 → lo = -1) → (0 < i → lo = rd l ((i - 1 : Nat) : Int)) →
  Ev (fun k => dragnetref13_rises.l0 k l m (i : Int)) (Rm m lo (l.drop i))
 | 0, i, lo, hi, _, _, _ => by
  apply Ev.succ
  simp only [dragnetref13_rises.l0]
  rw [List.drop_eq_nil_of_le (by omega)]
  exact Ev.if_f (by omega) (Ev.now _)
 | d + 1, i, lo, hi, hlo, h0, h1 => by
  have hil : i < l.length := by omega
  apply Ev.succ
  simp only [dragnetref13_rises.l0]
  rw [drop_rd hil, inc i (by omega)]
  refine Ev.if_t (by omega) (Ev.if_t (by omega) ?_)
  by_cases h2 : rd l (i : Int) < 0
  ·refine Ev.if_t h2 ?_
   rw [show Rm m lo (rd l (i : Int) :: l.drop (i + 1)) = false by simp [Rm]; omega]
   exact Ev.now _
  ·refine Ev.if_f h2 ?_
   by_cases h3 : rd l (i : Int) > m
   ·refine Ev.if_t h3 ?_
    rw [show Rm m lo (rd l (i : Int) :: l.drop (i + 1)) = false by simp [Rm]; omega]
    exact Ev.now _
   ·refine Ev.if_f h3 ?_
    have ih := ref_rm_l0 l m hl d (i + 1) (rd l (i : Int)) (by omega) (by omega) (by omega) (fun _ => by rw [Nat.add_sub_cancel])
    rcases Nat.eq_zero_or_pos i with hz | hz
    ·refine Ev.if_f (by omega) ?_
     have := h0 hz
     rw [show Rm m lo (rd l (i : Int) :: l.drop (i + 1)) = Rm m (rd l (i : Int)) (l.drop (i + 1)) by simp [Rm]; omega]
     exact ih
    ·have hlo2 := h1 hz
     have e : wrap64 ((i : Int) - 1) = ((i - 1 : Nat) : Int) := by rw [w64 (by omega) (by omega)]; omega
     rw [e, ← hlo2]
     refine Ev.if_t (by omega) (Ev.if_t (by omega) (Ev.if_t (by omega) ?_))
     by_cases h4 : lo ≥ rd l (i : Int)
     ·refine Ev.if_t h4 ?_
      rw [show Rm m lo (rd l (i : Int) :: l.drop (i + 1)) = false by simp [Rm]; omega]
      exact Ev.now _
     ·refine Ev.if_f h4 ?_
      rw [show Rm m lo (rd l (i : Int) :: l.drop (i + 1)) = Rm m (rd l (i : Int)) (l.drop (i + 1)) by simp [Rm]; omega]
      exact ih
theorem ref_rm_ev (l : List Int) (m : Int) (hl : l.length ≤ 17592186044416) : Ev (fun k => dragnetref13_rises.f k l m) (Rm m (-1) l) := by
 unfold dragnetref13_rises.f
 have := ref_rm_l0 l m hl l.length 0 (-1) (by omega) (by omega) (fun _ => rfl) (fun h => absurd h (by omega))
 simpa using this
theorem ref_docs_l0 (l : List S35) (hl : l.length ≤ 17592186044416) : ∀ (d i : Nat), i + d = l.length →
  Ev (fun k => dragnetref13_Docs.l0 k l ((docsOf l).take i) (i : Int)) (docsOf l)
 | 0, i, hi => by
  apply Ev.succ
  simp only [dragnetref13_Docs.l0]
  rw [List.take_of_length_le (by rw [docsOf_length]; omega)]
  exact Ev.if_f (by omega) (Ev.now _)
 | d + 1, i, hi => by
  have hil : i < l.length := by omega
  have ih := ref_docs_l0 l hl d (i + 1) (by omega)
  rw [List.take_succ_eq_append_getElem (by rw [docsOf_length]; exact hil)] at ih
  have e : (docsOf l)[i]'(by rw [docsOf_length]; exact hil) = l[i].f0 := by simp [docsOf]
  rw [e] at ih
  apply Ev.succ
  simp only [dragnetref13_Docs.l0]
  rw [rdP l i hil, inc i (by omega)]
  exact Ev.if_t (by omega) (Ev.if_t (by omega) (Ev.if_t (by rw [List.length_take]; omega) ih))
theorem ref_docs_ev (l : List S35) (hl : l.length ≤ 17592186044416) : Ev (fun k => dragnetref13_Docs.f k l) (docsOf l) := by
 unfold dragnetref13_Docs.f
 have := ref_docs_l0 l hl l.length 0 (by omega)
 simpa using this
theorem ref_formed_l0 (l : List S35) (hl : l.length ≤ 17592186044416) (hv : ∀ p ∈ l, p.f1.length ≤ 17592186044416) : ∀ (d i : Nat), i + d = l.length →
  Ev (fun k => dragnetref13_Formed.l0 k l (i : Int)) ((l.drop i).all okPost && Rm 4095 (-1) (docsOf l))
 | 0, i, hi => by
  apply Ev.succ
  simp only [dragnetref13_Formed.l0]
  rw [List.drop_eq_nil_of_le (by omega)]
  refine Ev.if_f (by omega) (Ev.bind (ref_docs_ev l hl) (Ev.bind (ref_rm_ev _ _ (by rw [docsOf_length]; exact hl)) ?_))
  simpa using Ev.now _
 | d + 1, i, hi => by
  have hil : i < l.length := by omega
  have ih := ref_formed_l0 l hl hv d (i + 1) (by omega)
  apply Ev.succ
  simp only [dragnetref13_Formed.l0]
  rw [dropP hil, List.all_cons, rdP l i hil, inc i (by omega)]
  refine Ev.if_t (by omega) (Ev.if_t (by omega) ?_)
  by_cases h4 : l[i].f1 = []
  ·have : okPost l[i] = false := by simp [okPost, h4]
   rw [this, h4]
   exact Ev.if_t (by simp) (by simpa using Ev.now _)
  ·have hok : okPost l[i] = Rm 2147483647 (-1) l[i].f1 := by simp [okPost, h4]
   rw [hok]
   refine Ev.if_f (fun e => h4 (List.length_eq_zero_iff.1 (by omega))) (Ev.bind (ref_rm_ev _ _ (hv _ (List.getElem_mem hil))) ?_)
   cases Rm 2147483647 (-1) l[i].f1 with
   | true => exact Ev.if_t rfl (by simpa using ih)
   | false => exact Ev.if_f (by decide) (by simpa using Ev.now _)
theorem ref_formed_ev (l : List S35) (hl : l.length ≤ 17592186044416) (hv : ∀ p ∈ l, p.f1.length ≤ 17592186044416) : Ev (fun k => dragnetref13_Formed.f k l) (formedOf l) := by
 unfold dragnetref13_Formed.f formedOf
 have := ref_formed_l0 l hl hv l.length 0 (by omega)
 rw [formed_split]
 simpa using this
theorem copy_l0 (l : List S35) (hl : l.length ≤ 1000000000) (hv : ∀ p ∈ l, p.f1.length ≤ 1000000000) : ∀ (d i : Nat), i + d = l.length →
  Ev (fun k => dragnetref13_Copy.l0 k l (l.take i) (i : Int)) l
 | 0, i, hi => by
  apply Ev.succ
  simp only [dragnetref13_Copy.l0]
  rw [List.take_of_length_le (by omega)]
  exact Ev.if_f (by omega) (Ev.now _)
 | d + 1, i, hi => by
  have hil : i < l.length := by omega
  have ih := copy_l0 l hl hv d (i + 1) (by omega)
  rw [List.take_succ_eq_append_getElem hil] at ih
  have := hv _ (List.getElem_mem hil)
  apply Ev.succ
  simp only [dragnetref13_Copy.l0]
  rw [rdP l i hil, inc i (by omega)]
  refine Ev.if_t (by omega) (Ev.if_t (by omega) (Ev.obind rfl (Ev.if_t (by simp; omega) (Ev.if_t (by rw [List.length_take]; omega) ?_))))
  exact ih
theorem copy_ev (l : List S35) (hl : l.length ≤ 1000000000) (hv : ∀ p ∈ l, p.f1.length ≤ 1000000000) : Ev (fun k => dragnetref13_Copy.f k l) l := by
 unfold dragnetref13_Copy.f
 have := copy_l0 l hl hv l.length 0 (by omega)
 simpa using this
theorem same_l0 (l : List S35) (hl : l.length ≤ 17592186044416) (hv : ∀ p ∈ l, p.f1.length ≤ 17592186044416) : ∀ (d i : Nat), i + d = l.length →
  Ev (fun k => dragnetref13_Same.l0 k l l (i : Int)) true
 | 0, i, hi => by
  apply Ev.succ
  simp only [dragnetref13_Same.l0]
  exact Ev.if_f (by omega) (Ev.now _)
 | d + 1, i, hi => by
  have hil : i < l.length := by omega
  have h1 := ints_ev (rd_T35 l (i : Int)).f1 (rd_T35 l (i : Int)).f1 (by rw [rdP l i hil]; exact hv _ (List.getElem_mem hil))
  rw [decide_eq_true rfl] at h1
  have h2 : Ev (fun k => dragnetref13_SamePost.f k (rd_T35 l (i : Int)).f0 (rd_T35 l (i : Int)).f1 (rd_T35 l (i : Int)).f0 (rd_T35 l (i : Int)).f1) true := by
   unfold dragnetref13_SamePost.f
   exact Ev.if_t rfl (Ev.bind h1 (Ev.now _))
  apply Ev.succ
  simp only [dragnetref13_Same.l0]
  rw [inc i (by omega)]
  exact Ev.if_t (by omega) (Ev.if_t (by omega) (Ev.if_t (by omega) (Ev.bind h2 (Ev.if_t rfl (same_l0 l hl hv d (i + 1) (by omega))))))
theorem same_ev (l : List S35) (hl : l.length ≤ 17592186044416) (hv : ∀ p ∈ l, p.f1.length ≤ 17592186044416) : Ev (fun k => dragnetref13_Same.f k l l) true := by
 unfold dragnetref13_Same.f
 exact Ev.if_t rfl (same_l0 l hl hv l.length 0 (by omega))
end Go.Proofs.YtebkapoabbfmeaaQ
end
section
namespace Go.Proofs.YtebkapoabbfmeaaQ
open Go.RowKit Go.Proofs.YtebkapoabbfmeaaW.PrintWords Go.Proofs.YtebkapoabbfmeaaW.PrintMore Go.Proofs.YtebkapoabbfmeaaW.PrintLast Go.Proofs.Ytebkapoabbfmeaa.P
theorem alive14 : Ev (fun k => dragnetlaw14_alive.f k) true := Ev.of (fun k => dragnetlaw14_alive.mono k) (k := 40) (by decide +kernel)
end Go.Proofs.YtebkapoabbfmeaaQ
end
section
namespace Go.Proofs.YtebkapoabbfmeaaQ
set_option linter.unusedVariables false
open Go.RowKit Go.Proofs.YtebkapoabbfmeaaW.PrintWords Go.Proofs.YtebkapoabbfmeaaW.PrintMore Go.Proofs.YtebkapoabbfmeaaW.PrintLast Go.Proofs.Ytebkapoabbfmeaa.P
theorem rm_get {m lo : Int} {l : List Int} (h : Rm m lo l = true) {i j : Nat} (hij : i < j) (hj : j < l.length) : l[i] < l[j] := by
 induction l generalizing lo i j with
 | nil => simp at hj
 | cons x t ih =>
  rw [rm_cons] at h
  cases j with
  | zero => omega
  | succ j =>
   cases i with
   | zero => exact (rm_gt h.2.2 _ (List.getElem_mem (by simpa using hj))).1
   | succ i => exact ih h.2.2 (by omega) (by simpa using hj)
theorem less_f (a b : Int) : cmp_Less_int.f a b = some (decide (a < b)) := by
 unfold cmp_Less_int.f cmp_isNaN_int.f
 simp
theorem mid (a b : Nat) (h : a + b ≤ 9223372036854775800) : wrap64 ((IntKind.u64.wrap (wrap64 ((a : Int) + (b : Int)))) / 2) = (((a + b) / 2 : Nat) : Int) := by
 rw [w64 (x := (a : Int) + b) (by omega) (by omega), wu64 (by omega) (by omega), w64 (by omega) (by omega)]
 omega
theorem search_l0 {m lo : Int} {l : List Int} (hr : Rm m lo l = true) (hl : l.length ≤ 17592186044416) (x : Int) : ∀ (d i j : Nat), j - i ≤ d → i ≤ j → j ≤ l.length → (∀ k (hk : k < l.length), k < i → l[k] < x) → (∀ k (hk : k < l.length), j ≤ k → x ≤ l[k]) →
    ∃ p, Ev (fun k => slices_BinarySearch_int_int.l0 k l x (l.length : Int) (i : Int) (j : Int)) (p, decide (x ∈ l)) := by
  intro d
  induction d with
  | zero =>
    intro i j hd hij hj h1 h2
    obtain rfl : i = j := by omega
    by_cases hil : i < l.length
    · have hrd := rd_nat l i hil
      by_cases he : l[i] = x
      · refine ⟨(i : Int), ?_⟩
        apply Ev.succ
        simp only [slices_BinarySearch_int_int.l0]
        rw [hrd, decide_eq_true (he ▸ List.getElem_mem hil)]
        exact Ev.if_f (by omega) (Ev.if_t (by omega) (Ev.if_t (by omega) (Ev.if_t (by omega) (Ev.if_t he (Ev.now _)))))
      · refine ⟨(i : Int), ?_⟩
        apply Ev.succ
        simp only [slices_BinarySearch_int_int.l0]
        have hn : x ∉ l := by
          intro hx
          obtain ⟨k, hk, e⟩ := List.getElem_of_mem hx
          rcases Nat.lt_trichotomy k i with h | h | h
          · have := h1 k hk h; omega
          · subst h; exact he e
          · have h3 := rm_get hr h hk
            have h4 := h2 i hil (Nat.le_refl _)
            omega
        rw [hrd, decide_eq_false hn]
        unfold slices_isNaN_int.f
        refine Ev.if_f (by omega) (Ev.if_t (by omega) (Ev.if_t (by omega) (Ev.if_t (by omega) (Ev.if_f he (Ev.obind rfl (Ev.if_f (by simp) (Ev.now _)))))))
    · refine ⟨(i : Int), ?_⟩
      apply Ev.succ
      simp only [slices_BinarySearch_int_int.l0]
      have hn : x ∉ l := by
        intro hx
        obtain ⟨k, hk, e⟩ := List.getElem_of_mem hx
        have := h1 k hk (by omega)
        omega
      rw [decide_eq_false hn]
      exact Ev.if_f (by omega) (Ev.if_f (by omega) (Ev.now _))
  | succ d ih =>
    intro i j hd hij hj h1 h2
    by_cases he : i = j
    · exact (ih i j (by omega) hij hj h1 h2)
    · have hm : (i + j) / 2 < l.length := by omega
      have hrd := rd_nat l ((i + j) / 2) hm
      by_cases hx : l[(i + j) / 2] < x
      · obtain ⟨p, hp⟩ := ih ((i + j) / 2 + 1) j (by omega) (by omega) hj (fun k hk hki => by
          rcases Nat.lt_or_eq_of_le (show k ≤ (i + j) / 2 by omega) with h | h
          · have := rm_get hr h hm; omega
          · subst h; exact hx) h2
        refine ⟨p, ?_⟩
        apply Ev.succ
        simp only [slices_BinarySearch_int_int.l0]
        rw [mid i j (by omega), hrd, less_f, decide_eq_true hx, inc _ (by omega)]
        exact Ev.if_t (by omega) (Ev.if_t (by omega) (Ev.if_t (by omega) (Ev.obind rfl (Ev.if_t rfl hp))))
      · obtain ⟨p, hp⟩ := ih i ((i + j) / 2) (by omega) (by omega) (by omega) h1 (fun k hk hki => by
          rcases Nat.lt_or_eq_of_le hki with h | h
          · have := rm_get hr h hk; omega
          · subst h; omega)
        refine ⟨p, ?_⟩
        apply Ev.succ
        simp only [slices_BinarySearch_int_int.l0]
        rw [mid i j (by omega), hrd, less_f, decide_eq_false hx]
        exact Ev.if_t (by omega) (Ev.if_t (by omega) (Ev.if_t (by omega) (Ev.obind rfl (Ev.if_f (by decide) hp))))
theorem search_ev {m lo : Int} {l : List Int} (hr : Rm m lo l = true) (hl : l.length ≤ 17592186044416) (x : Int) : ∃ p, Ev (fun k => slices_BinarySearch_int_int.f k l x) (p, decide (x ∈ l)) := by
 unfold slices_BinarySearch_int_int.f
 exact search_l0 hr hl x l.length 0 l.length (by omega) (by omega) (by omega) (fun k hk h => by omega) (fun k hk h => by omega)
def atOf : List S35 → Int → List Int
 | [], _ => []
 | p :: t, d => if p.f0 = d then p.f1 else atOf t d
def sieve (c : Int → Int → Bool) (p : S35) : S35 := ⟨p.f0, p.f1.filter (c p.f0)⟩
def keep (c : Int → Int → Bool) (l : List S35) : List S35 := (l.map (sieve c)).filter (fun p => decide (p.f1 ≠ []))
theorem keep_nil (c : Int → Int → Bool) : keep c [] = [] := rfl
theorem keep_cons (c : Int → Int → Bool) (p : S35) (l : List S35) : keep c (p :: l) = (if p.f1.filter (c p.f0) = [] then [] else [sieve c p]) ++ keep c l := by
 unfold keep
 rw [List.map_cons, List.filter_cons]
 by_cases h : p.f1.filter (c p.f0) = []
 ·simp [sieve, h]
 ·simp [sieve, h]
theorem keep_congr {c d : Int → Int → Bool} : ∀ {l : List S35}, (∀ p ∈ l, ∀ a ∈ p.f1, c p.f0 a = d p.f0 a) → keep c l = keep d l
 | [], _ => rfl
 | p :: l, h => by
  have e : p.f1.filter (c p.f0) = p.f1.filter (d p.f0) := List.filter_congr (h p List.mem_cons_self)
  rw [keep_cons, keep_cons, keep_congr fun q hq => h q (List.mem_cons_of_mem _ hq), sieve, sieve, e]
theorem keep_keep (c d : Int → Int → Bool) : ∀ l : List S35, keep d (keep c l) = keep (fun x a => c x a && d x a) l
 | [] => rfl
 | p :: l => by
  have e : p.f1.filter (fun a => c p.f0 a && d p.f0 a) = (p.f1.filter (c p.f0)).filter (d p.f0) := by
   rw [List.filter_filter]
   exact List.filter_congr fun a _ => Bool.and_comm _ _
  rw [keep_cons c, keep_cons (fun x a => c x a && d x a)]
  by_cases h : p.f1.filter (c p.f0) = []
  ·rw [if_pos h, List.nil_append, keep_keep c d l, e, h, List.filter_nil, if_pos rfl, List.nil_append]
  ·rw [if_neg h, List.singleton_append, keep_cons, keep_keep c d l]
   show (if (p.f1.filter (c p.f0)).filter (d p.f0) = [] then [] else _) ++ _ = _
   rw [e]
   simp only [sieve, e]
theorem keep_all : ∀ {l : List S35}, (∀ p ∈ l, p.f1 ≠ []) → keep (fun _ _ => true) l = l
 | [], _ => rfl
 | p :: l, h => by
  have e : p.f1.filter (fun _ => true) = p.f1 := List.filter_eq_self.2 fun _ _ => rfl
  rw [keep_cons, e, if_neg (h p List.mem_cons_self), keep_all fun q hq => h q (List.mem_cons_of_mem _ hq), sieve, e]
  rfl
theorem keep_formed (c : Int → Int → Bool) : ∀ {l : List S35} {lo : Int}, formedGo lo l = true → formedGo lo (keep c l) = true
 | [], _, _ => rfl
 | p :: l, lo, h => by
  rw [formed_cons] at h
  have ih := keep_formed c h.2.2.2
  rw [keep_cons]
  by_cases e : p.f1.filter (c p.f0) = []
  ·rw [if_pos e]
   exact formed_weak ih (by omega)
  ·rw [if_neg e]
   exact formed_cons.2 ⟨h.1, h.2.1, okPost_iff.2 ⟨e, rm_filter _ (okPost_iff.1 h.2.2.1).2⟩, ih⟩
theorem keep_few (c : Int → Int → Bool) {n : Nat} : ∀ {l : List S35}, (∀ p ∈ l, p.f1.length ≤ n) → (∀ p ∈ keep c l, p.f1.length ≤ n) ∧ (keep c l).length ≤ l.length
 | [], _ => ⟨fun _ h => (by cases h), Nat.le_refl _⟩
 | p :: l, h => by
  have ih := keep_few c (l := l) fun q hq => h q (List.mem_cons_of_mem _ hq)
  rw [keep_cons]
  by_cases e : p.f1.filter (c p.f0) = []
  ·rw [if_pos e, List.nil_append]
   exact ⟨ih.1, by rw [List.length_cons]; omega⟩
  ·rw [if_neg e]
   refine ⟨fun q hq => ?_, by simp <;> omega⟩
   rcases List.mem_cons.1 hq with rfl | hq
   ·exact Nat.le_trans (List.length_filter_le _ _) (h p List.mem_cons_self)
   ·exact ih.1 q hq
theorem at_none {l : List S35} {lo d : Int} (h : formedGo lo l = true) (hd : d ≤ lo) : atOf l d = [] := by
 induction l generalizing lo with
 | nil => rfl
 | cons p l ih =>
  rw [formed_cons] at h
  rw [atOf, if_neg (by omega)]
  exact ih h.2.2.2 (by omega)
def cOf (other : List S35) (by_ : Int) : Int → Int → Bool := fun d a => decide (a + by_ ∈ atOf other d)
def dropLt (d : Int) : List S35 → List S35
 | [] => []
 | p :: t => if p.f0 < d then dropLt d t else p :: t
theorem dropLt_at {d e : Int} (h : d ≤ e) : ∀ l : List S35, atOf (dropLt d l) e = atOf l e
 | [] => rfl
 | p :: t => by
  rw [dropLt]
  split
  ·rw [dropLt_at h t, atOf, if_neg (by omega)]
  ·rfl
theorem dropLt_formed {d : Int} : ∀ {l : List S35} {lo : Int}, formedGo lo l = true → formedGo lo (dropLt d l) = true
 | [], _, _ => rfl
 | p :: t, lo, h => by
  rw [dropLt]
  split
  ·rw [formed_cons] at h
   exact dropLt_formed (formed_weak h.2.2.2 (by omega))
  ·exact h
theorem dropLt_head {d : Int} : ∀ {l : List S35} {p : S35} {t : List S35}, dropLt d l = p :: t → d ≤ p.f0
 | q :: l, p, t, h => by
  rw [dropLt] at h
  split at h
  ·exact dropLt_head h
  ·have e := (List.cons.inj h).1
   rw [← e]
   omega
theorem behind_l1 {by_ : Int} {l out : List S35} {n i d : Int} {pl : List Int} {R : List S35} : ∀ (other : List S35), Ev (fun k => join_behind.j2 k (dropLt d other) by_ out l n i d pl) R → Ev (fun k => join_behind.l1 k other by_ out l n i d pl) R
 | [], h => by
  apply Ev.succ
  simp only [join_behind.l1]
  exact Ev.if_f (by simp) h
 | q :: t, h => by
  have e : rd_T35 (q :: t) 0 = q := rfl
  apply Ev.succ
  simp only [join_behind.l1]
  rw [e]
  refine Ev.if_t (by simp <;> omega) (Ev.if_t (by simp <;> omega) ?_)
  by_cases hq : q.f0 < d
  ·rw [dropLt, if_pos hq] at h
   exact Ev.if_t hq (Ev.if_t (by simp <;> omega) (behind_l1 t h))
  ·rw [dropLt, if_neg hq] at h
   exact Ev.if_f hq h
theorem behind_l2 {by_ : Int} {l out : List S35} {n : Int} {i : Int} {q : S35} {t : List S35} {d : Int} {pl : List Int} (hq : okPost q = true) (hqn : q.f1.length ≤ 17592186044416) (hpl : pl.length ≤ 1000000) (hp : ∀ a ∈ pl, -1 < a ∧ a ≤ 2147483647) (hb : 0 ≤ by_ ∧ by_ ≤ 1000000) (ho : out.length ≤ 1000000) {R : List S35}
  (h : Ev (fun k => join_behind.l0 k (q :: t) by_ (out ++ (if pl.filter (fun a => decide (a + by_ ∈ q.f1)) = [] then [] else [⟨d, pl.filter (fun a => decide (a + by_ ∈ q.f1))⟩])) l n (wrap64 (i + 1))) R) :
  ∀ (e j : Nat) (acc : List Int), j + e = pl.length → acc = (pl.take j).filter (fun a => decide (a + by_ ∈ q.f1)) → Ev (fun k => join_behind.l2 k (q :: t) by_ out acc l n i pl (pl.length : Int) (j : Int) d pl) R
 | 0, j, acc, hj, hacc => by
  rw [List.take_of_length_le (by omega)] at hacc
  rw [← hacc] at h
  apply Ev.succ
  simp only [join_behind.l2]
  refine Ev.if_f (by omega) ?_
  by_cases he : acc = []
  ·rw [if_pos he, List.append_nil] at h
   exact Ev.if_f (by rw [he]; simp) h
  ·rw [if_neg he] at h
   have : 0 < acc.length := List.length_pos_iff.2 he
   exact Ev.if_t (by omega) (Ev.if_t (by omega) h)
 | e + 1, j, acc, hj, hacc => by
  have hlt : j < pl.length := by omega
  have hrd := rd_nat pl j hlt
  have ha := hp _ (List.getElem_mem hlt)
  have eq0 : rd_T35 (q :: t) 0 = q := rfl
  have hw : wrap64 (pl[j] + by_) = pl[j] + by_ := w64 (by omega) (by omega)
  obtain ⟨p, hs⟩ := search_ev (okPost_iff.1 hq).2 hqn (pl[j] + by_)
  have hal : acc.length ≤ pl.length := by rw [hacc]; exact Nat.le_trans (List.length_filter_le _ _) (by rw [List.length_take]; omega)
  have ih := fun a => behind_l2 hq hqn hpl hp hb ho h e (j + 1) a (by omega)
  apply Ev.succ
  simp only [join_behind.l2]
  rw [hrd, eq0, hw, inc j (by omega)]
  refine Ev.if_t (by omega) (Ev.if_t (by omega) (Ev.if_t (by omega) (Ev.if_t (by simp <;> omega) (Ev.bind hs ?_))))
  by_cases hm : pl[j] + by_ ∈ q.f1
  ·rw [decide_eq_true hm]
   refine Ev.if_t rfl (Ev.if_t (by omega) (ih _ ?_))
   rw [List.take_succ_eq_append_getElem hlt, List.filter_append, ← hacc]
   simp [hm]
  ·rw [decide_eq_false hm]
   refine Ev.if_f (by simp) (ih _ ?_)
   rw [List.take_succ_eq_append_getElem hlt, List.filter_append, ← hacc]
   simp [hm]
theorem filter_false {c : Int → Bool} {l : List Int} (h : ∀ a ∈ l, c a = false) : l.filter c = [] := by
 rw [List.filter_eq_nil_iff]
 exact fun a ha => by rw [h a ha]; decide
theorem behind_l0 {by_ : Int} (hb : 0 ≤ by_ ∧ by_ ≤ 1000000) (l : List S35) (hl : l.length ≤ 1000000) (hpn : ∀ p ∈ l, p.f1.length ≤ 1000000) : ∀ (e i : Nat) (other out : List S35) (lo lo2 : Int), i + e = l.length → formedGo lo (l.drop i) = true → formedGo lo2 other = true → (∀ q ∈ other, q.f1.length ≤ 1000000) → out.length ≤ i →
  Ev (fun k => join_behind.l0 k other by_ out l (l.length : Int) (i : Int)) (out ++ keep (cOf other by_) (l.drop i))
 | 0, i, other, out, lo, lo2, hi, _, _, _, _ => by
  rw [List.drop_eq_nil_of_le (by omega), keep_nil, List.append_nil]
  apply Ev.succ
  simp only [join_behind.l0]
  exact Ev.if_f (by omega) (Ev.now _)
 | e + 1, i, other, out, lo, lo2, hi, hf, ho, hoq, hol => by
  have hlt : i < l.length := by omega
  rw [dropP hlt] at hf ⊢
  rw [formed_cons] at hf
  have hok := okPost_iff.1 hf.2.2.1
  have hpl := hpn _ (List.getElem_mem hlt)
  have hfo := dropLt_formed (d := l[i].f0) ho
  have hoq2 : ∀ q ∈ dropLt l[i].f0 other, q.f1.length ≤ 1000000 := by
   have : ∀ (L : List S35) (d : Int), ∀ q ∈ dropLt d L, q ∈ L := by
    intro L d
    induction L with
    | nil => intro q h; cases h
    | cons x L ih =>
     intro q h
     rw [dropLt] at h
     split at h
     ·exact List.mem_cons_of_mem _ (ih q h)
     ·exact h
   exact fun q h => hoq q (this _ _ q h)
  have hrest : keep (cOf other by_) (l.drop (i + 1)) = keep (cOf (dropLt l[i].f0 other) by_) (l.drop (i + 1)) :=
   keep_congr fun p hp a _ => by
    have := formed_gt hf.2.2.2 p hp
    unfold cOf
    rw [dropLt_at (by omega)]
  have hhead : ∀ a, cOf other by_ l[i].f0 a = decide (a + by_ ∈ atOf (dropLt l[i].f0 other) l[i].f0) := fun a => by
   unfold cOf
   rw [dropLt_at (Int.le_refl _)]
  have hfil : l[i].f1.filter (cOf other by_ l[i].f0) = l[i].f1.filter (fun a => decide (a + by_ ∈ atOf (dropLt l[i].f0 other) l[i].f0)) := List.filter_congr fun a _ => hhead a
  rw [keep_cons, sieve, hfil, hrest]
  apply Ev.succ
  simp only [join_behind.l0]
  rw [rdP l i hlt]
  refine Ev.if_t (by omega) (Ev.if_t (by omega) (Ev.if_t (by omega) (behind_l1 other ?_)))
  have hhd := @dropLt_head l[i].f0 other
  revert hfo hoq2 hhd
  generalize dropLt l[i].f0 other = o2
  intro hfo hoq2 hhd
  apply Ev.succ
  simp only [join_behind.j2]
  cases o2 with
  | nil =>
   have hn : ∀ L : List S35, keep (cOf [] by_) L = [] := by
    intro L
    induction L with
    | nil => rfl
    | cons p L ih =>
     rw [keep_cons, filter_false (fun a _ => by simp [cOf, atOf]), if_pos rfl, ih]
     rfl
   rw [filter_false (fun a _ => by simp [atOf]), if_pos rfl, hn, List.append_nil, List.append_nil]
   exact Ev.if_t (by simp) (Ev.now _)
  | cons q t =>
   have hqd := hhd rfl
   have eq0 : rd_T35 (q :: t) 0 = q := rfl
   rw [formed_cons] at hfo
   rw [eq0]
   refine Ev.if_f (by simp <;> omega) (Ev.if_t (by simp <;> omega) ?_)
   by_cases hq : q.f0 > l[i].f0
   ·have hat : atOf (q :: t) l[i].f0 = [] := by
     rw [atOf, if_neg (by omega)]
     exact at_none hfo.2.2.2 (by omega)
    rw [hat, filter_false (fun a _ => by simp), if_pos rfl, List.nil_append, inc i (by omega)]
    exact Ev.if_t hq (behind_l0 hb l hl hpn e (i + 1) (q :: t) out l[i].f0 lo2 (by omega) hf.2.2.2 (formed_cons.2 hfo) hoq2 (by omega))
   ·have hat : atOf (q :: t) l[i].f0 = q.f1 := by rw [atOf, if_pos (by omega)]
    rw [hat]
    refine Ev.if_f hq (behind_l2 hfo.2.2.1 (by have := hoq2 q List.mem_cons_self; omega) hpl (rm_gt hok.2) hb (by omega) ?_ l[i].f1.length 0 [] (by omega) (by simp))
    rw [← List.append_assoc, inc i (by omega)]
    exact behind_l0 hb l hl hpn e (i + 1) (q :: t) _ l[i].f0 lo2 (by omega) hf.2.2.2 (formed_cons.2 hfo) hoq2 (by split <;> simp <;> omega)
theorem behind_ev {by_ : Int} (hb : 0 ≤ by_ ∧ by_ ≤ 1000000) {l other : List S35} (hl : l.length ≤ 1000000) (hpn : ∀ p ∈ l, p.f1.length ≤ 1000000) (hf : formedOf l = true) (ho : formedOf other = true) (hoq : ∀ q ∈ other, q.f1.length ≤ 1000000) :
  Ev (fun k => join_behind.f k l other by_) (keep (cOf other by_) l) := by
 unfold join_behind.f
 have := behind_l0 hb l hl hpn l.length 0 other [] (-1) (-1) (by omega) (by simpa using hf) ho hoq (by simp)
 simpa using this
def allIn (d a : Int) : Nat → List (List S35) → Bool
 | _, [] => true
 | k, l :: t => decide (a + (k : Int) ∈ atOf l d) && allIn d a (k + 1) t
def phraseOf (lists : List (List S35)) : List S35 := match lists with
 | [] => []
 | l :: t => keep (fun d a => allIn d a 1 t) l
def Small (lists : List (List S35)) : Prop := lists.length ≤ 100000 ∧ ∀ l ∈ lists, l.length ≤ 100000 ∧ ∀ p ∈ l, p.f1.length ≤ 100000
theorem rdL (x : List (List S35)) (i : Nat) (h : i < x.length) : rd_L3 x (i : Int) = x[i] := by
 simp [rd_L3, h]
theorem phrase_l1 : ∀ (e i : Nat) (found : List S35) (x : List (List S35)), Small x → i + e = x.length → formedOf found = true → found.length ≤ 100000 → (∀ p ∈ found, p.f1.length ≤ 100000) → (∀ l ∈ x, formedOf l = true) →
  Ev (fun k => join_Phrase.l1 k found x (x.length : Int) (i : Int)) (keep (fun d a => allIn d a (i + 1) (x.drop i)) found, 0)
 | 0, i, found, x, hs, hi, hf, hfl, hfp, hx => by
  rw [List.drop_eq_nil_of_le (by omega)]
  have : keep (fun d a => allIn d a (i + 1) []) found = found := keep_all fun p hp => (okPost_iff.1 (formed_gt hf p hp).2.2).1
  rw [this]
  apply Ev.succ
  simp only [join_Phrase.l1]
  exact Ev.if_f (by omega) (Ev.now _)
 | e + 1, i, found, x, hs, hi, hf, hfl, hfp, hx => by
  have hlt : i < x.length := by omega
  have hxi := hs.2 _ (List.getElem_mem hlt)
  have hb := behind_ev (by_ := ((i + 1 : Nat) : Int)) ⟨by omega, by have := hs.1; omega⟩ (l := found) (other := x[i]) (by omega) (fun p hp => by have := hfp p hp; omega) hf (hx _ (List.getElem_mem hlt)) (fun q hq => by have := hxi.2 q hq; omega)
  have hk := keep_few (cOf x[i] ((i + 1 : Nat) : Int)) hfp
  have ih := phrase_l1 e (i + 1) (keep (cOf x[i] ((i + 1 : Nat) : Int)) found) x hs (by omega) (keep_formed _ hf) (by omega) hk.1 hx
  rw [keep_keep] at ih
  rw [List.drop_eq_getElem_cons hlt]
  apply Ev.succ
  simp only [join_Phrase.l1]
  rw [rdL x i hlt, inc i (by have := hs.1; omega)]
  exact Ev.if_t (by omega) (Ev.if_t (by omega) (Ev.if_t (by omega) (Ev.bind hb ih)))
theorem phrase_l0 (x : List (List S35)) (l : List S35) (t : List (List S35)) (hx : x = l :: t) (hs : Small x) (hf : ∀ m ∈ x, formedOf m = true) : ∀ (e i : Nat) (out : List S35), i + e = l.length → out = l.take i →
  Ev (fun k => join_Phrase.l0 k x out l (l.length : Int) (i : Int)) (phraseOf x, 0)
 | 0, i, out, hi, ho => by
  rw [List.take_of_length_le (by omega)] at ho
  subst ho; subst hx
  have hl := hs.2 out List.mem_cons_self
  have := phrase_l1 t.length 0 out t ⟨by have := hs.1; simp at this; omega, fun m hm => hs.2 m (List.mem_cons_of_mem _ hm)⟩ (by omega) (hf _ List.mem_cons_self) hl.1 hl.2 (fun m hm => hf m (List.mem_cons_of_mem _ hm))
  apply Ev.succ
  simp only [join_Phrase.l0]
  refine Ev.if_f (by omega) (Ev.if_t (by simp <;> omega) (Ev.obind rfl ?_))
  simpa [phraseOf] using this
 | e + 1, i, out, hi, ho => by
  have hlt : i < l.length := by omega
  have hl := hs.2 l (by rw [hx]; exact List.mem_cons_self)
  have hp := hl.2 _ (List.getElem_mem hlt)
  have hc : slices_Clone_int_int.f l[i].f1 = some l[i].f1 := by unfold slices_Clone_int_int.f; rw [if_pos (by omega)]
  apply Ev.succ
  simp only [join_Phrase.l0]
  rw [rdP l i hlt, inc i (by omega)]
  refine Ev.if_t (by omega) (Ev.if_t (by omega) (Ev.if_t (by omega) (Ev.obind hc (Ev.if_t (by rw [ho, List.length_take]; omega) (phrase_l0 x l t hx hs hf e (i + 1) _ (by omega) ?_)))))
  rw [List.take_succ_eq_append_getElem hlt, ho]
theorem any_l0 (x : List (List S35)) (hs : Small x) : ∀ (e i : Nat), i + e = x.length → ∃ r : Int, Ev (fun k => api_Post_34.l0 k x (x.length : Int) (i : Int)) r ∧ decide (r ≥ 0) = !((x.drop i).all formedOf)
 | 0, i, hi => by
  refine ⟨-1, ?_, by rw [List.drop_eq_nil_of_le (by omega)]; rfl⟩
  apply Ev.succ
  simp only [api_Post_34.l0]
  exact Ev.if_f (by omega) (Ev.now _)
 | e + 1, i, hi => by
  have hlt : i < x.length := by omega
  have hxi := hs.2 _ (List.getElem_mem hlt)
  have h1 : Ev (fun k => join_Phrase_1.f k x[i]) (!formedOf x[i]) := by
   unfold join_Phrase_1.f
   exact Ev.bind (formed_ev x[i] (by omega) (fun p hp => by have := hxi.2 p hp; omega)) (Ev.now _)
  obtain ⟨r, hr, hd⟩ := any_l0 x hs e (i + 1) (by omega)
  rw [List.drop_eq_getElem_cons hlt, List.all_cons]
  cases hfx : formedOf x[i] with
  | true =>
   rw [hfx] at h1
   refine ⟨r, ?_, by rw [hd]; rfl⟩
   apply Ev.succ
   simp only [api_Post_34.l0]
   rw [rdL x i hlt, inc i (by have := hs.1; omega)]
   exact Ev.if_t (by omega) (Ev.if_t (by omega) (Ev.if_t (by omega) (Ev.bind h1 (Ev.if_f (by decide) hr))))
  | false =>
   rw [hfx] at h1
   refine ⟨(i : Int), ?_, by simp⟩
   apply Ev.succ
   simp only [api_Post_34.l0]
   rw [rdL x i hlt]
   exact Ev.if_t (by omega) (Ev.if_t (by omega) (Ev.if_t (by omega) (Ev.bind h1 (Ev.if_t rfl (Ev.now _)))))
def fitOf (x : List (List S35)) : Bool := decide (x ≠ []) && x.all formedOf
theorem phrase_ev {x : List (List S35)} (hs : Small x) : Ev (fun k => join_Phrase.f k x) (if fitOf x then (phraseOf x, 0) else ([], 1)) := by
 have bad : Ev (fun k => join_Phrase.j0 k x true) (([] : List S35), (1 : Int)) := by
  apply Ev.succ
  simp only [join_Phrase.j0]
  exact Ev.if_t trivial (Ev.now _)
 unfold join_Phrase.f
 cases x with
 | nil => exact Ev.if_t rfl bad
 | cons l t =>
  obtain ⟨r, hr, hd⟩ := any_l0 (l :: t) hs (l :: t).length 0 (by omega)
  rw [List.drop_zero] at hd
  have h2 : Ev (fun k => api_Post_25.f k (l :: t) ()) (!((l :: t).all formedOf)) := by
   unfold api_Post_25.f api_Post_34.f
   refine Ev.bind hr ?_
   rw [hd]
   exact Ev.now _
  refine Ev.if_f (by simp <;> omega) (Ev.bind h2 ?_)
  have hfit : fitOf (l :: t) = (l :: t).all formedOf := by simp [fitOf]
  rw [hfit]
  cases ha : (l :: t).all formedOf with
  | false => exact bad
  | true =>
   rw [if_pos rfl]
   apply Ev.succ
   simp only [join_Phrase.j0]
   have e0 : rd_L3 (l :: t) 0 = l := rfl
   rw [e0]
   exact Ev.if_f (by decide) (Ev.if_t (by simp <;> omega) (phrase_l0 (l :: t) l t rfl hs (List.all_eq_true.1 ha) l.length 0 [] (by omega) (by simp)))
end Go.Proofs.YtebkapoabbfmeaaQ
end
section
namespace Go.Proofs.YtebkapoabbfmeaaQ
set_option linter.unusedVariables false
open Go.RowKit Go.Proofs.YtebkapoabbfmeaaW.PrintWords Go.Proofs.YtebkapoabbfmeaaW.PrintMore Go.Proofs.YtebkapoabbfmeaaW.PrintLast Go.Proofs.Ytebkapoabbfmeaa.P
theorem in_l0 (l : List Int) (hl : l.length ≤ 17592186044416) (x : Int) : ∀ (d i : Nat), i + d = l.length → Ev (fun k => dragnetref14_In.l0 k l x (i : Int)) (decide (x ∈ l.drop i))
 | 0, i, hi => by
  rw [List.drop_eq_nil_of_le (by omega)]
  apply Ev.succ
  simp only [dragnetref14_In.l0]
  exact Ev.if_f (by omega) (Ev.now _)
 | d + 1, i, hi => by
  have hlt : i < l.length := by omega
  have ih := in_l0 l hl x d (i + 1) (by omega)
  rw [drop_rd hlt]
  apply Ev.succ
  simp only [dragnetref14_In.l0]
  rw [inc i (by omega)]
  refine Ev.if_t (by omega) (Ev.if_t (by omega) ?_)
  by_cases he : rd l (i : Int) = x
  ·refine Ev.if_t he ?_
   rw [he, decide_eq_true List.mem_cons_self]
   exact Ev.now _
  ·refine Ev.if_f he ?_
   have : (x ∈ rd l (i : Int) :: l.drop (i + 1)) = (x ∈ l.drop (i + 1)) := by
    rw [List.mem_cons]
    exact propext ⟨fun h => h.elim (fun e => absurd e.symm he) id, .inr⟩
   simp only [this]
   exact ih
theorem in_ev (l : List Int) (hl : l.length ≤ 17592186044416) (x : Int) : Ev (fun k => dragnetref14_In.f k l x) (decide (x ∈ l)) := by
 unfold dragnetref14_In.f
 have := in_l0 l hl x l.length 0 (by omega)
 simpa using this
theorem at_l0 (l : List S35) (hl : l.length ≤ 17592186044416) (x : Int) : ∀ (d i : Nat), i + d = l.length → Ev (fun k => dragnetref14_at.l0 k l x (i : Int)) (atOf (l.drop i) x)
 | 0, i, hi => by
  rw [List.drop_eq_nil_of_le (by omega)]
  apply Ev.succ
  simp only [dragnetref14_at.l0]
  exact Ev.if_f (by omega) (Ev.now _)
 | d + 1, i, hi => by
  have hlt : i < l.length := by omega
  have ih := at_l0 l hl x d (i + 1) (by omega)
  rw [dropP hlt, atOf]
  apply Ev.succ
  simp only [dragnetref14_at.l0]
  rw [inc i (by omega), rdP l i hlt]
  refine Ev.if_t (by omega) (Ev.if_t (by omega) ?_)
  by_cases he : l[i].f0 = x
  ·rw [if_pos he]
   exact Ev.if_t he (Ev.now _)
  ·rw [if_neg he]
   exact Ev.if_f he ih
theorem at_ev (l : List S35) (hl : l.length ≤ 17592186044416) (x : Int) : Ev (fun k => dragnetref14_at.f k l x) (atOf l x) := by
 unfold dragnetref14_at.f
 have := at_l0 l hl x l.length 0 (by omega)
 simpa using this
theorem at_length {n : Nat} {l : List S35} (h : ∀ p ∈ l, p.f1.length ≤ n) (d : Int) : (atOf l d).length ≤ n := by
 induction l with
 | nil => simp [atOf]
 | cons p l ih =>
  rw [atOf]
  split
  ·exact h p List.mem_cons_self
  ·exact ih fun q hq => h q (List.mem_cons_of_mem _ hq)
theorem ref_l3 {x : List (List S35)} (hs : Small x) {out : List S35} {i j place d : Int} {acc : List Int} (hp : -1 < place ∧ place ≤ 2147483647) (ha : acc.length ≤ 100000) {R : List S35 × Int} (b0 : Bool)
  (h : Ev (fun k => dragnetref14_Phrase.l2 k x out i (wrap64 (j + 1)) d (if b0 then acc ++ [place] else acc)) R) : ∀ (e n : Nat) (b : Bool), n + e = x.length → (b && allIn d place n (x.drop n)) = b0 →
  Ev (fun k => dragnetref14_Phrase.l3 k x out i j place b (n : Int) d acc) R
 | e, n, false, hn, hb => by
  have hb0 : b0 = false := by simpa using hb.symm
  subst hb0
  have hj : Ev (fun k => dragnetref14_Phrase.j4 k x out i j place false (n : Int) false d acc) R := by
   apply Ev.succ
   simp only [dragnetref14_Phrase.j4]
   exact Ev.if_f (by decide) (Ev.if_f (by decide) h)
  apply Ev.succ
  simp only [dragnetref14_Phrase.l3]
  by_cases hlt : (n : Int) < (x.length : Int)
  ·exact Ev.if_t hlt hj
  ·exact Ev.if_f hlt hj
 | 0, n, true, hn, hb => by
  rw [List.drop_eq_nil_of_le (by omega), allIn] at hb
  have hb0 : b0 = true := by simpa using hb.symm
  subst hb0
  apply Ev.succ
  simp only [dragnetref14_Phrase.l3]
  refine Ev.if_f (by omega) ?_
  apply Ev.succ
  simp only [dragnetref14_Phrase.j4]
  exact Ev.if_f (by decide) (Ev.if_t (by trivial) (Ev.if_t (by omega) h))
 | e + 1, n, true, hn, hb => by
  have hlt : n < x.length := by omega
  have hxn := hs.2 _ (List.getElem_mem hlt)
  rw [List.drop_eq_getElem_cons hlt, allIn, Bool.true_and] at hb
  have hw : wrap64 (place + (n : Int)) = place + (n : Int) := by have := hs.1; exact w64 (by omega) (by omega)
  have hal := at_length (n := 100000) hxn.2 d
  apply Ev.succ
  simp only [dragnetref14_Phrase.l3]
  refine Ev.if_t (by omega) ?_
  apply Ev.succ
  simp only [dragnetref14_Phrase.j4]
  rw [rdL x n hlt, inc n (by have := hs.1; omega), hw]
  exact Ev.if_t (by trivial) (Ev.if_t (by omega) (Ev.if_t (by omega) (Ev.bind (at_ev x[n] (by omega) d) (Ev.bind (in_ev _ (by omega) _) (ref_l3 hs hp ha b0 h e (n + 1) _ (by omega) hb)))))
theorem ref_l2 {l : List S35} {t : List (List S35)} (hs : Small (l :: t)) {i : Nat} (hi : i < l.length) (hok : okPost l[i] = true) {out : List S35} (ho : out.length ≤ 100000) {R : List S35 × Int}
    (h : Ev (fun k => dragnetref14_Phrase.l1 k (l :: t) (out ++ (if l[i].f1.filter (fun a => allIn l[i].f0 a 1 t) = [] then [] else [⟨l[i].f0, l[i].f1.filter (fun a => allIn l[i].f0 a 1 t)⟩])) (wrap64 ((i : Int) + 1))) R) :
    ∀ (e j : Nat) (acc : List Int), j + e = l[i].f1.length → acc = (l[i].f1.take j).filter (fun a => allIn l[i].f0 a 1 t) → Ev (fun k => dragnetref14_Phrase.l2 k (l :: t) out (i : Int) (j : Int) l[i].f0 acc) R
  | 0, j, acc, hj, hacc => by
    rw [List.take_of_length_le (by omega)] at hacc
    rw [← hacc] at h
    have e0 : rd_L3 (l :: t) 0 = l := rfl
    apply Ev.succ
    simp only [dragnetref14_Phrase.l2]
    rw [e0, rdP l i hi]
    refine Ev.if_t (by simp <;> omega) (Ev.if_t (by omega) (Ev.if_t (by omega) (Ev.if_f (by omega) ?_)))
    by_cases he : acc = []
    · rw [if_pos he, List.append_nil] at h
      exact Ev.if_f (by rw [he]; simp) h
    · rw [if_neg he] at h
      have : 0 < acc.length := List.length_pos_iff.2 he
      exact Ev.if_t (by omega) (Ev.if_t (by omega) h)
  | e + 1, j, acc, hj, hacc => by
    have hlt : j < l[i].f1.length := by omega
    have hrd := rd_nat l[i].f1 j hlt
    have hpl := (hs.2 l List.mem_cons_self).2 _ (List.getElem_mem hi)
    have ha := rm_gt (okPost_iff.1 hok).2 _ (List.getElem_mem hlt)
    have hal : acc.length ≤ l[i].f1.length := by rw [hacc]; exact Nat.le_trans (List.length_filter_le _ _) (by rw [List.length_take]; omega)
    have e0 : rd_L3 (l :: t) 0 = l := rfl
    have ih := ref_l2 hs hi hok ho h e (j + 1) (if allIn l[i].f0 l[i].f1[j] 1 t then acc ++ [l[i].f1[j]] else acc) (by omega) (by
      rw [List.take_succ_eq_append_getElem hlt, List.filter_append, ← hacc]
      cases hb : allIn l[i].f0 l[i].f1[j] 1 t
      · simp [hb]
      · simp [hb])
    rw [← inc j (by omega)] at ih
    have h3 := ref_l3 hs ha (by omega) (allIn l[i].f0 l[i].f1[j] 1 t) ih t.length 1 true (by simp; omega) (by simp)
    apply Ev.succ
    simp only [dragnetref14_Phrase.l2]
    rw [e0, rdP l i hi, hrd]
    exact Ev.if_t (by simp <;> omega) (Ev.if_t (by omega) (Ev.if_t (by omega) (Ev.if_t (by omega) (Ev.if_t (by omega) h3))))
theorem ref_l1 {l : List S35} {t : List (List S35)} (hs : Small (l :: t)) (hf : formedOf l = true) : ∀ (e i : Nat) (out : List S35), i + e = l.length → out.length ≤ i →
  Ev (fun k => dragnetref14_Phrase.l1 k (l :: t) out (i : Int)) (out ++ keep (fun d a => allIn d a 1 t) (l.drop i), 0)
 | 0, i, out, hi, ho => by
  have e0 : rd_L3 (l :: t) 0 = l := rfl
  rw [List.drop_eq_nil_of_le (by omega), keep_nil, List.append_nil]
  apply Ev.succ
  simp only [dragnetref14_Phrase.l1]
  rw [e0]
  exact Ev.if_t (by simp <;> omega) (Ev.if_f (by omega) (Ev.now _))
 | e + 1, i, out, hi, ho => by
  have hlt : i < l.length := by omega
  have hl := (hs.2 l List.mem_cons_self).1
  have e0 : rd_L3 (l :: t) 0 = l := rfl
  have ih := ref_l1 hs hf e (i + 1) (out ++ (if l[i].f1.filter (fun a => allIn l[i].f0 a 1 t) = [] then [] else [⟨l[i].f0, l[i].f1.filter (fun a => allIn l[i].f0 a 1 t)⟩])) (by omega) (by split <;> simp <;> omega)
  rw [← inc i (by omega), List.append_assoc] at ih
  have h2 := ref_l2 hs hlt (formed_gt hf _ (List.getElem_mem hlt)).2.2 (by omega) ih l[i].f1.length 0 [] (by omega) (by simp)
  rw [dropP hlt, keep_cons]
  apply Ev.succ
  simp only [dragnetref14_Phrase.l1]
  rw [e0, rdP l i hlt]
  exact Ev.if_t (by simp <;> omega) (Ev.if_t (by omega) (Ev.if_t (by omega) h2))
theorem ref_l0 {l : List S35} {t : List (List S35)} (hs : Small (l :: t)) : ∀ (e i : Nat), i + e = (l :: t).length → (∀ m ∈ (l :: t).take i, formedOf m = true) →
  Ev (fun k => dragnetref14_Phrase.l0 k (l :: t) (i : Int)) (if ((l :: t).drop i).all formedOf then (phraseOf (l :: t), 0) else ([], 1))
 | 0, i, hi, hf => by
  rw [List.drop_eq_nil_of_le (by omega)]
  rw [List.take_of_length_le (by omega)] at hf
  have := ref_l1 hs (hf l List.mem_cons_self) l.length 0 [] (by omega) (by simp)
  apply Ev.succ
  simp only [dragnetref14_Phrase.l0]
  exact Ev.if_f (by omega) (by simpa [phraseOf] using this)
 | e + 1, i, hi, hf => by
  have hlt : i < (l :: t).length := by omega
  have hx := hs.2 _ (List.getElem_mem hlt)
  have h1 := ref_formed_ev (l :: t)[i] (by omega) (fun p hp => by have := hx.2 p hp; omega)
  rw [List.drop_eq_getElem_cons hlt, List.all_cons]
  apply Ev.succ
  simp only [dragnetref14_Phrase.l0]
  rw [rdL _ i hlt, inc i (by have := hs.1; omega)]
  refine Ev.if_t (by omega) (Ev.if_t (by omega) (Ev.bind h1 ?_))
  cases hb : formedOf (l :: t)[i] with
  | true =>
   rw [Bool.true_and]
   refine Ev.if_t rfl (ref_l0 hs e (i + 1) (by omega) fun m hm => ?_)
   rw [List.take_succ_eq_append_getElem hlt] at hm
   rcases List.mem_append.1 hm with hm | hm
   ·exact hf m hm
   ·rw [List.mem_singleton] at hm
    rw [hm, hb]
  | false => exact Ev.if_f (by decide) (by simpa using Ev.now _)
theorem ref_phrase_ev {x : List (List S35)} (hs : Small x) : Ev (fun k => dragnetref14_Phrase.f k x) (if fitOf x then (phraseOf x, 0) else ([], 1)) := by
 unfold dragnetref14_Phrase.f
 cases x with
 | nil => exact Ev.if_t rfl (by simpa [fitOf] using Ev.now _)
 | cons l t =>
  refine Ev.if_f (by simp <;> omega) ?_
  have := ref_l0 hs (l :: t).length 0 (by omega) (by simp)
  rw [List.drop_zero] at this
  simpa [fitOf] using this
def greatP : Int → List S35 → Int
 | n, [] => n
 | n, p :: t => if n ≤ 300 then greatP (n + mn (p.f1.length : Int) 1000) t else n
def greatGo : Int → List (List S35) → Bool
 | n, [] => decide (n > 300)
 | n, l :: t => if n ≤ 300 then greatGo (greatP (n + mn (l.length : Int) 1000) l) t else true
theorem mn1000 (a : Nat) : 0 ≤ mn (a : Int) 1000 ∧ mn (a : Int) 1000 ≤ 1000 ∧ (mn (a : Int) 1000 ≤ 300 → a ≤ 300) := by
 unfold mn
 split <;> omega
theorem greatP_range : ∀ (l : List S35) (n : Int), 0 ≤ n → n ≤ 1300 → n ≤ greatP n l ∧ greatP n l ≤ 1300
 | [], n, _, _ => by simp [greatP]; omega
 | p :: t, n, h0, h1 => by
  rw [greatP]
  split
  ·have hr := mn1000 p.f1.length
   have := greatP_range t _ (by omega) (show n + mn (p.f1.length : Int) 1000 ≤ 1300 by omega)
   omega
  ·omega
theorem greatP_few : ∀ (l : List S35) (n : Int), 0 ≤ n → n ≤ 1300 → greatP n l ≤ 300 → ∀ p ∈ l, p.f1.length ≤ 300
 | [], _, _, _, _ => fun _ h => by cases h
 | p :: t, n, h0, h1, h => by
  have hr := mn1000 p.f1.length
  rw [greatP] at h
  split at h
  ·have hb := greatP_range t _ (by omega) (show n + mn (p.f1.length : Int) 1000 ≤ 1300 by omega)
   have ih := greatP_few t _ (by omega) (by omega) h
   intro q hq
   rcases List.mem_cons.1 hq with rfl | hq
   ·exact hr.2.2 (by omega)
   ·exact ih q hq
  ·omega
theorem greatGo_few : ∀ (x : List (List S35)) (n : Int), 0 ≤ n → greatGo n x = false → n ≤ 300 ∧ ∀ l ∈ x, l.length ≤ 300 ∧ ∀ p ∈ l, p.f1.length ≤ 300
 | [], n, _, h => by simp [greatGo] at h; exact ⟨h, fun _ h => by cases h⟩
 | l :: t, n, h0, h => by
  have hr := mn1000 l.length
  rw [greatGo] at h
  split at h
  ·have hb := greatP_range l (n + mn (l.length : Int) 1000) (by omega) (by omega)
   obtain ⟨h1, h2⟩ := greatGo_few t _ (by omega) h
   refine ⟨by assumption, fun m hm => ?_⟩
   rcases List.mem_cons.1 hm with rfl | hm
   ·exact ⟨hr.2.2 (by omega), greatP_few m _ (by omega) (by omega) h1⟩
   ·exact h2 m hm
  ·cases h
theorem great_l1 (x : List (List S35)) (hx : x.length ≤ 17592186044416) (i : Nat) (hi : i < x.length) (hl : x[i].length ≤ 17592186044416) {R : Bool} : ∀ (e j : Nat) (n : Int), j + e = x[i].length → 0 ≤ n → n ≤ 1300 →
  Ev (fun k => dragnetlaw14_great.l0 k x (greatP n (x[i].drop j)) (wrap64 ((i : Int) + 1))) R → Ev (fun k => dragnetlaw14_great.l1 k x n (i : Int) (j : Int)) R
 | 0, j, n, hj, h0, h1, h => by
  rw [List.drop_eq_nil_of_le (by omega), greatP] at h
  apply Ev.succ
  simp only [dragnetlaw14_great.l1]
  rw [rdL x i hi]
  exact Ev.if_t (by omega) (Ev.if_t (by omega) (Ev.if_f (by omega) h))
 | e + 1, j, n, hj, h0, h1, h => by
  have hlt : j < x[i].length := by omega
  have hr := mn1000 x[i][j].f1.length
  rw [dropP hlt, greatP] at h
  apply Ev.succ
  simp only [dragnetlaw14_great.l1]
  rw [rdL x i hi, rdP _ j hlt, inc j (by omega)]
  refine Ev.if_t (by omega) (Ev.if_t (by omega) (Ev.if_t (by omega) ?_))
  by_cases hn : n ≤ 300
  ·rw [if_pos hn] at h
   rw [w64 (x := n + mn (x[i][j].f1.length : Int) 1000) (by omega) (by omega)]
   exact Ev.if_t hn (Ev.if_t (by omega) (great_l1 x hx i hi hl e (j + 1) _ (by omega) (by omega) (by omega) h))
  ·rw [if_neg hn] at h
   exact Ev.if_f hn h
theorem greatP_over (l : List S35) {n : Int} (h : 300 < n) : greatP n l = n := by
 cases l with
 | nil => rfl
 | cons p t => rw [greatP, if_neg (by omega)]
theorem great_l1' (x : List (List S35)) (hx : x.length ≤ 17592186044416) (i : Nat) (hi : i < x.length) {R : Bool} (n : Int) (h0 : 0 ≤ n) (h1 : n ≤ 300)
  (h : Ev (fun k => dragnetlaw14_great.l0 k x (greatP (n + mn (x[i].length : Int) 1000) x[i]) (wrap64 ((i : Int) + 1))) R) : Ev (fun k => dragnetlaw14_great.l1 k x (n + mn (x[i].length : Int) 1000) (i : Int) 0) R := by
 have hr := mn1000 x[i].length
 by_cases hl : x[i].length ≤ 17592186044416
 ·have := great_l1 x hx i hi hl (R := R) x[i].length 0 (n + mn (x[i].length : Int) 1000) (by omega) (by omega) (by omega) (by rw [List.drop_zero]; exact h)
  exact this
 ·have hm : mn (x[i].length : Int) 1000 = 1000 := by unfold mn; split <;> omega
  rw [hm] at h ⊢
  rw [greatP_over _ (by omega)] at h
  apply Ev.succ
  simp only [dragnetlaw14_great.l1]
  rw [rdL x i hi]
  exact Ev.if_t (by omega) (Ev.if_t (by omega) (Ev.if_t (by omega) (Ev.if_f (by omega) h)))
theorem great_l0 (x : List (List S35)) (hx : x.length ≤ 17592186044416) : ∀ (e i : Nat) (n : Int), i + e = x.length → 0 ≤ n → n ≤ 17592186044416 →
  Ev (fun k => dragnetlaw14_great.l0 k x n (i : Int)) (greatGo n (x.drop i))
 | 0, i, n, hi, h0, h1 => by
  rw [List.drop_eq_nil_of_le (by omega), greatGo]
  apply Ev.succ
  simp only [dragnetlaw14_great.l0]
  refine Ev.if_f (by omega) ?_
  apply Ev.succ
  simp only [dragnetlaw14_great.j1]
  exact Ev.if_f (by decide) (Ev.now _)
 | e + 1, i, n, hi, h0, h1 => by
  have hlt : i < x.length := by omega
  have hr := mn1000 x[i].length
  rw [List.drop_eq_getElem_cons hlt, greatGo]
  apply Ev.succ
  simp only [dragnetlaw14_great.l0]
  refine Ev.if_t (by omega) ?_
  apply Ev.succ
  simp only [dragnetlaw14_great.j1]
  rw [rdL x i hlt]
  by_cases hn : n ≤ 300
  ·rw [if_pos hn, decide_eq_true hn, w64 (x := n + mn (x[i].length : Int) 1000) (by omega) (by omega)]
   have hb := greatP_range x[i] (n + mn (x[i].length : Int) 1000) (by omega) (by omega)
   have ih := great_l0 x hx e (i + 1) (greatP (n + mn (x[i].length : Int) 1000) x[i]) (by omega) (by omega) (by omega)
   rw [← inc i (by omega)] at ih
   exact Ev.if_t rfl (Ev.if_t (by omega) (Ev.if_t (by omega) (great_l1' x hx i hlt n h0 hn ih)))
  ·rw [if_neg hn, decide_eq_false hn]
   refine Ev.if_f (by decide) ?_
   rw [decide_eq_true (show n > 300 by omega)]
   exact Ev.now _
theorem great_ev (x : List (List S35)) (hx : x.length ≤ 17592186044416) : Ev (fun k => dragnetlaw14_great.f k x) (greatGo x.length x) := by
 unfold dragnetlaw14_great.f
 have := great_l0 x hx x.length 0 x.length (by omega) (by omega) (by omega)
 simpa using this
theorem small_of_few {x : List (List S35)} (h : greatGo x.length x = false) : Small x := by
 obtain ⟨h1, h2⟩ := greatGo_few x _ (by omega) h
 exact ⟨by omega, fun l hl => ⟨by have := (h2 l hl).1; omega, fun p hp => by have := (h2 l hl).2 p hp; omega⟩⟩
theorem phrase_formed {x : List (List S35)} (h : fitOf x = true) : formedOf (phraseOf x) = true := by
 cases x with
 | nil => rfl
 | cons l t =>
  have := List.all_eq_true.1 (by simpa [fitOf] using h : (l :: t).all formedOf = true) l List.mem_cons_self
  exact keep_formed _ this
theorem phrase_small {x : List (List S35)} (h : Small x) : (phraseOf x).length ≤ 100000 ∧ ∀ p ∈ phraseOf x, p.f1.length ≤ 100000 := by
 cases x with
 | nil => exact ⟨Nat.zero_le _, fun _ h => by cases h⟩
 | cons l t =>
  have hl := h.2 l List.mem_cons_self
  have := keep_few (fun d a => allIn d a 1 t) hl.2
  exact ⟨by show (keep _ l).length ≤ _; omega, this.1⟩
end Go.Proofs.YtebkapoabbfmeaaQ
end
section
namespace Go.Proofs.Ytebkapoabbfmeaa.Pure
open Go.RowKit Go.Proofs.Ytebkapoabbfmeaa.P Go.Proofs.YtebkapoabbfmeaaW.PrintWords Go.Proofs.YtebkapoabbfmeaaW.PrintLast Go.Proofs.YtebkapoabbfmeaaQ
theorem phrases_l1 {x : List (List S35)} (hs : Small x) : ∀ (e i : Nat), i + e = x.length → Ev (fun k => dragnetlaw14_JoinPhrases.l1 k x x (i : Int)) true
 | 0, i, hi => by
  apply Ev.succ
  simp only [dragnetlaw14_JoinPhrases.l1]
  exact Ev.if_f (by omega) (Ev.now _)
 | e + 1, i, hi => by
  have hlt : i < x.length := by omega
  have hx := hs.2 _ (List.getElem_mem hlt)
  apply Ev.succ
  simp only [dragnetlaw14_JoinPhrases.l1]
  rw [rdL x i hlt, inc i (by have := hs.1; omega)]
  exact Ev.if_t (by omega) (Ev.if_t (by omega) (Ev.if_t (by omega) (Ev.bind (same_ev x[i] (by omega) (fun p hp => by have := hx.2 p hp; omega)) (Ev.if_t rfl (phrases_l1 hs e (i + 1) (by omega))))))
theorem phrases_l0 {x : List (List S35)} (hs : Small x) : ∀ (e i : Nat), i + e = x.length → Ev (fun k => dragnetlaw14_JoinPhrases.l0 k x (x.take i) (i : Int)) true
 | 0, i, hi => by
  rw [List.take_of_length_le (by omega)]
  have h1 := phrase_ev hs
  have h2 := ref_phrase_ev hs
  apply Ev.succ
  simp only [dragnetlaw14_JoinPhrases.l0]
  refine Ev.if_f (by omega) (Ev.bind h1 (Ev.bind h2 ?_))
  have hend : Ev (fun k => dragnetlaw14_JoinPhrases.j1 k x x (!true)) true := by
   apply Ev.succ
   simp only [dragnetlaw14_JoinPhrases.j1]
   exact Ev.if_f (by decide) (phrases_l1 hs x.length 0 (by omega))
  cases hf : fitOf x with
  | true =>
   have hp := phrase_small hs
   have hfm := ref_formed_ev (phraseOf x) (by omega) (fun p h => by have := hp.2 p h; omega)
   rw [phrase_formed hf] at hfm
   exact Ev.bind (same_ev (phraseOf x) (by omega) (fun p h => by have := hp.2 p h; omega)) (Ev.if_t rfl (Ev.if_t rfl (Ev.bind hfm hend)))
  | false =>
   have hfm := ref_formed_ev [] (by decide) (fun _ h => by cases h)
   exact Ev.bind (same_ev [] (by decide) (fun _ h => by cases h)) (Ev.if_t rfl (Ev.if_t rfl (Ev.bind hfm hend)))
 | e + 1, i, hi => by
  have hlt : i < x.length := by omega
  have hx := hs.2 _ (List.getElem_mem hlt)
  have ih := phrases_l0 hs e (i + 1) (by omega)
  rw [List.take_succ_eq_append_getElem hlt] at ih
  apply Ev.succ
  simp only [dragnetlaw14_JoinPhrases.l0]
  rw [rdL x i hlt, inc i (by have := hs.1; omega)]
  exact Ev.if_t (by omega) (Ev.if_t (by omega) (Ev.bind (copy_ev x[i] (by omega) (fun p hp => by have := hx.2 p hp; omega)) (Ev.if_t (by have := hs.1; rw [List.length_take]; omega) ih)))
theorem JoinPhrases : ∀ (l0 : (List (List S35))), l0.length * 24 ≤ 140737488351232 → (∀ y ∈ l0, (y.length ≤ maxLen ∧ ∀ y0 ∈ y, ((Lit.int .i64 y0.f0).wf = true ∧ (y0.f1.length ≤ maxLen ∧ ∀ y1 ∈ y0.f1, (Lit.int .i64 y1).wf = true)))) → ∃ k, dragnetlaw14_JoinPhrases.f k l0 = some true := by
 intro x hx hm
 refine Ev.rounds (r := true) ?_
 unfold dragnetlaw14_JoinPhrases.f
 refine Ev.bind alive14 (Ev.if_t rfl (Ev.bind (great_ev x (by omega)) ?_))
 cases hg : greatGo x.length x with
 | true => exact Ev.if_t rfl (Ev.now _)
 | false =>
  have := phrases_l0 (small_of_few hg) x.length 0 (by omega)
  exact Ev.if_f (by decide) (by simpa using this)
end Go.Proofs.Ytebkapoabbfmeaa.Pure
end
