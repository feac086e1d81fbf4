/- Words and proofs that JoinDocs leans on; put together by wip/tools/shake.py. -/
import Derived.Test.YtebkapoabbfmeaaZJoinDocs4
import Derived.Test.YtebkapoabbfmeaaZJoinDocs5
import Derived.Test.YtebkapoabbfmeaaZJoinDocs6
import Derived.Test.YtebkapoabbfmeaaZJoinDocs7
import Derived.ArgAppend
import Derived.Below
import Derived.BigQuiet
import Derived.Deep.AppendLies
import Derived.Deep.CutBlock
import Derived.Deep.DeepCutAuto
import Derived.Deep.Draws
import Derived.Deep.LoopGhost
import Derived.Deep.OwnRows
import Derived.Deep.QuietTactic
import Derived.Deep.RegionHeld3
import Derived.KernelRfl
import Derived.Laws.BitsLemmas
import Derived.Laws.BytesArg
import Derived.Laws.Cover1
import Derived.Laws.IdiomCopy
import Derived.Laws.MakeOwn
import Derived.Laws.OwnMore
import Derived.Laws.Rows
import Derived.Laws.Slices
import Derived.Laws.StructEq
import Derived.Lib.AppendStr
import Derived.Lib.BitFns
import Derived.Lib.ConvBytes
import Derived.Lib.Slices
import Derived.Lib.Small
import Derived.Lib.Strings
import Derived.Lib.Walk
import Derived.Maps.AppendAt
import Derived.OrdersHeld
import Derived.OwnWalk
import Derived.RangeFuncBox
import Derived.RowKit
import Derived.RowKit3
import Derived.ScopeJumps
import Derived.Shelf.Abstract
import Derived.Tactics
import Derived.Test.YtebkapoabbfmeaaProg
import Derived.WalkKit
import Derived.WalkMore
import Derived.WalkSpells
import Derived.WideLaws
section
namespace Go.Proofs.Ytebkapoabbfmeaa.P
open Go.RowKit Go.Proofs.YtebkapoabbfmeaaW.PrintWords Go.Proofs.YtebkapoabbfmeaaW.PrintLast Go.Proofs.YtebkapoabbfmeaaW.PrintMore
attribute [local go_sem] max2_int min2_int max_two min_two max_three min_three max_four min_four
set_option linter.unusedVariables false
set_option linter.unusedSimpArgs false
end Go.Proofs.Ytebkapoabbfmeaa.P
end
section
namespace Go.Proofs.Ytebkapoabbfmeaa.P
open Go.RowKit Go.Proofs.YtebkapoabbfmeaaW.PrintWords Go.Proofs.YtebkapoabbfmeaaW.PrintLast Go.Proofs.YtebkapoabbfmeaaW.PrintMore
attribute [local go_sem] max2_int min2_int max_two min_two max_three min_three max_four min_four
set_option linter.unusedVariables false
set_option linter.unusedSimpArgs false
end Go.Proofs.Ytebkapoabbfmeaa.P
end
section
namespace Go.Proofs.Ytebkapoabbfmeaa.P
open Go.RowKit Go.Proofs.YtebkapoabbfmeaaW.PrintWords Go.Proofs.YtebkapoabbfmeaaW.PrintLast Go.Proofs.YtebkapoabbfmeaaW.PrintMore
attribute [local go_sem] max2_int min2_int max_two min_two max_three min_three max_four min_four
set_option linter.unusedVariables false
set_option linter.unusedSimpArgs false
end Go.Proofs.Ytebkapoabbfmeaa.P
end
section
namespace Go.Proofs.YtebkapoabbfmeaaQ
open Go.RowKit Go.Proofs.YtebkapoabbfmeaaW.PrintWords Go.Proofs.YtebkapoabbfmeaaW.PrintMore Go.Proofs.YtebkapoabbfmeaaW.PrintLast Go.Proofs.Ytebkapoabbfmeaa.P
def Rs : Int → List Int → Bool
 | _, [] => true
 | lo, x :: t => decide (lo < x) && decide (x < 4096) && Rs x t
theorem drop_rd {l : List Int} {i : Nat} (h : i < l.length) : l.drop i = rd l (i : Int) :: l.drop (i + 1) := by
 rw [List.drop_eq_getElem_cons h, rd_nat l i h]
theorem rises_l0 (l : List Int) (hl : l.length ≤ 17592186044416) : ∀ (d i : Nat) (lo : Int), i + d = l.length →
  Ev (fun k => join_Rises.l0 k lo l (l.length : Int) (i : Int)) (Rs lo (l.drop i))
 | 0, i, lo, hi => by
  apply Ev.succ
  simp only [join_Rises.l0]
  rw [List.drop_eq_nil_of_le (by omega)]
  exact Ev.if_f (by omega) (Ev.now _)
 | d + 1, i, lo, hi => by
  have hil : i < l.length := by omega
  apply Ev.succ
  simp only [join_Rises.l0]
  rw [drop_rd hil, inc i (by omega)]
  refine Ev.if_t (by omega) (Ev.if_t (by omega) (Ev.if_t (by omega) ?_))
  by_cases h1 : rd l (i : Int) ≤ lo
  ·refine Ev.if_t h1 ?_
   rw [show Rs lo (rd l (i : Int) :: l.drop (i + 1)) = false by simp [Rs]; omega]
   exact Ev.now _
  ·refine Ev.if_f h1 ?_
   by_cases h2 : rd l (i : Int) ≥ 4096
   ·refine Ev.if_t h2 ?_
    rw [show Rs lo (rd l (i : Int) :: l.drop (i + 1)) = false by simp [Rs]; omega]
    exact Ev.now _
   ·refine Ev.if_f h2 ?_
    rw [show Rs lo (rd l (i : Int) :: l.drop (i + 1)) = Rs (rd l (i : Int)) (l.drop (i + 1)) by simp [Rs]; omega]
    exact rises_l0 l hl d (i + 1) _ (by omega)
theorem rises_ev (l : List Int) (hl : l.length ≤ 17592186044416) : Ev (fun k => join_Rises.f k l) (Rs (-1) l) := by
 unfold join_Rises.f
 have := rises_l0 l hl l.length 0 (-1) (by omega)
 simpa using this
theorem ref_rises_l0 (l : List Int) (hl : l.length ≤ 17592186044416) : ∀ (d i : Nat) (lo : Int), i + d = l.length → -1 ≤ lo → (i = 0 → lo = -1) → (0 < i → lo = rd l ((i - 1 : Nat) : Int)) →
  Ev (fun k => dragnetref14_Rises.l0 k l (i : Int)) (Rs lo (l.drop i))
 | 0, i, lo, hi, _, _, _ => by
  apply Ev.succ
  simp only [dragnetref14_Rises.l0]
  rw [List.drop_eq_nil_of_le (by omega)]
  exact Ev.if_f (by omega) (Ev.now _)
 | d + 1, i, lo, hi, hlo, h0, h1 => by
  have hil : i < l.length := by omega
  apply Ev.succ
  simp only [dragnetref14_Rises.l0]
  rw [drop_rd hil, inc i (by omega)]
  refine Ev.if_t (by omega) (Ev.if_t (by omega) ?_)
  by_cases h2 : rd l (i : Int) < 0
  ·refine Ev.if_t h2 ?_
   rw [show Rs lo (rd l (i : Int) :: l.drop (i + 1)) = false by simp [Rs]; omega]
   exact Ev.now _
  ·refine Ev.if_f h2 ?_
   by_cases h3 : rd l (i : Int) > 4095
   ·refine Ev.if_t h3 ?_
    rw [show Rs lo (rd l (i : Int) :: l.drop (i + 1)) = false by simp [Rs]; omega]
    exact Ev.now _
   ·refine Ev.if_f h3 ?_
    have ih := ref_rises_l0 l hl d (i + 1) (rd l (i : Int)) (by omega) (by omega) (by omega) (fun _ => by rw [Nat.add_sub_cancel])
    rcases Nat.eq_zero_or_pos i with hz | hz
    ·refine Ev.if_f (by omega) ?_
     have := h0 hz
     rw [show Rs lo (rd l (i : Int) :: l.drop (i + 1)) = Rs (rd l (i : Int)) (l.drop (i + 1)) by simp [Rs]; omega]
     exact ih
    ·have hlo2 := h1 hz
     have e : wrap64 ((i : Int) - 1) = ((i - 1 : Nat) : Int) := by rw [w64 (by omega) (by omega)]; omega
     rw [e, ← hlo2]
     refine Ev.if_t (by omega) (Ev.if_t (by omega) (Ev.if_t (by omega) ?_))
     by_cases h4 : lo ≥ rd l (i : Int)
     ·refine Ev.if_t h4 ?_
      rw [show Rs lo (rd l (i : Int) :: l.drop (i + 1)) = false by simp [Rs]; omega]
      exact Ev.now _
     ·refine Ev.if_f h4 ?_
      rw [show Rs lo (rd l (i : Int) :: l.drop (i + 1)) = Rs (rd l (i : Int)) (l.drop (i + 1)) by simp [Rs]; omega]
      exact ih
theorem ref_rises_ev (l : List Int) (hl : l.length ≤ 17592186044416) : Ev (fun k => dragnetref14_Rises.f k l) (Rs (-1) l) := by
 unfold dragnetref14_Rises.f
 have := ref_rises_l0 l hl l.length 0 (-1) (by omega) (by omega) (fun _ => rfl) (fun h => absurd h (by omega))
 simpa using this
theorem ints_l0 (a b : List Int) (hl : a.length ≤ 17592186044416) (hab : a.length = b.length) : ∀ (d i : Nat), i + d = a.length →
  Ev (fun k => dragnetref09_Ints.l0 k a b (i : Int)) (decide (a.drop i = b.drop i))
 | 0, i, hi => by
  apply Ev.succ
  simp only [dragnetref09_Ints.l0]
  rw [List.drop_eq_nil_of_le (by omega), List.drop_eq_nil_of_le (by omega)]
  exact Ev.if_f (by omega) (Ev.now _)
 | d + 1, i, hi => by
  have hil : i < a.length := by omega
  apply Ev.succ
  simp only [dragnetref09_Ints.l0]
  rw [drop_rd hil, drop_rd (l := b) (by omega), inc i (by omega)]
  refine Ev.if_t (by omega) (Ev.if_t (by omega) (Ev.if_t (by omega) ?_))
  by_cases h1 : rd a (i : Int) = rd b (i : Int)
  ·refine Ev.if_t h1 ?_
   rw [h1]
   have := ints_l0 a b hl hab d (i + 1) (by omega)
   simpa using this
  ·refine Ev.if_f h1 ?_
   rw [decide_eq_false (by simp [h1])]
   exact Ev.now _
theorem ints_ev (a b : List Int) (hl : a.length ≤ 17592186044416) : Ev (fun k => dragnetref09_Ints.f k a b) (decide (a = b)) := by
 unfold dragnetref09_Ints.f
 by_cases h : a.length = b.length
 ·refine Ev.if_t (by omega) ?_
  have := ints_l0 a b hl h a.length 0 (by omega)
  simpa using this
 ·refine Ev.if_f (by omega) ?_
  rw [decide_eq_false (fun e => h (by rw [e]))]
  exact Ev.now _
end Go.Proofs.YtebkapoabbfmeaaQ
end
section
namespace Go.Proofs.YtebkapoabbfmeaaQ
open Go.RowKit Go.Proofs.YtebkapoabbfmeaaW.PrintWords Go.Proofs.YtebkapoabbfmeaaW.PrintMore Go.Proofs.YtebkapoabbfmeaaW.PrintLast Go.Proofs.Ytebkapoabbfmeaa.P
theorem alive14 : Ev (fun k => dragnetlaw14_alive.f k) true := Ev.of (fun k => dragnetlaw14_alive.mono k) (k := 40) (by decide +kernel)
end Go.Proofs.YtebkapoabbfmeaaQ
end
section
namespace Go.Proofs.YtebkapoabbfmeaaQ
open Go.RowKit Go.Proofs.YtebkapoabbfmeaaW.PrintWords Go.Proofs.YtebkapoabbfmeaaW.PrintMore Go.Proofs.YtebkapoabbfmeaaW.PrintLast Go.Proofs.Ytebkapoabbfmeaa.P
def docsOf (l : List S35) : List Int := l.map (·.f0)
theorem rd35 (l : List S35) (i : Nat) (h : i < l.length) : (rd_T35 l (i : Int)).f0 = (docsOf l)[i]'(by simpa [docsOf] using h) := by
 simp [rd_T35, docsOf, h]
theorem docs_length (l : List S35) : (docsOf l).length = l.length := by simp [docsOf]
def fillJ (es : List Int) (i : Nat) : List Int := es.take i ++ List.replicate (es.length - i) 0
theorem fillJ_length (es : List Int) (i : Nat) (h : i ≤ es.length) : (fillJ es i).length = es.length := by simp [fillJ]; omega
theorem fillJ_set (es : List Int) (i : Nat) (h : i < es.length) : (fillJ es i).set i es[i] = fillJ es (i + 1) := by
 have e : es.length - i = (es.length - (i + 1)) + 1 := by omega
 unfold fillJ
 rw [e, List.replicate_succ, List.set_append_right _ _ (by simp; omega), List.length_take, Nat.min_eq_left (by omega), Nat.sub_self, List.set_cons_zero, List.take_succ_eq_append_getElem h, List.append_assoc]
 rfl
theorem docs_l0 (l : List S35) (hl : l.length ≤ 17592186044416) : ∀ (d i : Nat), i + d = l.length →
  Ev (fun k => join_Docs.l0 k (fillJ (docsOf l) i) l (l.length : Int) (i : Int)) (docsOf l)
 | 0, i, hi => by
  obtain rfl : i = l.length := by omega
  apply Ev.succ
  simp only [join_Docs.l0]
  rw [show fillJ (docsOf l) l.length = docsOf l by rw [← docs_length]; simp [fillJ]]
  exact Ev.if_f (by omega) (Ev.now _)
 | d + 1, i, hi => by
  have hil : i < l.length := by omega
  have ih := docs_l0 l hl d (i + 1) (by omega)
  rw [← fillJ_set _ i (by rw [docs_length]; exact hil)] at ih
  have hlen := fillJ_length (docsOf l) i (by rw [docs_length]; omega)
  rw [docs_length] at hlen
  apply Ev.succ
  simp only [join_Docs.l0]
  rw [rd35 l i hil, inc i (by omega), Int.toNat_natCast, hlen]
  exact Ev.if_t (by omega) (Ev.if_t (by omega) (Ev.if_t (by omega) (Ev.if_t (by omega) ih)))
theorem docs_ev (l : List S35) (hl : l.length ≤ 17592186044416) : Ev (fun k => join_Docs.f k l) (docsOf l) := by
 unfold join_Docs.f
 refine Ev.if_t (by omega) (Ev.if_t (by omega) ?_)
 have := docs_l0 l hl l.length 0 (by omega)
 simpa [fillJ, docs_length] using this
theorem ref_docs_l0 (l : List S35) (hl : l.length ≤ 17592186044416) : ∀ (d i : Nat), i + d = l.length →
  Ev (fun k => dragnetref13_Docs.l0 k l ((docsOf l).take i) (i : Int)) (docsOf l)
 | 0, i, hi => by
  apply Ev.succ
  simp only [dragnetref13_Docs.l0]
  rw [List.take_of_length_le (by rw [docs_length]; omega)]
  exact Ev.if_f (by omega) (Ev.now _)
 | d + 1, i, hi => by
  have hil : i < l.length := by omega
  have ih := ref_docs_l0 l hl d (i + 1) (by omega)
  rw [List.take_succ_eq_append_getElem (by rw [docs_length]; exact hil)] at ih
  apply Ev.succ
  simp only [dragnetref13_Docs.l0]
  rw [rd35 l i hil, inc i (by omega)]
  exact Ev.if_t (by omega) (Ev.if_t (by omega) (Ev.if_t (by rw [List.length_take]; omega) ih))
theorem ref_docs_ev (l : List S35) (hl : l.length ≤ 17592186044416) : Ev (fun k => dragnetref13_Docs.f k l) (docsOf l) := by
 unfold dragnetref13_Docs.f
 have := ref_docs_l0 l hl l.length 0 (by omega)
 simpa using this
end Go.Proofs.YtebkapoabbfmeaaQ
namespace Go.Proofs.Ytebkapoabbfmeaa.Pure
open Go.RowKit Go.Proofs.Ytebkapoabbfmeaa.P Go.Proofs.YtebkapoabbfmeaaW.PrintWords Go.Proofs.YtebkapoabbfmeaaW.PrintLast Go.Proofs.YtebkapoabbfmeaaQ
theorem JoinDocs : ∀ (l : List S35) (n : List Int), l.length ≤ 17592186044416 → n.length ≤ 17592186044416 → ∃ k, dragnetlaw14_JoinDocs.f k l n = some true := by
 intro l n hl hn
 refine Ev.rounds (r := true) ?_
 unfold dragnetlaw14_JoinDocs.f
 have i1 := ints_ev (docsOf l) (docsOf l) (by rw [docs_length]; exact hl)
 rw [decide_eq_true rfl] at i1
 refine Ev.bind alive14 (Ev.if_t rfl (Ev.bind (docs_ev l hl) (Ev.bind (ref_docs_ev l hl) (Ev.bind i1 (Ev.if_t rfl (Ev.bind (rises_ev n hn) (Ev.bind (ref_rises_ev n hn) ?_)))))))
 rw [beq_self_eq_true]
 exact Ev.now _
end Go.Proofs.Ytebkapoabbfmeaa.Pure
end
