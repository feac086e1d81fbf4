/- Words and proofs that BloomNever leans on; put together by wip/tools/shake.py. -/
import Derived.Test.YtiijfpalnbpfkaaZBloomNever10
import Derived.Test.YtiijfpalnbpfkaaZBloomNever11
import Derived.ArgAppend
import Derived.Below
import Derived.BigQuiet
import Derived.Deep.AppendLies
import Derived.Deep.CutBlock
import Derived.Deep.DeepCutAuto
import Derived.Deep.Draws
import Derived.Deep.LoopGhost
import Derived.Deep.OwnRows
import Derived.Deep.QuietTactic
import Derived.Deep.RegionHeld3
import Derived.Ground.NamesProg
import Derived.Handy
import Derived.KernelRfl
import Derived.Laws.BitsLemmas
import Derived.Laws.BytesArg
import Derived.Laws.Cover1
import Derived.Laws.IdiomCopy
import Derived.Laws.MakeOwn
import Derived.Laws.OwnMore
import Derived.Laws.Rows
import Derived.Laws.Slices
import Derived.Laws.StructEq
import Derived.Lib.AppendStr
import Derived.Lib.BitFns
import Derived.Lib.ConvBytes
import Derived.Lib.OwnBridge
import Derived.Lib.RowBridge
import Derived.Lib.Slices
import Derived.Lib.Small
import Derived.Lib.Strings
import Derived.Lib.Walk
import Derived.LoopIn
import Derived.LoopN
import Derived.LoopNIn
import Derived.Maps.AppendAt
import Derived.OrdersHeld
import Derived.OwnWalk
import Derived.OwnWalkIn
import Derived.RangeFuncBound
import Derived.RangeFuncBox
import Derived.RangeFuncCalls
import Derived.RangeFuncFrom
import Derived.RangeFuncLeaves
import Derived.RangeFuncNested
import Derived.RowKit
import Derived.RowKit3
import Derived.ScopeJumps
import Derived.Shelf.Abstract
import Derived.Shelf.Lay
import Derived.Shelf.Slices.CompactS
import Derived.Shelf.Slices.In.SortNone
import Derived.Shelf.Sort.Plain
import Derived.Sort.EveryDepth
import Derived.Sort.KeysCollected
import Derived.Sort.OwnSorted
import Derived.Sort.QuietIn
import Derived.Sort.Walk0
import Derived.Tactics
import Derived.TacticsInMore
import Derived.Test.YtiijfpalnbpfkaaChecked
import Derived.Test.YtiijfpalnbpfkaaProg
import Derived.WalkKit
import Derived.WalkMore
import Derived.WalkSpells
import Derived.WideLaws
section
namespace Go.Proofs.Ytiijfpalnbpfkaa.Pure
open Go.RowKit Go.Proofs.Ytiijfpalnbpfkaa.P Go.Proofs.YtiijfpalnbpfkaaW.PrintWords Go.Proofs.YtiijfpalnbpfkaaW.PrintLast Go.Proofs.YtiijfpalnbpfkaaQ
theorem bytesOf_nums' {l : List Int} (h : B8 l) : bytesOf (strOfNums l) = l := by
 unfold bytesOf strOfNums
 simp only [List.map_map]
 rw [show l = l.map id from (List.map_id _).symm, List.map_map]
 refine List.map_congr_left fun x hx => ?_
 have := h x hx
 simp only [Function.comp, id, UInt8.toNat_ofNat']
 omega
theorem never_l0 (l : List ByteArray) (hl : l.length ≤ 4000) (hs : ∀ s ∈ l, s.size ≤ hugeS) (b : List Int) (hb : b.length ≤ 4000) (hw : ∀ x ∈ b, (Lit.int .u8 x).wf = true) (c : Int × Int) (h1 : 0 ≤ c.1 ∧ c.1 ≤ 65535) (h2 : 0 ≤ c.2 ∧ c.2 ≤ 65535) : ∀ (d i : Nat), i + d = l.length → Ev (fun k => dragnetlaw15_BloomNever.l0 k l b c (makeOf l) (i : Int)) true
 | 0, i, hi => by
  apply Ev.succ
  simp only [dragnetlaw15_BloomNever.l0]
  have hlen := makeOf_length (gramsOf b)
  have hg := gramsOf_length b
  rw [w64 (x := (b.length : Int) + 1) (by omega) (by omega), w64 (x := c.1) (by omega) (by omega), w64 (x := c.2) (by omega) (by omega)]
  rw [Int.tmod_eq_emod_of_nonneg h1.1, Int.tmod_eq_emod_of_nonneg h2.1]
  have ha := Int.emod_nonneg c.1 (show ((b.length : Int) + 1) ≠ 0 by omega)
  have hb' := Int.emod_lt_of_pos c.1 (show (0 : Int) < (b.length : Int) + 1 by omega)
  obtain ⟨a, ea⟩ := Int.eq_ofNat_of_zero_le ha
  rw [ea] at hb' ⊢
  rw [w64 (x := (b.length : Int) - (a : Int)) (by omega) (by omega), w64 (x := (b.length : Int) - (a : Int) + 1) (by omega) (by omega)]
  have hc := Int.emod_nonneg c.2 (show ((b.length : Int) - (a : Int) + 1) ≠ 0 by omega)
  have hc' := Int.emod_lt_of_pos c.2 (show (0 : Int) < (b.length : Int) - (a : Int) + 1 by omega)
  obtain ⟨n, en⟩ := Int.eq_ofNat_of_zero_le hc
  rw [en] at hc' ⊢
  rw [w64 (x := (a : Int) + (n : Int)) (by omega) (by omega)]
  refine Ev.if_f (by omega) (Ev.if_f (by omega) (Ev.if_f (by omega) (Ev.bind (grams_ev (by omega)) (Ev.bind (make_ev (by omega) (gramsOf_size b)) (Ev.if_t (by omega) (Ev.if_t (by omega) (Ev.if_t (by omega) ?_)))))))
  have e1 : ((a : Int) + (n : Int)).toNat = a + n := by omega
  have e2 : ((a : Int)).toNat = a := by omega
  rw [e1, e2]
  have e3 : (b.take (a + n)).drop a = (b.drop a).take n := by rw [List.drop_take]; congr 1; omega
  rw [e3]
  have e4 : bytesOf (strOfNums ((b.drop a).take n)) = (b.drop a).take n := bytesOf_nums' (fun x hx => wf_u8 (hw x (List.mem_of_mem_drop (List.mem_of_mem_take hx))))
  have e5 : (strOfNums ((b.drop a).take n)).size ≤ 5000 := by rw [← bytesOf_length, e4, List.length_take, List.length_drop]; omega
  refine Ev.bind (may_ev (by omega) e5) ?_
  rw [may_make (by omega) a n e4]
  exact Ev.now _
 | d + 1, i, hi => by
  apply Ev.succ
  simp only [dragnetlaw15_BloomNever.l0]
  have hm := makeOf_length l
  rw [rdB_nat l i (by omega), w64 (x := (i : Int) + 1) (by omega) (by omega)]
  refine Ev.if_t (by omega) (Ev.if_t (by omega) (Ev.bind (has_ev (by omega) (hs _ (List.getElem_mem _))) ?_))
  rw [has_make (by omega) (List.getElem_mem _)]
  exact Ev.if_t rfl (never_l0 l hl hs b hb hw c h1 h2 d (i + 1) (by omega))
theorem BloomNever : ∀ (l0 : (List ByteArray)) (l1 : (List Int)) (a2 : Int × Int), l0.length * 16 ≤ 140737488351232 → (∀ y ∈ l0, y.size ≤ maxLen) → l1.length * 1 ≤ 140737488351232 → (∀ y ∈ l1, (Lit.int .u8 y).wf = true) → (0 ≤ a2.1 ∧ a2.1 ≤ 65535) → (0 ≤ a2.2 ∧ a2.2 ≤ 65535) → ∃ k, dragnetlaw15_BloomNever.f k l0 l1 a2 = some true := by
 intro l b c hl _ hbl hw h1 h2
 refine Ev.rounds (r := true) ?_
 unfold dragnetlaw15_BloomNever.f
 refine Ev.bind alive15 (Ev.if_t rfl (Ev.bind (wide_ev l (by omega)) ?_))
 cases hwd : wideGo l.length l with
 | true =>
  refine Ev.if_t rfl (Ev.succ ?_)
  simp only [dragnetlaw15_BloomNever.j0]
  exact Ev.if_t (by trivial) (Ev.now _)
 | false =>
  obtain ⟨g1, g2⟩ := wide_false l _ (by omega) hwd
  have hs : ∀ s ∈ l, s.size ≤ hugeS := fun s h => by have := g2 s h; unfold hugeS; omega
  refine Ev.if_f (by decide) (Ev.succ ?_)
  simp only [dragnetlaw15_BloomNever.j0]
  by_cases hb : (b.length : Int) > 4000
  ·exact Ev.if_t (decide_eq_true hb) (Ev.now _)
  ·exact Ev.if_f (by rw [decide_eq_true_eq]; exact hb) (Ev.bind (make_ev (by omega) hs) (never_l0 l (by omega) hs b (by omega) hw c h1 h2 l.length 0 (by omega)))
end Go.Proofs.Ytiijfpalnbpfkaa.Pure
end
