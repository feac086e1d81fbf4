/- Words and proofs that BloomNever leans on; put together by wip/tools/shake.py. -/
import Derived.Test.YtiijfpalnbpfkaaZBloomNever7
import Derived.ArgAppend
import Derived.Below
import Derived.BigQuiet
import Derived.Deep.AppendLies
import Derived.Deep.CutBlock
import Derived.Deep.DeepCutAuto
import Derived.Deep.Draws
import Derived.Deep.LoopGhost
import Derived.Deep.OwnRows
import Derived.Deep.QuietTactic
import Derived.Deep.RegionHeld3
import Derived.Ground.NamesProg
import Derived.Handy
import Derived.KernelRfl
import Derived.Laws.BitsLemmas
import Derived.Laws.BytesArg
import Derived.Laws.Cover1
import Derived.Laws.IdiomCopy
import Derived.Laws.MakeOwn
import Derived.Laws.OwnMore
import Derived.Laws.Rows
import Derived.Laws.Slices
import Derived.Laws.StructEq
import Derived.Lib.AppendStr
import Derived.Lib.BitFns
import Derived.Lib.ConvBytes
import Derived.Lib.OwnBridge
import Derived.Lib.RowBridge
import Derived.Lib.Slices
import Derived.Lib.Small
import Derived.Lib.Strings
import Derived.Lib.Walk
import Derived.LoopIn
import Derived.LoopN
import Derived.LoopNIn
import Derived.Maps.AppendAt
import Derived.OrdersHeld
import Derived.OwnWalk
import Derived.OwnWalkIn
import Derived.RangeFuncBound
import Derived.RangeFuncBox
import Derived.RangeFuncCalls
import Derived.RangeFuncFrom
import Derived.RangeFuncLeaves
import Derived.RangeFuncNested
import Derived.RowKit
import Derived.RowKit3
import Derived.ScopeJumps
import Derived.Shelf.Abstract
import Derived.Shelf.Lay
import Derived.Shelf.Slices.CompactS
import Derived.Shelf.Slices.In.SortNone
import Derived.Shelf.Sort.Plain
import Derived.Sort.EveryDepth
import Derived.Sort.OwnSorted
import Derived.Sort.QuietIn
import Derived.Tactics
import Derived.TacticsInMore
import Derived.Test.YtiijfpalnbpfkaaChecked
import Derived.Test.YtiijfpalnbpfkaaProg
import Derived.WalkKit
import Derived.WalkMore
import Derived.WalkSpells
import Derived.WideLaws
section
namespace Go.Proofs.Ytiijfpalnbpfkaa.P
open Go.RowKit Go.Proofs.YtiijfpalnbpfkaaW.PrintWords Go.Proofs.YtiijfpalnbpfkaaW.PrintLast Go.Proofs.YtiijfpalnbpfkaaW.PrintMore
attribute [local go_sem] max2_int min2_int max_two min_two max_three min_three max_four min_four
set_option linter.unusedVariables false
set_option linter.unusedSimpArgs false
mutual
def dragnetlaw15_BloomNever.j0 : Nat → List ByteArray → List Int → Int × Int → Bool → Option (Bool)
 | 0, _, _, _, _ => none
 | k + 1, x0, x1, x5, x19 => if x19 = true then (some true) else ((bloom_Make.f k x0).bind fun t210 => (dragnetlaw15_BloomNever.l0 k x0 x1 x5 t210 0))
def dragnetlaw15_BloomNever.l0 : Nat → List ByteArray → List Int → Int × Int → List Int → Int → Option (Bool)
 | 0, _, _, _, _, _ => none
 | k + 1, x0, x1, x5, x7, x8 => if x8 < (x0.length : Int) then (if 0 ≤ x8 then ((bloom_Has.f k x7 (rdOf ByteArray.empty x0 x8)).bind fun t214 => (if t214 = true then (dragnetlaw15_BloomNever.l0 k x0 x1 x5 x7 (wrap64 (x8 + 1))) else (some false))) else (none)) else (if (wrap64 ((x1.length : Int) + 1)) = 0 then (none) else (if (wrap64 ((wrap64 ((x1.length : Int) - (Int.tmod (wrap64 (x5.1)) (wrap64 ((x1.length : Int) + 1))))) + 1)) = 0 then (none) else ((bloom_Grams.f k x1).bind fun t215 => ((bloom_Make.f k t215).bind fun t218 => (if 0 ≤ (Int.tmod (wrap64 (x5.1)) (wrap64 ((x1.length : Int) + 1))) then (if (Int.tmod (wrap64 (x5.1)) (wrap64 ((x1.length : Int) + 1))) ≤ (wrap64 ((Int.tmod (wrap64 (x5.1)) (wrap64 ((x1.length : Int) + 1))) + (Int.tmod (wrap64 (x5.2)) (wrap64 ((wrap64 ((x1.length : Int) - (Int.tmod (wrap64 (x5.1)) (wrap64 ((x1.length : Int) + 1))))) + 1))))) then (if (wrap64 ((Int.tmod (wrap64 (x5.1)) (wrap64 ((x1.length : Int) + 1))) + (Int.tmod (wrap64 (x5.2)) (wrap64 ((wrap64 ((x1.length : Int) - (Int.tmod (wrap64 (x5.1)) (wrap64 ((x1.length : Int) + 1))))) + 1))))) ≤ (x1.length : Int) then ((bloom_May.f k t218 (strOfNums ((x1.take ((wrap64 ((Int.tmod (wrap64 (x5.1)) (wrap64 ((x1.length : Int) + 1))) + (Int.tmod (wrap64 (x5.2)) (wrap64 ((wrap64 ((x1.length : Int) - (Int.tmod (wrap64 (x5.1)) (wrap64 ((x1.length : Int) + 1))))) + 1))))) : Int).toNat).drop ((Int.tmod (wrap64 (x5.1)) (wrap64 ((x1.length : Int) + 1))) : Int).toNat))).bind fun t222 => (some t222)) else (none)) else (none)) else (none))))))
end
def dragnetlaw15_BloomNever.f (k : Nat) (l0 : List ByteArray) (l1 : List Int) (a2 : Int × Int) : Option (Bool) := (dragnetlaw15_alive.f k).bind fun t208 => (if t208 = true then ((dragnetlaw15_wide.f k l0).bind fun t209 => (if t209 = true then (dragnetlaw15_BloomNever.j0 k l0 l1 a2 true) else (dragnetlaw15_BloomNever.j0 k l0 l1 a2 (decide ((l1.length : Int) > 4000))))) else (some false))
theorem dragnetlaw15_BloomNever.mono_l : ∀ k, (∀ y0 y1 y2 y3, LeO (dragnetlaw15_BloomNever.j0 k y0 y1 y2 y3) (dragnetlaw15_BloomNever.j0 (k + 1) y0 y1 y2 y3)) ∧ (∀ y0 y1 y2 y3 y4, LeO (dragnetlaw15_BloomNever.l0 k y0 y1 y2 y3 y4) (dragnetlaw15_BloomNever.l0 (k + 1) y0 y1 y2 y3 y4))
 | 0 => ⟨fun _ _ _ _ r h => by simp [dragnetlaw15_BloomNever.j0] at h, fun _ _ _ _ _ r h => by simp [dragnetlaw15_BloomNever.l0] at h⟩
 | k + 1 => by
  obtain ⟨ih0, ih1⟩ := dragnetlaw15_BloomNever.mono_l k
  refine ⟨?_, ?_⟩
  ·intro y0 y1 y2 y3
   unfold dragnetlaw15_BloomNever.j0
   repeat' first
   | (with_reducible exact ih0 _ _ _ _)
   | (with_reducible exact ih1 _ _ _ _ _)
   | (with_reducible exact bloom_Grams.mono _ _)
   | (with_reducible exact bloom_Has.mono _ _ _)
   | (with_reducible exact bloom_Make.mono _ _)
   | (with_reducible exact bloom_May.mono _ _ _)
   | (with_reducible exact dragnetlaw15_alive.mono _)
   | (with_reducible exact dragnetlaw15_wide.mono _ _)
   | (with_reducible exact LeO.refl _)
   | (with_reducible exact LeO.none _)
   | (with_reducible refine LeO.ite ?_ ?_)
   | (with_reducible refine LeO.bind ?_ (fun _ => ?_))
   | exact ih0 _ _ _ _
   | exact ih1 _ _ _ _ _
   | exact bloom_Grams.mono _ _
   | exact bloom_Has.mono _ _ _
   | exact bloom_Make.mono _ _
   | exact bloom_May.mono _ _ _
   | exact dragnetlaw15_alive.mono _
   | exact dragnetlaw15_wide.mono _ _
   | exact LeO.none _
   | refine LeO.ite ?_ ?_
   | refine LeO.bind ?_ (fun _ => ?_)
  ·intro y0 y1 y2 y3 y4
   unfold dragnetlaw15_BloomNever.l0
   repeat' first
   | (with_reducible exact ih0 _ _ _ _)
   | (with_reducible exact ih1 _ _ _ _ _)
   | (with_reducible exact bloom_Grams.mono _ _)
   | (with_reducible exact bloom_Has.mono _ _ _)
   | (with_reducible exact bloom_Make.mono _ _)
   | (with_reducible exact bloom_May.mono _ _ _)
   | (with_reducible exact dragnetlaw15_alive.mono _)
   | (with_reducible exact dragnetlaw15_wide.mono _ _)
   | (with_reducible exact LeO.refl _)
   | (with_reducible exact LeO.none _)
   | (with_reducible refine LeO.ite ?_ ?_)
   | (with_reducible refine LeO.bind ?_ (fun _ => ?_))
   | exact ih0 _ _ _ _
   | exact ih1 _ _ _ _ _
   | exact bloom_Grams.mono _ _
   | exact bloom_Has.mono _ _ _
   | exact bloom_Make.mono _ _
   | exact bloom_May.mono _ _ _
   | exact dragnetlaw15_alive.mono _
   | exact dragnetlaw15_wide.mono _ _
   | exact LeO.none _
   | refine LeO.ite ?_ ?_
   | refine LeO.bind ?_ (fun _ => ?_)
theorem dragnetlaw15_BloomNever.mono : ∀ a0 a1 a2 k, LeO (dragnetlaw15_BloomNever.f k a0 a1 a2) (dragnetlaw15_BloomNever.f (k + 1) a0 a1 a2) := by
 intro a0 a1 a2 k
 obtain ⟨ih0, ih1⟩ := dragnetlaw15_BloomNever.mono_l k
 unfold dragnetlaw15_BloomNever.f
 repeat' first
   | (with_reducible exact ih0 _ _ _ _)
   | (with_reducible exact ih1 _ _ _ _ _)
   | (with_reducible exact bloom_Grams.mono _ _)
   | (with_reducible exact bloom_Has.mono _ _ _)
   | (with_reducible exact bloom_Make.mono _ _)
   | (with_reducible exact bloom_May.mono _ _ _)
   | (with_reducible exact dragnetlaw15_alive.mono _)
   | (with_reducible exact dragnetlaw15_wide.mono _ _)
   | (with_reducible exact LeO.refl _)
   | (with_reducible exact LeO.none _)
   | (with_reducible refine LeO.ite ?_ ?_)
   | (with_reducible refine LeO.bind ?_ (fun _ => ?_))
   | exact ih0 _ _ _ _
   | exact ih1 _ _ _ _ _
   | exact bloom_Grams.mono _ _
   | exact bloom_Has.mono _ _ _
   | exact bloom_Make.mono _ _
   | exact bloom_May.mono _ _ _
   | exact dragnetlaw15_alive.mono _
   | exact dragnetlaw15_wide.mono _ _
   | exact LeO.none _
   | refine LeO.ite ?_ ?_
   | refine LeO.bind ?_ (fun _ => ?_)
def dragnetlaw15_BloomNever.T13 : Bool × List (List Nat × List Nat) := (true, [([], []), ([0], [0]), ([1, 1], [1]), ([], []), ([], []), ([], []), ([], []), ([5, 6], [5, 6]), ([3, 4, 7], [3, 4, 7]), ([8], [8]), ([2, 9, 2], [2, 9]), ([10, 10, 0, 1, 2, 3, 4, 5, 6, 7, 8, 9, 10], [10])])
def dragnetlaw15_BloomNever.B13 : List Nat := [0, 1, 3, 0, 0, 0, 0, 96, 248, 504, 1023, 2047]
theorem dragnetlaw15_BloomNever.tab13 : rtab .any (opsOf Try.f7 13) = dragnetlaw15_BloomNever.T13 := by kernel_rfl
theorem dragnetlaw15_BloomNever.bits13 : waitsOk dragnetlaw15_BloomNever.T13.2 dragnetlaw15_BloomNever.B13 = true := by kernel_rfl
set_option maxHeartbeats 8000000 in
set_option maxRecDepth 100000 in
theorem dragnetlaw15_BloomNever.calls (k : Nat) (A0 : Option Addr) (c0 : Nat) (l0 : List ByteArray) (A1 : Option Addr) (c1 : Nat) (l1 : List Int) (a2 : Int × Int) (r : Bool) (u : World) (hr0 : Kd.C Kd.string u A0 l0.length l0) (hc0 : l0.length ≤ c0) (hr1 : Kd.C (Kd.int .u8) u A1 l1.length l1) (hc1 : l1.length ≤ c1) (h : dragnetlaw15_BloomNever.f k l0 l1 a2 = some r) :
  Calls Try.prog 7 #[.slice A0 l0.length c0, .slice A1 l1.length c1, .agg #[.int .u16 a2.1, .int .u16 a2.2]] u fun e w' => e = .returned (.bool r) ∧ Below u.heap.size u w' := by
 go_enter Try.func7, Try.ntmps7
 go_upto_region 1 with (fail)
 obtain ⟨B, hB⟩ : ∃ B : Nat, Aside0 (B = u.heap.size) := ⟨_, ⟨rfl⟩⟩
 obtain ⟨w, hw⟩ : ∃ w, Aside0 (w = (u.alloc (Obj.cells #[Value.int IntKind.u16 a2.1, Value.int IntKind.u16 a2.2] 39))) := ⟨_, ⟨rfl⟩⟩
 have hcell : w.cell? ⟨B, 0, none⟩ = some (.int .u16 a2.1) ∧ w.cell? ⟨B, 1, none⟩ = some (.int .u16 a2.2) := by
  rw [hw.out, hB.out]
  have hb_ := World.alloc_heap_new u (Obj.cells #[Value.int IntKind.u16 a2.1, Value.int IntKind.u16 a2.2] 39)
  constructor <;> (simp only [World.cell?, hb_]; rfl)
 have HBX := Aside0.mk hcell
 clear hcell
 replace hr0 : Kd.C Kd.string w A0 l0.length l0 := by rw [hw.out]; exact Kd.cA_ hr0 _
 replace hr1 : Kd.C (Kd.int .u8) w A1 l1.length l1 := by rw [hw.out]; exact Kd.cA_ hr1 _
 have HU : Aside0 (∀ w', Below w.heap.size w w' → Below u.heap.size u w') := by
  refine ⟨fun w' hb => ?_⟩
  rw [hw.out] at hb
  exact below_step (pbA_ (Below.refl _ _) _) hb
 rw [← hw.out, ← hB.out]
 clear hB hw
 have HR0 := Aside0.mk hr0
 have HC0 := Aside0.mk hc0
 clear hr0 hc0
 have HR1 := Aside0.mk hr1
 have HC1 := Aside0.mk hc1
 clear hr1 hc1
 have HB := Aside0.mk (Below.refl w.heap.size w)
 have H : ((dragnetlaw15_alive.f k).bind fun t208 => (if t208 = true then ((dragnetlaw15_wide.f k l0).bind fun t209 => (if t209 = true then (dragnetlaw15_BloomNever.j0 k l0 l1 a2 true) else (dragnetlaw15_BloomNever.j0 k l0 l1 a2 (decide ((l1.length : Int) > 4000))))) else (some false))) = some r := h
 clear h
 replace H := Option.bind_eq_some_iff.mp H
 obtain ⟨t208, A40, H⟩ := H
 replace H : (if t208 = true then ((dragnetlaw15_wide.f k l0).bind fun t209 => (if t209 = true then (dragnetlaw15_BloomNever.j0 k l0 l1 a2 true) else (dragnetlaw15_BloomNever.j0 k l0 l1 a2 (decide ((l1.length : Int) > 4000))))) else (some false)) = some r := H
 have A4 := Aside0.mk A40
 clear A40
 by_cases c5 : t208 = true
 ·subst c5
  have H1 : ((dragnetlaw15_wide.f k l0).bind fun t209 => (if t209 = true then (dragnetlaw15_BloomNever.j0 k l0 l1 a2 true) else (dragnetlaw15_BloomNever.j0 k l0 l1 a2 (decide ((l1.length : Int) > 4000))))) = some r := by rw [if_pos rfl] at H; exact H
  clear H
  have H := H1
  clear H1
  have HC6 := Aside0.mk H
  clear H
  go_upto_region 3 with (first | ((with_reducible refine gaC_ (f := 9) rfl ?_); refine goesL_ (some 11) rfl rfl Try.func9 (by kernel_rfl) rfl #[] rfl (by (try simp only [List.map_toArray, List.map_cons, List.map_nil]); first | done | rfl | (simp only [List.length_drop, List.length_take]; rfl)) ?_; (with_reducible refine (dragnetlaw15_alive.calls k  true _ A4.out).mono ?_); rintro e w7 ⟨rfl, hb⟩; refine ⟨_, rfl, ?_⟩; have n0_ := Aside0.mk (below_step (by repeat (first | (with_reducible first | exact HB.out | apply pbA_ | apply pbN_ | apply pb1_) | exact HB.out)) hb); clear HB; have HB := n0_; clear n0_; (try clear hb); (try clear hb2); (try clear hk); (try clear hi)))
  (try simp only [Act.put, List.setIfInBounds_toArray, List.set_cons_zero, List.set_cons_succ])
  go_cut [19] (fun v19 wc => ∃ (kq : Nat) (x19_5 : Bool), v19 = .bool x19_5 ∧ Aside0 (dragnetlaw15_BloomNever.j0 kq l0 l1 a2 x19_5 = some r) ∧ Aside0 (kq ≤ k) ∧ Aside0 (Below w.heap.size w wc))
  case first =>
   have H := HC6.out
   clear HC6
   replace H := Option.bind_eq_some_iff.mp H
   obtain ⟨t209, A80, H⟩ := H
   replace H : (if t209 = true then (dragnetlaw15_BloomNever.j0 k l0 l1 a2 true) else (dragnetlaw15_BloomNever.j0 k l0 l1 a2 (decide ((l1.length : Int) > 4000)))) = some r := H
   have A8 := Aside0.mk A80
   clear A80
   by_cases c9 : t209 = true
   ·subst c9
    have H1 : (dragnetlaw15_BloomNever.j0 k l0 l1 a2 true) = some r := by rw [if_pos rfl] at H; exact H
    clear H
    have H := H1
    clear H1
    have H' := Aside0.mk H
    clear H
    go_wp2_with (first | ((with_reducible refine gaC_ (f := 12) rfl ?_); refine goesL_ (some 14) rfl rfl Try.func12 (by kernel_rfl) rfl #[.slice A0 l0.length c0] rfl (by (try simp only [List.map_toArray, List.map_cons, List.map_nil]); first | done | rfl | (simp only [List.length_drop, List.length_take]; rfl)) ?_; (with_reducible refine (dragnetlaw15_wide.calls k _ _ l0 true _ ?side1 ?side2 A8.out).mono ?_); (case side1 => repeat (first | exact (Kd.C_below HR0.out HB.out) | (with_reducible refine Kd.cA_ ?_ _) | (with_reducible refine Kd.cN_ ?_ _) | (with_reducible refine Kd.cD_ ?_))); (case side2 => exact HC0.out); rintro e w10 ⟨rfl, hb⟩; refine ⟨_, rfl, ?_⟩; have n0_ := Aside0.mk (below_step (by repeat (first | (with_reducible first | exact HB.out | apply pbA_ | apply pbN_ | apply pb1_) | exact HB.out)) hb); clear HB; have HB := n0_; clear n0_; (try clear hb); (try clear hb2); (try clear hk); (try clear hi)))
    go_meet
    case rel => exact ⟨_, (true), (by first | rfl | (simp; done) | (simp [*]; done)), H', ⟨by first | omega | exact Nat.le_refl _⟩, ⟨by repeat (first | (with_reducible first | exact HB.out | apply pbA_ | apply pbN_ | apply pb1_) | exact HB.out)⟩⟩
   ·replace c9 := Bool.eq_false_iff.mpr c9
    subst c9
    have H1 : (dragnetlaw15_BloomNever.j0 k l0 l1 a2 (decide ((l1.length : Int) > 4000))) = some r := by rw [if_neg (show ¬ (false = true) by decide)] at H; exact H
    clear H
    have H := H1
    clear H1
    have H' := Aside0.mk H
    clear H
    go_wp2_with (first | ((with_reducible refine gaC_ (f := 12) rfl ?_); refine goesL_ (some 14) rfl rfl Try.func12 (by kernel_rfl) rfl #[.slice A0 l0.length c0] rfl (by (try simp only [List.map_toArray, List.map_cons, List.map_nil]); first | done | rfl | (simp only [List.length_drop, List.length_take]; rfl)) ?_; (with_reducible refine (dragnetlaw15_wide.calls k _ _ l0 false _ ?side1 ?side2 A8.out).mono ?_); (case side1 => repeat (first | exact (Kd.C_below HR0.out HB.out) | (with_reducible refine Kd.cA_ ?_ _) | (with_reducible refine Kd.cN_ ?_ _) | (with_reducible refine Kd.cD_ ?_))); (case side2 => exact HC0.out); rintro e w11 ⟨rfl, hb⟩; refine ⟨_, rfl, ?_⟩; have n0_ := Aside0.mk (below_step (by repeat (first | (with_reducible first | exact HB.out | apply pbA_ | apply pbN_ | apply pb1_) | exact HB.out)) hb); clear HB; have HB := n0_; clear n0_; (try clear hb); (try clear hb2); (try clear hk); (try clear hi)))
    go_meet
    case rel => exact ⟨_, (decide ((l1.length : Int) > 4000)), (by first | rfl | (simp; done) | (simp [*]; done)), H', ⟨by first | omega | exact Nat.le_refl _⟩, ⟨by repeat (first | (with_reducible first | exact HB.out | apply pbA_ | apply pbN_ | apply pb1_) | exact HB.out)⟩⟩
  case rest =>
   clear HC6
   try clear c1
   try clear p2
   try clear c5
   try clear c7
   try clear c9
   obtain ⟨kq, x19_5, rfl, HA, HJ5, HB⟩ := hcut
   cases kq with
   | zero => exact absurd HA.out (by simp [dragnetlaw15_BloomNever.j0])
   | succ kj5 =>
    have H := HA.out
    clear HA
    simp only [dragnetlaw15_BloomNever.j0] at H
    by_cases c12 : x19_5 = true
    ·subst c12
     have H1 : (some true) = some r := by rw [if_pos rfl] at H; exact H
     clear H
     have H := H1
     clear H1
     obtain rfl := Option.some.inj H
     go_wp2
     go_ret
     exact ⟨by first | rfl | (simp [eWn_, eWs_] <;> rfl) | (simp [*, eWn_, eWs_] <;> rfl), HU.out _ (by repeat (first | (with_reducible first | exact HB.out | apply pbA_ | apply pbN_ | apply pb1_) | exact HB.out))⟩
    ·replace c12 := Bool.eq_false_iff.mpr c12
     subst c12
     have H1 : ((bloom_Make.f kj5 l0).bind fun t210 => (dragnetlaw15_BloomNever.l0 kj5 l0 l1 a2 t210 0)) = some r := by rw [if_neg (show ¬ (false = true) by decide)] at H; exact H
     clear H
     have H := H1
     clear H1
     replace H := Option.bind_eq_some_iff.mp H
     obtain ⟨t210, A130, H⟩ := H
     replace H : (dragnetlaw15_BloomNever.l0 kj5 l0 l1 a2 t210 0) = some r := H
     have A13 := Aside0.mk A130
     clear A130
     have H' := Aside0.mk H
     clear H
     go_wp2_with (first | ((with_reducible refine gaC_ (f := 15) rfl ?_); refine goesL_ (some 21) rfl rfl Try.func15 (by kernel_rfl) rfl #[.slice A0 l0.length c0] rfl (by (try simp only [List.map_toArray, List.map_cons, List.map_nil]); first | done | rfl | (simp only [List.length_drop, List.length_take]; rfl)) ?_; (with_reducible refine (bloom_Make.calls kj5 _ _ l0 t210 _ ?side1 ?side2 A13.out).mono ?_); (case side1 => repeat (first | exact (Kd.C_below HR0.out HB.out) | (with_reducible refine Kd.cA_ ?_ _) | (with_reducible refine Kd.cN_ ?_ _) | (with_reducible refine Kd.cD_ ?_))); (case side2 => exact HC0.out); rintro e w14 ⟨v211, rfl, ho0, hb⟩; refine ⟨_, rfl, ?_⟩; have n0_ := Aside0.mk (Kd.R_lower ho0 (pbS_ (by repeat (first | (with_reducible first | exact HB.out | apply pbA_ | apply pbN_ | apply pb1_) | exact HB.out)))); have n1_ := Aside0.mk (below_step (by repeat (first | (with_reducible first | exact HB.out | apply pbA_ | apply pbN_ | apply pb1_) | exact HB.out)) hb); clear HB; have HO212 := n0_; have HB := n1_; clear n0_ n1_; (try clear hb); (try clear hb2); (try clear hk); (try clear hi); (try clear ho0)))
     go_loopg [8] kj5 (fun kq v8 w' => ∃ (x8_2 : Int), v8 = .int .i64 x8_2 ∧ Aside0 (dragnetlaw15_BloomNever.l0 kq l0 l1 a2 t210 x8_2 = some r) ∧ Aside0 (kq ≤ kj5) ∧ Aside0 (Kd.R (Kd.int .u8) 5 w' w.heap.size (fun _ => True) v211 t210) ∧ Aside0 (Below w.heap.size w w'))
     case atStart => exact ⟨(0), (by first | rfl | (simp; done) | (simp [*]; done)), H', ⟨Nat.le_refl _⟩, ⟨by (with_reducible repeat (first | apply Kd.rA_ | apply Kd.rN_ | apply Kd.rD_)); exact HO212.out⟩, ⟨by repeat (first | (with_reducible first | exact HB.out | apply pbA_ | apply pbN_ | apply pb1_) | exact HB.out)⟩⟩
     case round =>
      clear H'
      try clear c1
      try clear p2
      try clear c5
      try clear c7
      try clear c9
      try clear c12
      try clear p2
      obtain ⟨x8_2, rfl, HA, HK2, HO_7, HB⟩ := hrel
      cases gk with
      | zero => exact absurd HA.out (by simp [dragnetlaw15_BloomNever.l0])
      | succ k2 =>
       have H := HA.out
       clear HA
       simp only [dragnetlaw15_BloomNever.l0] at H
       by_cases c15 : x8_2 < (l0.length : Int)
       ·rw [if_pos c15] at H
        have c15b0 : decide (x8_2 < (l0.length : Int)) = true := decide_eq_true c15
        clear c15
        by_cases c16 : 0 ≤ x8_2
        ·rw [if_pos c16] at H
         have c16b0 : decide (0 ≤ x8_2) = true := decide_eq_true c16
         clear c16
         replace H := Option.bind_eq_some_iff.mp H
         obtain ⟨t214, A170, H⟩ := H
         replace H : (if t214 = true then (dragnetlaw15_BloomNever.l0 k2 l0 l1 a2 t210 (wrap64 (x8_2 + 1))) else (some false)) = some r := H
         have A17 := Aside0.mk A170
         clear A170
         by_cases c18 : t214 = true
         ·subst c18
          have H1 : (dragnetlaw15_BloomNever.l0 k2 l0 l1 a2 t210 (wrap64 (x8_2 + 1))) = some r := by rw [if_pos rfl] at H; exact H
          clear H
          have H := H1
          clear H1
          have H' := Aside0.mk H
          clear H
          have p213 : 0 ≤ (x8_2 : Int) := of_decide_eq_true (by first | (with_reducible assumption) | assumption)
          have q213 : x8_2 < (l0.length : Int) := of_decide_eq_true (by first | (with_reducible assumption) | assumption)
          obtain ⟨ad213, e213, hx213_0⟩ := Kd.at_string HR0.out x8_2 p213 q213
          cases e213
          replace hx213_0 := (HB.out.cell (World.block_lt_of_cell? w _ hx213_0)).trans hx213_0
          replace p213 := eq_true p213
          replace q213 := eq_true q213
          obtain ⟨Ao19, co19, eo19⟩ := Kd.R_slice HO_7.out
          subst eo19
          go_wp2_with (first | ((with_reducible refine gaC_ (f := 18) rfl ?_); refine goesL_ (some 33) rfl rfl Try.func18 (by kernel_rfl) rfl #[.slice Ao19 t210.length co19, .string (rdOf ByteArray.empty l0 x8_2)] rfl (by (try simp only [List.map_toArray, List.map_cons, List.map_nil]); first | done | rfl | (simp only [List.length_drop, List.length_take]; rfl)) ?_; (with_reducible refine (bloom_Has.calls k2 _ _ t210 (rdOf ByteArray.empty l0 x8_2) true _ ?side1 ?side2 A17.out).mono ?_); (case side1 => repeat (first | exact (Kd.R_reads' HO_7.out).2.2 | (with_reducible refine Kd.cA_ ?_ _) | (with_reducible refine Kd.cN_ ?_ _) | (with_reducible refine Kd.cD_ ?_))); (case side2 => exact (Kd.R_reads' HO_7.out).2.1); rintro e w20 ⟨rfl, hb⟩; refine ⟨_, rfl, ?_⟩; have n0_ := Aside0.mk (Kd.R_below (by (with_reducible repeat (first | apply Kd.rA_ | apply Kd.rN_ | apply Kd.rD_)); exact HO_7.out) hb); have n1_ := Aside0.mk (below_step (by repeat (first | (with_reducible first | exact HB.out | apply pbA_ | apply pbN_ | apply pb1_) | exact HB.out)) hb); clear HO_7; clear HB; have HO_7 := n0_; have HB := n1_; clear n0_ n1_; (try clear hb); (try clear hb2); (try clear hk); (try clear hi)))
          go_roundg k2
          case measure => have := HJ5.out; have := HK2.out; omega
          case rel => exact ⟨(wrap64 (x8_2 + 1)), (by first | rfl | (simp; done) | (simp [*]; done)), H', ⟨by have := HJ5.out; have := HK2.out; omega⟩, ⟨by (with_reducible repeat (first | apply Kd.rA_ | apply Kd.rN_ | apply Kd.rD_)); exact HO_7.out⟩, ⟨by repeat (first | (with_reducible first | exact HB.out | apply pbA_ | apply pbN_ | apply pb1_) | exact HB.out)⟩⟩
         ·replace c18 := Bool.eq_false_iff.mpr c18
          subst c18
          have H1 : (some false) = some r := by rw [if_neg (show ¬ (false = true) by decide)] at H; exact H
          clear H
          have H := H1
          clear H1
          obtain rfl := Option.some.inj H
          have p213 : 0 ≤ (x8_2 : Int) := of_decide_eq_true (by first | (with_reducible assumption) | assumption)
          have q213 : x8_2 < (l0.length : Int) := of_decide_eq_true (by first | (with_reducible assumption) | assumption)
          obtain ⟨ad213, e213, hx213_0⟩ := Kd.at_string HR0.out x8_2 p213 q213
          cases e213
          replace hx213_0 := (HB.out.cell (World.block_lt_of_cell? w _ hx213_0)).trans hx213_0
          replace p213 := eq_true p213
          replace q213 := eq_true q213
          obtain ⟨Ao21, co21, eo21⟩ := Kd.R_slice HO_7.out
          subst eo21
          go_wp2_with (first | ((with_reducible refine gaC_ (f := 18) rfl ?_); refine goesL_ (some 33) rfl rfl Try.func18 (by kernel_rfl) rfl #[.slice Ao21 t210.length co21, .string (rdOf ByteArray.empty l0 x8_2)] rfl (by (try simp only [List.map_toArray, List.map_cons, List.map_nil]); first | done | rfl | (simp only [List.length_drop, List.length_take]; rfl)) ?_; (with_reducible refine (bloom_Has.calls k2 _ _ t210 (rdOf ByteArray.empty l0 x8_2) false _ ?side1 ?side2 A17.out).mono ?_); (case side1 => repeat (first | exact (Kd.R_reads' HO_7.out).2.2 | (with_reducible refine Kd.cA_ ?_ _) | (with_reducible refine Kd.cN_ ?_ _) | (with_reducible refine Kd.cD_ ?_))); (case side2 => exact (Kd.R_reads' HO_7.out).2.1); rintro e w22 ⟨rfl, hb⟩; refine ⟨_, rfl, ?_⟩; have n0_ := Aside0.mk (Kd.R_below (by (with_reducible repeat (first | apply Kd.rA_ | apply Kd.rN_ | apply Kd.rD_)); exact HO_7.out) hb); have n1_ := Aside0.mk (below_step (by repeat (first | (with_reducible first | exact HB.out | apply pbA_ | apply pbN_ | apply pb1_) | exact HB.out)) hb); clear HO_7; clear HB; have HO_7 := n0_; have HB := n1_; clear n0_ n1_; (try clear hb); (try clear hb2); (try clear hk); (try clear hi)))
          go_ret
          exact ⟨by first | rfl | (simp [eWn_, eWs_] <;> rfl) | (simp [*, eWn_, eWs_] <;> rfl), HU.out _ (by repeat (first | (with_reducible first | exact HB.out | apply pbA_ | apply pbN_ | apply pb1_) | exact HB.out))⟩
        ·rw [if_neg c16] at H
         exact absurd H (by simp)
       ·rw [if_neg c15] at H
        have c15b0 : decide (x8_2 < (l0.length : Int)) = false := decide_eq_false c15
        clear c15
        by_cases c23 : (wrap64 ((l1.length : Int) + 1)) = 0
        ·rw [if_pos c23] at H
         exact absurd H (by simp)
        ·rw [if_neg c23] at H
         have c23b0 : ((wrap64 ((l1.length : Int) + 1)) == 0) = false := beq_eq_false_iff_ne.mpr c23
         have c23b1 : ((wrap64 ((l1.length : Int) + 1)) != 0) = true := bne_iff_ne.mpr c23
         by_cases c24 : (wrap64 ((wrap64 ((l1.length : Int) - (Int.tmod (wrap64 (a2.1)) (wrap64 ((l1.length : Int) + 1))))) + 1)) = 0
         ·rw [if_pos c24] at H
          exact absurd H (by simp)
         ·rw [if_neg c24] at H
          have c24b0 : ((wrap64 ((wrap64 ((l1.length : Int) - (Int.tmod (wrap64 (a2.1)) (wrap64 ((l1.length : Int) + 1))))) + 1)) == 0) = false := beq_eq_false_iff_ne.mpr c24
          have c24b1 : ((wrap64 ((wrap64 ((l1.length : Int) - (Int.tmod (wrap64 (a2.1)) (wrap64 ((l1.length : Int) + 1))))) + 1)) != 0) = true := bne_iff_ne.mpr c24
          replace H := Option.bind_eq_some_iff.mp H
          obtain ⟨t215, A250, H⟩ := H
          replace H : ((bloom_Make.f k2 t215).bind fun t218 => (if 0 ≤ (Int.tmod (wrap64 (a2.1)) (wrap64 ((l1.length : Int) + 1))) then (if (Int.tmod (wrap64 (a2.1)) (wrap64 ((l1.length : Int) + 1))) ≤ (wrap64 ((Int.tmod (wrap64 (a2.1)) (wrap64 ((l1.length : Int) + 1))) + (Int.tmod (wrap64 (a2.2)) (wrap64 ((wrap64 ((l1.length : Int) - (Int.tmod (wrap64 (a2.1)) (wrap64 ((l1.length : Int) + 1))))) + 1))))) then (if (wrap64 ((Int.tmod (wrap64 (a2.1)) (wrap64 ((l1.length : Int) + 1))) + (Int.tmod (wrap64 (a2.2)) (wrap64 ((wrap64 ((l1.length : Int) - (Int.tmod (wrap64 (a2.1)) (wrap64 ((l1.length : Int) + 1))))) + 1))))) ≤ (l1.length : Int) then ((bloom_May.f k2 t218 (strOfNums ((l1.take ((wrap64 ((Int.tmod (wrap64 (a2.1)) (wrap64 ((l1.length : Int) + 1))) + (Int.tmod (wrap64 (a2.2)) (wrap64 ((wrap64 ((l1.length : Int) - (Int.tmod (wrap64 (a2.1)) (wrap64 ((l1.length : Int) + 1))))) + 1))))) : Int).toNat).drop ((Int.tmod (wrap64 (a2.1)) (wrap64 ((l1.length : Int) + 1))) : Int).toNat))).bind fun t222 => (some t222)) else (none)) else (none)) else (none))) = some r := H
          have A25 := Aside0.mk A250
          clear A250
          replace H := Option.bind_eq_some_iff.mp H
          obtain ⟨t218, A260, H⟩ := H
          replace H : (if 0 ≤ (Int.tmod (wrap64 (a2.1)) (wrap64 ((l1.length : Int) + 1))) then (if (Int.tmod (wrap64 (a2.1)) (wrap64 ((l1.length : Int) + 1))) ≤ (wrap64 ((Int.tmod (wrap64 (a2.1)) (wrap64 ((l1.length : Int) + 1))) + (Int.tmod (wrap64 (a2.2)) (wrap64 ((wrap64 ((l1.length : Int) - (Int.tmod (wrap64 (a2.1)) (wrap64 ((l1.length : Int) + 1))))) + 1))))) then (if (wrap64 ((Int.tmod (wrap64 (a2.1)) (wrap64 ((l1.length : Int) + 1))) + (Int.tmod (wrap64 (a2.2)) (wrap64 ((wrap64 ((l1.length : Int) - (Int.tmod (wrap64 (a2.1)) (wrap64 ((l1.length : Int) + 1))))) + 1))))) ≤ (l1.length : Int) then ((bloom_May.f k2 t218 (strOfNums ((l1.take ((wrap64 ((Int.tmod (wrap64 (a2.1)) (wrap64 ((l1.length : Int) + 1))) + (Int.tmod (wrap64 (a2.2)) (wrap64 ((wrap64 ((l1.length : Int) - (Int.tmod (wrap64 (a2.1)) (wrap64 ((l1.length : Int) + 1))))) + 1))))) : Int).toNat).drop ((Int.tmod (wrap64 (a2.1)) (wrap64 ((l1.length : Int) + 1))) : Int).toNat))).bind fun t222 => (some t222)) else (none)) else (none)) else (none)) = some r := H
          have A26 := Aside0.mk A260
          clear A260
          obtain ⟨ji27, hji27⟩ : ∃ j_ : Int, (Int.tmod (wrap64 (a2.1)) (wrap64 ((l1.length : Int) + 1))) = j_ := ⟨_, rfl⟩
          replace H : (if 0 ≤ (ji27) then (if (ji27) ≤ (wrap64 ((ji27) + (Int.tmod (wrap64 (a2.2)) (wrap64 ((wrap64 ((l1.length : Int) - (ji27))) + 1))))) then (if (wrap64 ((ji27) + (Int.tmod (wrap64 (a2.2)) (wrap64 ((wrap64 ((l1.length : Int) - (ji27))) + 1))))) ≤ (l1.length : Int) then ((bloom_May.f k2 t218 (strOfNums ((l1.take ((wrap64 ((ji27) + (Int.tmod (wrap64 (a2.2)) (wrap64 ((wrap64 ((l1.length : Int) - (ji27))) + 1))))) : Int).toNat).drop ((ji27) : Int).toNat))).bind fun t222 => (some t222)) else (none)) else (none)) else (none)) = some r := by first | (rw [hji27] at H; exact H) | (simp only [hji27] at H ⊢; exact H)
          (try rw [hji27] at c24b0)
          (try rw [hji27] at c24b1)
          (try rw [hji27] at c24)
          (try rw [hji27] at A25)
          (try rw [hji27] at A26)
          by_cases c28 : 0 ≤ (ji27)
          ·rw [if_pos c28] at H
           have c28b0 := eq_true c28
           have c28b1 : decide (0 ≤ (ji27)) = true := decide_eq_true c28
           clear c28
           by_cases c29 : (ji27) ≤ (wrap64 ((ji27) + (Int.tmod (wrap64 (a2.2)) (wrap64 ((wrap64 ((l1.length : Int) - (ji27))) + 1)))))
           ·rw [if_pos c29] at H
            have c29b0 := eq_true c29
            have c29b1 : decide ((ji27) ≤ (wrap64 ((ji27) + (Int.tmod (wrap64 (a2.2)) (wrap64 ((wrap64 ((l1.length : Int) - (ji27))) + 1)))))) = true := decide_eq_true c29
            by_cases c30 : (wrap64 ((ji27) + (Int.tmod (wrap64 (a2.2)) (wrap64 ((wrap64 ((l1.length : Int) - (ji27))) + 1))))) ≤ (l1.length : Int)
            ·rw [if_pos c30] at H
             have c30b0 := eq_true c30
             have c30b1 : decide ((wrap64 ((ji27) + (Int.tmod (wrap64 (a2.2)) (wrap64 ((wrap64 ((l1.length : Int) - (ji27))) + 1))))) ≤ (l1.length : Int)) = true := decide_eq_true c30
             replace H := Option.bind_eq_some_iff.mp H
             obtain ⟨t222, A310, H⟩ := H
             replace H : (some t222) = some r := H
             have A31 := Aside0.mk A310
             clear A310
             obtain rfl := Option.some.inj H
             have hbx0 := (HB.out.cell (World.block_lt_of_cell? w _ HBX.out.1)).trans HBX.out.1
             have hbx1 := (HB.out.cell (World.block_lt_of_cell? w _ HBX.out.2)).trans HBX.out.2
             try go_wp2
             (try (rw [drewN_self wr]; generalize hq_ : World.drewN wr _ = wr; have n0_ : Aside0 (Kd.R (Kd.int .u8) 5 wr w.heap.size (fun _ => True) v211 t210) := ⟨by rw [← hq_]; exact (by (with_reducible repeat (first | apply Kd.rA_ | apply Kd.rN_ | apply Kd.rD_)); exact HO_7.out)⟩; have n1_ : Aside0 (Below w.heap.size w wr) := ⟨by rw [← hq_]; exact (by repeat (first | (with_reducible first | exact HB.out | apply pbA_ | apply pbN_ | apply pb1_) | exact HB.out))⟩; clear HO_7 HB hq_; have HO_7 := n0_; have HB := n1_; clear n0_ n1_))
             have n0_ := Aside0.mk (Kd.rD_ HO_7.out)
             have n1_ := Aside0.mk (pb1_ HB.out)
             clear HO_7
             clear HB
             have HO_7 := n0_
             have HB := n1_
             clear n0_ n1_
             obtain ⟨i033, hi033, _, hsz33, _⟩ := info_parts info5
             obtain ⟨A33, hcut33, hA33, hC33⟩ := print_mid_of (P := Try.prog) (Value.int .u8) 0 30 5 .i64 .i64 Try.underlying30 hi033 hsz33 A1 c1 l1 (ji27) (wrap64 ((ji27) + (Int.tmod (wrap64 (a2.2)) (wrap64 ((wrap64 ((l1.length : Int) - (ji27))) + 1))))) (of_decide_eq_true (by first | (with_reducible assumption) | assumption)) (by first | omega | exact of_decide_eq_true (by first | (with_reducible assumption) | assumption)) (of_decide_eq_true (by first | (with_reducible assumption) | assumption)) HC1.out
             have HR221 := Aside0.mk (Kd.C_of_reads (h1 := fun _ => rfl) (hA33 _ (Kd.reads_of_C HR1.out)))
             have HC221 := Aside0.mk hC33
             clear hA33 hC33 hi033 hsz33
             refine start_ (n := 12) (S := fun w' => (convert 30 9 (.slice A33 ((l1.take ((wrap64 ((ji27) + (Int.tmod (wrap64 (a2.2)) (wrap64 ((wrap64 ((l1.length : Int) - (ji27))) + 1))))) : Int).toNat).drop ((ji27) : Int).toNat).length (c1 - (ji27).toNat))).run Try.prog w' = .ok (.string (strOfNums ((l1.take ((wrap64 ((ji27) + (Int.tmod (wrap64 (a2.2)) (wrap64 ((wrap64 ((l1.length : Int) - (ji27))) + 1))))) : Int).toNat).drop ((ji27) : Int).toNat))) w') (ds := []) #[false, false, false, false, false, false, false, false, false, false, false, false] (by kernel_rfl) rfl rfl ((Kd.C_string (P := Try.prog) (A := A33) (c := (c1 - (ji27).toNat)) Try.underlying30 Try.underlying5 Try.underlying9 (Kd.C_below HR221.out HB.out))) (fun hHeld => ?_); refine with_tabW dragnetlaw15_BloomNever.tab13 dragnetlaw15_BloomNever.bits13 (fun HT_ HW_ => ?_)
             generalize wr.drew = w32 at HO_7 HB HR221 hHeld ⊢
             refine pure_ (i := 0) (N := some 51) (v := ?_) (a' := ?_) #[tT,fF,fF,fF,fF,fF,fF,fF,fF,fF,fF,fF] rfl rfl (any_of HT_.out (by kernel_rfl)) (fun _ _ _ h => h) (Or.inl ⟨by rfl, ?_⟩) ?_ ?_
             rotate_left
             ·intro w'
              go_simp
              with_reducible rfl
             rotate_left
             ·simp only [Act.put, List.setIfInBounds_toArray, List.set_cons_zero, List.set_cons_succ, i64_w, i32_w]
              rfl
             refine pure_ (i := 3) (N := some 54) (v := ?_) (a' := ?_) #[tT,fF,fF,tT,fF,fF,fF,fF,fF,fF,fF,fF] rfl rfl (any_of HT_.out (by kernel_rfl)) (fun _ _ _ h => h) (Or.inl ⟨by rfl, ?_⟩) ?_ ?_
             rotate_left
             ·intro w'
              go_simp
              with_reducible rfl
             rotate_left
             ·simp only [Act.put, List.setIfInBounds_toArray, List.set_cons_zero, List.set_cons_succ, i64_w, i32_w]
              rfl
             refine pure_ (i := 4) (N := some 55) (v := ?_) (a' := ?_) #[tT,fF,fF,tT,tT,fF,fF,fF,fF,fF,fF,fF] rfl rfl (any_of HT_.out (by kernel_rfl)) (fun _ _ _ h => h) (Or.inl ⟨by rfl, ?_⟩) ?_ ?_
             rotate_left
             ·intro w'
              go_simp
              with_reducible rfl
             rotate_left
             ·simp only [Act.put, List.setIfInBounds_toArray, List.set_cons_zero, List.set_cons_succ, i64_w, i32_w]
              rfl
             refine pure_ (i := 5) (N := some 56) (v := ?_) (a' := ?_) #[tT,fF,fF,tT,tT,tT,fF,fF,fF,fF,fF,fF] rfl rfl (any_of HT_.out (by kernel_rfl)) (fun _ _ _ h => h) (Or.inl ⟨by rfl, ?_⟩) ?_ ?_
             rotate_left
             ·intro w'
              go_simp
              with_reducible rfl
             rotate_left
             ·simp only [Act.put, List.setIfInBounds_toArray, List.set_cons_zero, List.set_cons_succ, i64_w, i32_w]
              rfl
             refine pure_ (i := 6) (N := some 57) (v := ?_) (a' := ?_) #[tT,fF,fF,tT,tT,tT,tT,fF,fF,fF,fF,fF] rfl rfl (any_of HT_.out (by kernel_rfl)) (fun _ _ _ h => h) (Or.inl ⟨by rfl, ?_⟩) ?_ ?_
             rotate_left
             ·intro w'
              go_simp
              with_reducible rfl
             rotate_left
             ·simp only [Act.put, List.setIfInBounds_toArray, List.set_cons_zero, List.set_cons_succ, i64_w, i32_w]
              rfl
             refine pure_ (i := 7) (N := some 58) (v := ?_) (a' := ?_) #[tT,fF,fF,tT,tT,tT,tT,tT,fF,fF,fF,fF] rfl rfl (any_of HT_.out (by kernel_rfl)) (fun _ _ _ h => h) (Or.inl ⟨by rfl, ?_⟩) ?_ ?_
             rotate_left
             ·intro w'
              go_simp
              with_reducible rfl
             rotate_left
             ·simp only [Act.put, List.setIfInBounds_toArray, List.set_cons_zero, List.set_cons_succ, i64_w, i32_w]
              rfl
             refine pure_ (i := 8) (N := some 59) (v := ?_) (a' := ?_) #[tT,fF,fF,tT,tT,tT,tT,tT,tT,fF,fF,fF] rfl rfl (any_of HT_.out (by kernel_rfl)) (fun _ _ _ h => h) (Or.inl ⟨by rfl, ?_⟩) ?_ ?_
             rotate_left
             ·intro w'
              go_simp
              with_reducible rfl
             rotate_left
             ·simp only [Act.put, List.setIfInBounds_toArray, List.set_cons_zero, List.set_cons_succ, i64_w, i32_w]
              rfl
             refine take_ (i := 9) (N := some 60) (v := ?_) (a' := ?_) #[tT,fF,fF,tT,tT,tT,tT,tT,tT,tT,fF,fF] rfl rfl (take_ofW HT_.out HW_.out (by kernel_rfl)) (fun _ _ _ h => h) (Or.inl ⟨by rfl, ?_⟩) hHeld ?_ ?_
             rotate_left
             ·intro w' s0
              simp only [List.length_drop, List.length_take, Nat.min_eq_left (Int.toNat_le.2 c30)] at s0
              go_simp
              with_reducible rfl
             rotate_left
             ·simp only [Act.put, List.setIfInBounds_toArray, List.set_cons_zero, List.set_cons_succ, i64_w, i32_w]
              rfl
             refine one_ (i := 1) (N := some 52) #[tT,tT,fF,tT,tT,tT,tT,tT,tT,tT,fF,fF] rfl rfl (one_of HT_.out (by kernel_rfl)) (by decide) (fun K hK => ?_)
             refine goes_ Try.func23 (by kernel_rfl) rfl #[.slice A1 l1.length c1] (by rfl) rfl rfl (by (try simp only [List.map_toArray, List.map_cons, List.map_nil]); first | done | rfl | (simp only [List.length_drop, List.length_take]; rfl)) ?_
             with_reducible refine (bloom_Grams.calls k2 _ _ l1 t215 _ ?side1 ?side2 A25.out).mono ?_
             (case side1 => repeat (first | exact (Kd.C_below HR1.out HB.out) | (with_reducible refine Kd.cA_ ?_ _) | (with_reducible refine Kd.cN_ ?_ _) | (with_reducible refine Kd.cD_ ?_)))
             (case side2 => exact HC1.out)
             rintro e w34 ⟨v216, rfl, ho0, hb⟩
             refine ⟨_, rfl, ?_⟩
             have n0_ := Aside0.mk (Kd.R_below (by (with_reducible repeat (first | apply Kd.rA_ | apply Kd.rN_ | apply Kd.rD_)); exact HO_7.out) hb)
             have n1_ := Aside0.mk (Kd.R_lower ho0 (pbS_ (by repeat (first | (with_reducible first | exact HB.out | apply pbA_ | apply pbN_ | apply pb1_) | exact HB.out))))
             have n2_ := Aside0.mk (below_step (by repeat (first | (with_reducible first | exact HB.out | apply pbA_ | apply pbN_ | apply pb1_) | exact HB.out)) hb)
             clear HO_7
             clear HB
             have HO_7 := n0_
             have HO217 := n1_
             have HB := n2_
             clear n0_ n1_ n2_
             (try clear hb)
             (try clear hb2)
             (try clear hk)
             (try clear hi)
             (try clear ho0)
             obtain ⟨Ao35, co35, eo35⟩ := Kd.R_slice HO217.out
             (first | subst eo35 | (injection eo35 with f1_ f2_ f3_; have f4_ := f1_.symm; have f5_ := f3_.symm; clear f1_ f2_ f3_; subst f4_; subst f5_))
             refine hK.out _ _ ((Kd.C_string (P := Try.prog) (A := A33) (c := (c1 - (ji27).toNat)) Try.underlying30 Try.underlying5 Try.underlying9 (Kd.C_below HR221.out HB.out))) (fun hHeld => ?_)
             clear hK K
             refine norm_ (a' := ?_) ?_ ?_
             rotate_left
             ·show Act.put _ (some 52) _ = _
              simp only [Act.put, List.setIfInBounds_toArray, List.set_cons_zero, List.set_cons_succ, i64_w, i32_w]
              rfl
             refine one_ (i := 2) (N := some 53) #[tT,tT,tT,tT,tT,tT,tT,tT,tT,tT,fF,fF] rfl rfl (one_of HT_.out (by kernel_rfl)) (by decide) (fun K hK => ?_)
             refine goes_ Try.func15 (by kernel_rfl) rfl #[.slice Ao35 t215.length co35] (by rfl) rfl rfl (by (try simp only [List.map_toArray, List.map_cons, List.map_nil]); first | done | rfl | (simp only [List.length_drop, List.length_take]; rfl)) ?_
             with_reducible refine (bloom_Make.calls k2 _ _ t215 t218 _ ?side1 ?side2 A26.out).mono ?_
             (case side1 => repeat (first | exact (Kd.R_reads' HO217.out).2.2 | (with_reducible refine Kd.cA_ ?_ _) | (with_reducible refine Kd.cN_ ?_ _) | (with_reducible refine Kd.cD_ ?_)))
             (case side2 => exact (Kd.R_reads' HO217.out).2.1)
             rintro e w36 ⟨v219, rfl, ho0, hb⟩
             refine ⟨_, rfl, ?_⟩
             have n0_ := Aside0.mk (Kd.R_elder' (by (with_reducible repeat (first | apply Kd.rA_ | apply Kd.rN_ | apply Kd.rD_)); exact HO_7.out) (Kd.R_base ho0) hb)
             have n1_ := Aside0.mk (Kd.R_below (by (with_reducible repeat (first | apply Kd.rA_ | apply Kd.rN_ | apply Kd.rD_)); exact HO217.out) hb)
             have n2_ := Aside0.mk (Kd.R_lower (Kd.R_new' ho0 (Kd.R_lt (by (with_reducible repeat (first | apply Kd.rA_ | apply Kd.rN_ | apply Kd.rD_)); exact HO_7.out))) (pbS_ (by repeat (first | (with_reducible first | exact HB.out | apply pbA_ | apply pbN_ | apply pb1_) | exact HB.out))))
             have n3_ := Aside0.mk (below_step (by repeat (first | (with_reducible first | exact HB.out | apply pbA_ | apply pbN_ | apply pb1_) | exact HB.out)) hb)
             clear HO_7
             clear HO217
             clear HB
             have HO_7 := n0_
             have HO217 := n1_
             have HO220 := n2_
             have HB := n3_
             clear n0_ n1_ n2_ n3_
             (try clear hb)
             (try clear hb2)
             (try clear hk)
             (try clear hi)
             (try clear ho0)
             refine hK.out _ _ ((Kd.C_string (P := Try.prog) (A := A33) (c := (c1 - (ji27).toNat)) Try.underlying30 Try.underlying5 Try.underlying9 (Kd.C_below HR221.out HB.out))) (fun hHeld => ?_)
             clear hK K
             refine norm_ (a' := ?_) ?_ ?_
             rotate_left
             ·show Act.put _ (some 53) _ = _
              simp only [Act.put, List.setIfInBounds_toArray, List.set_cons_zero, List.set_cons_succ, i64_w, i32_w]
              rfl
             obtain ⟨Ao38, co38, eo38⟩ := Kd.R_slice HO220.out
             (first | subst eo38 | (injection eo38 with f1_ f2_ f3_; have f4_ := f1_.symm; have f5_ := f3_.symm; clear f1_ f2_ f3_; subst f4_; subst f5_))
             refine one_ (i := 10) (N := some 61) #[tT,tT,tT,tT,tT,tT,tT,tT,tT,tT,tT,fF] rfl rfl (one_of HT_.out (by kernel_rfl)) (by decide) (fun K hK => ?_)
             refine goes_ Try.func20 (by kernel_rfl) rfl #[.slice Ao38 t218.length co38, .string (strOfNums ((l1.take ((wrap64 ((ji27) + (Int.tmod (wrap64 (a2.2)) (wrap64 ((wrap64 ((l1.length : Int) - (ji27))) + 1))))) : Int).toNat).drop ((ji27) : Int).toNat))] (by rfl) rfl rfl (by (try simp only [List.map_toArray, List.map_cons, List.map_nil]); first | done | (simp only [hji27]; rfl) | rfl | (simp only [List.length_drop, List.length_take]; rfl)) ?_
             with_reducible refine (bloom_May.calls k2 _ _ t218 (strOfNums ((l1.take ((wrap64 ((ji27) + (Int.tmod (wrap64 (a2.2)) (wrap64 ((wrap64 ((l1.length : Int) - (ji27))) + 1))))) : Int).toNat).drop ((ji27) : Int).toNat)) t222 _ ?side1 ?side2 A31.out).mono ?_
             (case side1 => repeat (first | exact (Kd.R_reads' HO220.out).2.2 | (with_reducible refine Kd.cA_ ?_ _) | (with_reducible refine Kd.cN_ ?_ _) | (with_reducible refine Kd.cD_ ?_)))
             (case side2 => exact (Kd.R_reads' HO220.out).2.1)
             rintro e w39 ⟨rfl, hb⟩
             refine ⟨_, rfl, ?_⟩
             have n0_ := Aside0.mk (Kd.R_below (by (with_reducible repeat (first | apply Kd.rA_ | apply Kd.rN_ | apply Kd.rD_)); exact HO_7.out) hb)
             have n1_ := Aside0.mk (Kd.R_below (by (with_reducible repeat (first | apply Kd.rA_ | apply Kd.rN_ | apply Kd.rD_)); exact HO217.out) hb)
             have n2_ := Aside0.mk (Kd.R_below (by (with_reducible repeat (first | apply Kd.rA_ | apply Kd.rN_ | apply Kd.rD_)); exact HO220.out) hb)
             have n3_ := Aside0.mk (below_step (by repeat (first | (with_reducible first | exact HB.out | apply pbA_ | apply pbN_ | apply pb1_) | exact HB.out)) hb)
             clear HO_7
             clear HO217
             clear HO220
             clear HB
             have HO_7 := n0_
             have HO217 := n1_
             have HO220 := n2_
             have HB := n3_
             clear n0_ n1_ n2_ n3_
             (try clear hb)
             (try clear hb2)
             (try clear hk)
             (try clear hi)
             refine hK.out _ _ ((Kd.C_string (P := Try.prog) (A := A33) (c := (c1 - (ji27).toNat)) Try.underlying30 Try.underlying5 Try.underlying9 (Kd.C_below HR221.out HB.out))) (fun hHeld => ?_)
             clear hK K
             refine norm_ (a' := ?_) ?_ ?_
             rotate_left
             ·show Act.put _ (some 61) _ = _
              simp only [Act.put, List.setIfInBounds_toArray, List.set_cons_zero, List.set_cons_succ, i64_w, i32_w]
              rfl
             refine pure_ (i := 11) (N := some 6) (v := ?_) (a' := ?_) #[tT,tT,tT,tT,tT,tT,tT,tT,tT,tT,tT,tT] rfl rfl (any_of HT_.out (by kernel_rfl)) (fun _ _ _ h => h) (Or.inl ⟨by rfl, ?_⟩) ?_ ?_
             rotate_left
             ·intro w'
              go_simp
              with_reducible rfl
             rotate_left
             ·simp only [Act.put, List.setIfInBounds_toArray, List.set_cons_zero, List.set_cons_succ, i64_w, i32_w]
              rfl
             refine done_ (done_of HT_.out (by kernel_rfl)) ?_
             try go_wp2
             go_ret
             exact ⟨by first | rfl | (simp [eWn_, eWs_] <;> rfl) | (simp only [← hji27]; first | rfl | (simp [eWn_, eWs_] <;> rfl)) | (simp [*, eWn_, eWs_] <;> rfl), HU.out _ (by repeat (first | (with_reducible first | exact HB.out | apply pbA_ | apply pbN_ | apply pb1_) | exact HB.out))⟩
            ·rw [if_neg c30] at H
             exact absurd H (by simp)
           ·rw [if_neg c29] at H
            exact absurd H (by simp)
          ·rw [if_neg c28] at H
           exact absurd H (by simp)
 ·replace c5 := Bool.eq_false_iff.mpr c5
  subst c5
  have H1 : (some false) = some r := by rw [if_neg (show ¬ (false = true) by decide)] at H; exact H
  clear H
  have H := H1
  clear H1
  obtain rfl := Option.some.inj H
  go_wp2_with (first | ((with_reducible refine gaC_ (f := 9) rfl ?_); refine goesL_ (some 11) rfl rfl Try.func9 (by kernel_rfl) rfl #[] rfl (by (try simp only [List.map_toArray, List.map_cons, List.map_nil]); first | done | rfl | (simp only [List.length_drop, List.length_take]; rfl)) ?_; (with_reducible refine (dragnetlaw15_alive.calls k  false _ A4.out).mono ?_); rintro e w40 ⟨rfl, hb⟩; refine ⟨_, rfl, ?_⟩; have n0_ := Aside0.mk (below_step (by repeat (first | (with_reducible first | exact HB.out | apply pbA_ | apply pbN_ | apply pb1_) | exact HB.out)) hb); clear HB; have HB := n0_; clear n0_; (try clear hb); (try clear hb2); (try clear hk); (try clear hi)))
  go_ret
  exact ⟨by first | rfl | (simp [eWn_, eWs_] <;> rfl) | (simp [*, eWn_, eWs_] <;> rfl), HU.out _ (by repeat (first | (with_reducible first | exact HB.out | apply pbA_ | apply pbN_ | apply pb1_) | exact HB.out))⟩
end Go.Proofs.Ytiijfpalnbpfkaa.P
end
