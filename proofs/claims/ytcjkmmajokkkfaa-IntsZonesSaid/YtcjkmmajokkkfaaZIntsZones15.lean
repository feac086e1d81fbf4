/- Words and proofs that IntsZones leans on; put together by wip/tools/shake.py. -/
import Derived.Test.YtcjkmmajokkkfaaZIntsZones12
import Derived.Test.YtcjkmmajokkkfaaZIntsZones13
import Derived.Test.YtcjkmmajokkkfaaZIntsZones14
import Derived.ArgAppend
import Derived.Below
import Derived.BigQuiet
import Derived.Deep.AppendLies
import Derived.Deep.CutBlock
import Derived.Deep.DeepCutAuto
import Derived.Deep.Draws
import Derived.Deep.LoopGhost
import Derived.Deep.OwnRows
import Derived.Deep.QuietTactic
import Derived.Deep.RegionHeld3
import Derived.KernelRfl
import Derived.Laws.BitsLemmas
import Derived.Laws.BytesArg
import Derived.Laws.Cover1
import Derived.Laws.IdiomCopy
import Derived.Laws.MakeOwn
import Derived.Laws.OwnMore
import Derived.Laws.Rows
import Derived.Laws.Slices
import Derived.Laws.StructEq
import Derived.Lib.AppendStr
import Derived.Lib.BitFns
import Derived.Lib.ConvBytes
import Derived.Lib.Slices
import Derived.Lib.Small
import Derived.Lib.Strings
import Derived.Lib.Walk
import Derived.LoopIn
import Derived.LoopNIn
import Derived.Maps.AppendAt
import Derived.OrdersHeld
import Derived.OwnWalk
import Derived.OwnWalkIn
import Derived.RangeFuncBound
import Derived.RangeFuncBox
import Derived.RangeFuncCalls
import Derived.RangeFuncFrom
import Derived.RangeFuncLeaves
import Derived.RangeFuncNested
import Derived.RowKit
import Derived.RowKit3
import Derived.ScopeJumps
import Derived.Shelf.Abstract
import Derived.Sort.QuietIn
import Derived.Tactics
import Derived.TacticsInMore
import Derived.Test.YtcjkmmajokkkfaaChecked
import Derived.Test.YtcjkmmajokkkfaaProg
import Derived.WalkKit
import Derived.WalkMore
import Derived.WalkSpells
import Derived.WideLaws
section
namespace Go.Proofs.Ytcjkmmajokkkfaa.P
open Go.RowKit Go.Proofs.YtcjkmmajokkkfaaW.PrintWords Go.Proofs.YtcjkmmajokkkfaaW.PrintLast Go.Proofs.YtcjkmmajokkkfaaW.PrintMore
attribute [local go_sem] max2_int min2_int max_two min_two max_three min_three max_four min_four
set_option linter.unusedVariables false
set_option linter.unusedSimpArgs false
mutual
def dragnetref10_Zones.l0 : Nat → List (S42) → List (S38) → Int → Option ((List (S38)))
 | 0, _, _, _ => none
 | k + 1, x0, x3, x4 => if x4 < (x0.length : Int) then (if (Int.tmod x4 16) = 0 then (if x3.length < 5864062014805 then (dragnetref10_Zones.j1 k x0 (x3 ++ [(⟨false, 0, 0⟩ : S38)]) x4) else (none)) else (dragnetref10_Zones.j1 k x0 x3 x4)) else (some x3)
def dragnetref10_Zones.j1 : Nat → List (S42) → List (S38) → Int → Option ((List (S38)))
 | 0, _, _, _ => none
 | k + 1, x0, x3, x4 => if 0 ≤ (wrap64 ((x3.length : Int) - 1)) then (if (wrap64 ((x3.length : Int) - 1)) < (x3.length : Int) then (if 0 ≤ x4 then (if x4 < (x0.length : Int) then (if ((rd_T42 x0 x4).f0 = true) then (if ((rd_T38 x3 (wrap64 ((x3.length : Int) - 1))).f0 = true) then (dragnetref10_Zones.l0 k x0 (x3.set ((wrap64 ((x3.length : Int) - 1)) : Int).toNat (⟨(rd_T38 x3 (wrap64 ((x3.length : Int) - 1))).f0, mn ((rd_T38 x3 (wrap64 ((x3.length : Int) - 1))).f1) ((rd_T42 x0 x4).f1), mx ((rd_T38 x3 (wrap64 ((x3.length : Int) - 1))).f2) ((rd_T42 x0 x4).f1)⟩ : S38)) (wrap64 (x4 + 1))) else (dragnetref10_Zones.l0 k x0 (x3.set ((wrap64 ((x3.length : Int) - 1)) : Int).toNat (⟨true, mn ((rd_T42 x0 x4).f1) ((rd_T42 x0 x4).f1), mx ((rd_T42 x0 x4).f1) ((rd_T42 x0 x4).f1)⟩ : S38)) (wrap64 (x4 + 1)))) else (dragnetref10_Zones.l0 k x0 x3 (wrap64 (x4 + 1)))) else (none)) else (none)) else (none)) else (none)
end
def dragnetref10_Zones.f (k : Nat) (l0 : List (S42)) : Option ((List (S38))) := (dragnetref10_Formed.f k l0).bind fun t406 => (if t406 = true then (dragnetref10_Zones.l0 k l0 ([] : List (S38)) 0) else (some ([] : List (S38))))
theorem dragnetref10_Zones.mono_l : ∀ k, (∀ y0 y1 y2, LeO (dragnetref10_Zones.l0 k y0 y1 y2) (dragnetref10_Zones.l0 (k + 1) y0 y1 y2)) ∧ (∀ y0 y1 y2, LeO (dragnetref10_Zones.j1 k y0 y1 y2) (dragnetref10_Zones.j1 (k + 1) y0 y1 y2))
 | 0 => ⟨fun _ _ _ r h => by simp [dragnetref10_Zones.l0] at h, fun _ _ _ r h => by simp [dragnetref10_Zones.j1] at h⟩
 | k + 1 => by
  obtain ⟨ih0, ih1⟩ := dragnetref10_Zones.mono_l k
  refine ⟨?_, ?_⟩
  ·intro y0 y1 y2
   unfold dragnetref10_Zones.l0
   repeat' first
   | (with_reducible exact ih0 _ _ _)
   | (with_reducible exact ih1 _ _ _)
   | (with_reducible exact dragnetref10_Formed.mono _ _)
   | (with_reducible exact LeO.refl _)
   | (with_reducible exact LeO.none _)
   | (with_reducible refine LeO.ite ?_ ?_)
   | (with_reducible refine LeO.bind ?_ (fun _ => ?_))
   | exact ih0 _ _ _
   | exact ih1 _ _ _
   | exact dragnetref10_Formed.mono _ _
   | exact LeO.none _
   | refine LeO.ite ?_ ?_
   | refine LeO.bind ?_ (fun _ => ?_)
  ·intro y0 y1 y2
   unfold dragnetref10_Zones.j1
   repeat' first
   | (with_reducible exact ih0 _ _ _)
   | (with_reducible exact ih1 _ _ _)
   | (with_reducible exact dragnetref10_Formed.mono _ _)
   | (with_reducible exact LeO.refl _)
   | (with_reducible exact LeO.none _)
   | (with_reducible refine LeO.ite ?_ ?_)
   | (with_reducible refine LeO.bind ?_ (fun _ => ?_))
   | exact ih0 _ _ _
   | exact ih1 _ _ _
   | exact dragnetref10_Formed.mono _ _
   | exact LeO.none _
   | refine LeO.ite ?_ ?_
   | refine LeO.bind ?_ (fun _ => ?_)
theorem dragnetref10_Zones.mono : ∀ a0 k, LeO (dragnetref10_Zones.f k a0) (dragnetref10_Zones.f (k + 1) a0) := by
 intro a0 k
 obtain ⟨ih0, ih1⟩ := dragnetref10_Zones.mono_l k
 unfold dragnetref10_Zones.f
 repeat' first
   | (with_reducible exact ih0 _ _ _)
   | (with_reducible exact ih1 _ _ _)
   | (with_reducible exact dragnetref10_Formed.mono _ _)
   | (with_reducible exact LeO.refl _)
   | (with_reducible exact LeO.none _)
   | (with_reducible refine LeO.ite ?_ ?_)
   | (with_reducible refine LeO.bind ?_ (fun _ => ?_))
   | exact ih0 _ _ _
   | exact ih1 _ _ _
   | exact dragnetref10_Formed.mono _ _
   | exact LeO.none _
   | refine LeO.ite ?_ ?_
   | refine LeO.bind ?_ (fun _ => ?_)
def dragnetref10_Zones.T12 : Bool × List (List Nat × List Nat) := (true, [([], []), ([], []), ([0, 1], [0, 1]), ([2], [2]), ([3], [3]), ([], []), ([], []), ([5, 6], [5, 6]), ([7], [7]), ([8], [8]), ([4, 9], [4, 9]), ([10, 0, 1, 2, 3, 4, 5, 6, 7, 8, 9, 10], [10])])
def dragnetref10_Zones.B12 : List Nat := [0, 0, 3, 7, 15, 0, 0, 96, 224, 480, 1023, 2047]
theorem dragnetref10_Zones.tab12 : rtab .any (opsOf Try.f19 12) = dragnetref10_Zones.T12 := by kernel_rfl
theorem dragnetref10_Zones.bits12 : waitsOk dragnetref10_Zones.T12.2 dragnetref10_Zones.B12 = true := by kernel_rfl
def dragnetref10_Zones.T13 : Bool × List (List Nat × List Nat) := (true, [([], []), ([0], [0]), ([], []), ([], []), ([2, 3], [2, 3]), ([4], [4]), ([5], [5]), ([1, 6], [1, 6]), ([0, 1, 2, 3, 4, 5, 6, 7], []), ([8, 7, 0, 1, 2, 3, 4, 5, 6, 7], [7, 8])])
def dragnetref10_Zones.B13 : List Nat := [0, 1, 0, 0, 12, 28, 60, 127, 255, 511]
theorem dragnetref10_Zones.tab13 : rtab .any (opsOf Try.f19 13) = dragnetref10_Zones.T13 := by kernel_rfl
theorem dragnetref10_Zones.bits13 : waitsOk dragnetref10_Zones.T13.2 dragnetref10_Zones.B13 = true := by kernel_rfl
def dragnetref10_Zones.T14 : Bool × List (List Nat × List Nat) := (true, [([], []), ([0], [0]), ([], []), ([], []), ([2, 3], [2, 3]), ([4], [4]), ([5], [5]), ([1, 6], [1, 6]), ([0, 1, 2, 3, 4, 5, 6, 7], []), ([8, 7, 0, 1, 2, 3, 4, 5, 6, 7], [7, 8])])
def dragnetref10_Zones.B14 : List Nat := [0, 1, 0, 0, 12, 28, 60, 127, 255, 511]
theorem dragnetref10_Zones.tab14 : rtab .any (opsOf Try.f19 14) = dragnetref10_Zones.T14 := by kernel_rfl
theorem dragnetref10_Zones.bits14 : waitsOk dragnetref10_Zones.T14.2 dragnetref10_Zones.B14 = true := by kernel_rfl
set_option maxHeartbeats 8000000 in
set_option maxRecDepth 100000 in
theorem dragnetref10_Zones.calls (k : Nat) (A0 : Option Addr) (c0 : Nat) (l0 : List (S42)) (r : List (S38)) (w : World) (hr0 : Kd.C k42 w A0 l0.length l0) (hc0 : l0.length ≤ c0) (h : dragnetref10_Zones.f k l0 = some r) :
  Calls Try.prog 19 #[.slice A0 l0.length c0] w fun e w' => ∃ v0_ : Value, e = .returned (v0_) ∧ Kd.R k38 38 w' w.heap.size (fun _ => True) v0_ r ∧ Below w.heap.size w w' := by
 have hu38 := Try.underlying38
 have HR0 := Aside0.mk hr0
 have HC0 := Aside0.mk hc0
 clear hr0 hc0
 have HB := Aside0.mk (Below.refl w.heap.size w)
 have H : ((dragnetref10_Formed.f k l0).bind fun t406 => (if t406 = true then (dragnetref10_Zones.l0 k l0 ([] : List (S38)) 0) else (some ([] : List (S38))))) = some r := h
 clear h
 replace H := Option.bind_eq_some_iff.mp H
 obtain ⟨t406, A20, H⟩ := H
 replace H : (if t406 = true then (dragnetref10_Zones.l0 k l0 ([] : List (S38)) 0) else (some ([] : List (S38)))) = some r := H
 have A2 := Aside0.mk A20
 clear A20
 by_cases c3 : t406 = true
 ·subst c3
  have H1 : (dragnetref10_Zones.l0 k l0 ([] : List (S38)) 0) = some r := by rw [if_pos rfl] at H; exact H
  clear H
  have H := H1
  clear H1
  have H' := Aside0.mk H
  clear H
  go_enter Try.func19, Try.ntmps19
  go_wp2_with (first | ((with_reducible refine gaC_ (f := 16) rfl ?_); refine goesL_ (some 7) rfl rfl Try.func16 (by kernel_rfl) rfl #[.slice A0 l0.length c0] rfl (by (try simp only [List.map_toArray, List.map_cons, List.map_nil]); first | done | rfl | (simp only [List.length_drop, List.length_take]; rfl)) ?_; (with_reducible refine (dragnetref10_Formed.calls k _ _ l0 true _ ?side1 ?side2 A2.out).mono ?_); (case side1 => repeat (first | exact HR0.out | (with_reducible refine Kd.cA_ ?_ _) | (with_reducible refine Kd.cN_ ?_ _) | (with_reducible refine Kd.cD_ ?_))); (case side2 => exact HC0.out); rintro e w' ⟨rfl, ⟨nd, rfl⟩⟩; refine ⟨_, rfl, ?_⟩))
  go_loopg [3, 4] k (fun kq v3 v4 w' => ∃ (x3_1 : List (S38)) (x4_1 : Int), v4 = .int .i64 x4_1 ∧ Aside0 (dragnetref10_Zones.l0 kq l0 x3_1 x4_1 = some r) ∧ Aside0 (kq ≤ k) ∧ Aside0 (Kd.R k38 38 w' w.heap.size (fun _ => True) v3 x3_1) ∧ Aside0 (Below w.heap.size w w'))
  case atStart => exact ⟨(([] : List (S38))), (0), (by first | rfl | (simp; done) | (simp [*]; done)), H', ⟨Nat.le_refl _⟩, ⟨by first | exact Kd.R_nil _ _ _ _ _ | exact Kd.N_nil _ _ _ _ _ | exact Kd.V_nil _ _ _ _ _ | exact Kd.Q_nil _ _ _ _ _ | exact Kd.S_nil _ _ _ _ _⟩, ⟨by repeat (first | (with_reducible first | exact HB.out | apply pbA_ | apply pbN_ | apply pb1_) | exact HB.out)⟩⟩
  case round =>
   clear H'
   try clear c1
   try clear p2
   try clear c3
   obtain ⟨x3_1, x4_1, rfl, HA, HK1, HO_3, HB⟩ := hrel
   cases gk with
   | zero => exact absurd HA.out (by simp [dragnetref10_Zones.l0])
   | succ k1 =>
    have H := HA.out
    clear HA
    simp only [dragnetref10_Zones.l0] at H
    by_cases c4 : x4_1 < (l0.length : Int)
    ·rw [if_pos c4] at H
     have c4b0 : decide (x4_1 < (l0.length : Int)) = true := decide_eq_true c4
     clear c4
     have HC5 := Aside0.mk H
     clear H
     go_upto_if 17 with (fail)
     go_cut [3] (fun v3 wc => ∃ (kq : Nat) (x3_4 : List (S38)), Aside0 (dragnetref10_Zones.j1 kq l0 x3_4 x4_1 = some r) ∧ Aside0 (kq ≤ k1) ∧ Aside0 (Kd.R k38 38 wc w.heap.size (fun _ => True) v3 x3_4) ∧ Aside0 (Below w.heap.size w wc))
     case first =>
      have H := HC5.out
      clear HC5
      by_cases c6 : (Int.tmod x4_1 16) = 0
      ·rw [if_pos c6] at H
       have c6b0 : ((Int.tmod x4_1 16) == 0) = true := beq_iff_eq.mpr c6
       have c6b1 : ((Int.tmod x4_1 16) != 0) = false := bne_eq_false_iff_eq.mpr c6
       clear c6
       (first | rw [c6b0] | (simp only [i64_w, i32_w]; rw [c6b0]) | skip)
       by_cases c7 : x3_1.length < 5864062014805
       ·rw [if_pos c7] at H
        have LMc7 := Aside0.mk c7
        clear c7
        obtain ⟨y407, hy407⟩ : ∃ y_ : List (S38), y_ = (x3_1 ++ [(⟨false, 0, 0⟩ : S38)]) := ⟨_, rfl⟩
        replace H : (dragnetref10_Zones.j1 k1 l0 y407 x4_1) = some r := by first | (rw [hy407]; with_reducible exact H) | (have H2_ := (Option.bind_some _ _).symm.trans H; rw [hy407]; with_reducible exact H2_) | (have H2_ := (Option.bind_some _ _).symm.trans H; with_reducible exact H2_) | with_reducible exact H | (rw [hy407]; exact H) | exact H
        have Ny407 := Aside0.mk hy407
        clear hy407
        have H' := Aside0.mk H
        clear H
        go_wp2_with (first | ((with_reducible refine gate_builtin (b := .append) (xs := #[.tmp 18, .tmp 20]) rfl ?_); at_builtin; refine Kd.R_append k38 (w0 := w) w.heap.size rfl (.tmp 18) (.tmp 20) 35 38 (.agg #[(.bool false), (.int .i64 0), (.int .i64 0)]) 24 rfl Try.underlying35 info38 rfl (by decide) (by omega) u3 x3_1 (⟨false, 0, 0⟩ : S38) [.bool false, .int .i64 0, .int .i64 0] (fun _ => True) (fun _ => False) rfl rfl ?aP (fun _ hk => hk.elim) ?aF ?aO ?aB ?aS ?aL ?_; (case aP => exact k38_mkM _ _ _ (⟨false, 0, 0⟩ : S38)); (case aB => exact (by repeat (first | (with_reducible first | exact HB.out | apply pbA_ | apply pbN_ | apply pb1_) | exact HB.out))); (case aF => exact (fun _ _ => trivial)); (case aO => exact (by (with_reducible repeat (first | apply Kd.rA_ | apply Kd.rN_ | apply Kd.rD_)); exact HO_3.out)); (case aS => exact (pbS_ (by repeat (first | (with_reducible first | exact HB.out | apply pbA_ | apply pbN_ | apply pb1_) | exact HB.out)))); (case aL => have := LMc7.out; omega); intro v408 w8 ho hb hg hat; rw [← Ny407.out] at ho; have n0_ := Aside0.mk (hb); have n1_ := Aside0.mk (ho); clear HB; clear HO_3; have HB := n0_; have HO409 := n1_; clear n0_ n1_; clear ho hb hg hat))
        go_meet
        case rel => exact ⟨_, (y407), H', ⟨by have := HK1.out; first | omega | exact Nat.le_refl _⟩, ⟨by (with_reducible repeat (first | apply Kd.rA_ | apply Kd.rN_ | apply Kd.rD_)); exact HO409.out⟩, ⟨by repeat (first | (with_reducible first | exact HB.out | apply pbA_ | apply pbN_ | apply pb1_) | exact HB.out)⟩⟩
       ·rw [if_neg c7] at H
        exact absurd H (by simp)
      ·rw [if_neg c6] at H
       have c6b0 : ((Int.tmod x4_1 16) == 0) = false := beq_eq_false_iff_ne.mpr c6
       have c6b1 : ((Int.tmod x4_1 16) != 0) = true := bne_iff_ne.mpr c6
       (first | rw [c6b0] | (simp only [i64_w, i32_w]; rw [c6b0]) | skip)
       have H' := Aside0.mk H
       clear H
       go_wp2
       go_meet
       case rel => exact ⟨_, (x3_1), H', ⟨by have := HK1.out; first | omega | exact Nat.le_refl _⟩, ⟨by (with_reducible repeat (first | apply Kd.rA_ | apply Kd.rN_ | apply Kd.rD_)); exact HO_3.out⟩, ⟨by repeat (first | (with_reducible first | exact HB.out | apply pbA_ | apply pbN_ | apply pb1_) | exact HB.out)⟩⟩
     case rest =>
      clear HC5
      try clear c1
      try clear p2
      try clear c3
      try clear c4
      try clear c4b0
      try clear c6
      try clear c6b0
      try clear c6b1
      try clear c7
      try clear p2
      obtain ⟨kq, x3_4, HA, HJ4, HO_3, HB⟩ := hcut
      cases kq with
      | zero => exact absurd HA.out (by simp [dragnetref10_Zones.j1])
      | succ kj4 =>
       have H := HA.out
       clear HA
       simp only [dragnetref10_Zones.j1] at H
       obtain ⟨ji9, hji9⟩ : ∃ j_ : Int, (wrap64 ((x3_4.length : Int) - 1)) = j_ := ⟨_, rfl⟩
       replace H : (if 0 ≤ (ji9) then (if (ji9) < (x3_4.length : Int) then (if 0 ≤ x4_1 then (if x4_1 < (l0.length : Int) then (if ((rd_T42 l0 x4_1).f0 = true) then (if ((rd_T38 x3_4 (ji9)).f0 = true) then (dragnetref10_Zones.l0 kj4 l0 (x3_4.set ((ji9) : Int).toNat (⟨(rd_T38 x3_4 (ji9)).f0, mn ((rd_T38 x3_4 (ji9)).f1) ((rd_T42 l0 x4_1).f1), mx ((rd_T38 x3_4 (ji9)).f2) ((rd_T42 l0 x4_1).f1)⟩ : S38)) (wrap64 (x4_1 + 1))) else (dragnetref10_Zones.l0 kj4 l0 (x3_4.set ((ji9) : Int).toNat (⟨true, mn ((rd_T42 l0 x4_1).f1) ((rd_T42 l0 x4_1).f1), mx ((rd_T42 l0 x4_1).f1) ((rd_T42 l0 x4_1).f1)⟩ : S38)) (wrap64 (x4_1 + 1)))) else (dragnetref10_Zones.l0 kj4 l0 x3_4 (wrap64 (x4_1 + 1)))) else (none)) else (none)) else (none)) else (none)) = some r := by first | (rw [hji9] at H; exact H) | (simp only [hji9] at H ⊢; exact H)
       have hji9w : (IntKind.i64.wrap ((x3_4.length : Int) - 1)) = ji9 := (i64_w _).trans hji9
       by_cases c10 : 0 ≤ (ji9)
       ·rw [if_pos c10] at H
        have c10b0 : decide (0 ≤ (ji9)) = true := decide_eq_true c10
        clear c10
        by_cases c11 : (ji9) < (x3_4.length : Int)
        ·rw [if_pos c11] at H
         have c11b0 : decide ((ji9) < (x3_4.length : Int)) = true := decide_eq_true c11
         clear c11
         by_cases c12 : 0 ≤ x4_1
         ·rw [if_pos c12] at H
          have c12b0 : decide (0 ≤ x4_1) = true := decide_eq_true c12
          clear c12
          by_cases c13 : x4_1 < (l0.length : Int)
          ·rw [if_pos c13] at H
           have c13b0 : decide (x4_1 < (l0.length : Int)) = true := decide_eq_true c13
           clear c13
           obtain ⟨bq14, hbq14⟩ : ∃ b_ : Bool, b_ = ((rd_T42 l0 x4_1).f0) := ⟨_, rfl⟩
           replace H : (if (bq14 = true) then (if ((rd_T38 x3_4 (ji9)).f0 = true) then (dragnetref10_Zones.l0 kj4 l0 (x3_4.set ((ji9) : Int).toNat (⟨(rd_T38 x3_4 (ji9)).f0, mn ((rd_T38 x3_4 (ji9)).f1) ((rd_T42 l0 x4_1).f1), mx ((rd_T38 x3_4 (ji9)).f2) ((rd_T42 l0 x4_1).f1)⟩ : S38)) (wrap64 (x4_1 + 1))) else (dragnetref10_Zones.l0 kj4 l0 (x3_4.set ((ji9) : Int).toNat (⟨true, mn ((rd_T42 l0 x4_1).f1) ((rd_T42 l0 x4_1).f1), mx ((rd_T42 l0 x4_1).f1) ((rd_T42 l0 x4_1).f1)⟩ : S38)) (wrap64 (x4_1 + 1)))) else (dragnetref10_Zones.l0 kj4 l0 x3_4 (wrap64 (x4_1 + 1)))) = some r := by rw [← hbq14] at H; exact H
           have Nbq14 := Aside0.mk hbq14
           clear hbq14
           by_cases c15 : (bq14 = true)
           ·subst c15
            have H1 : (if ((rd_T38 x3_4 (ji9)).f0 = true) then (dragnetref10_Zones.l0 kj4 l0 (x3_4.set ((ji9) : Int).toNat (⟨(rd_T38 x3_4 (ji9)).f0, mn ((rd_T38 x3_4 (ji9)).f1) ((rd_T42 l0 x4_1).f1), mx ((rd_T38 x3_4 (ji9)).f2) ((rd_T42 l0 x4_1).f1)⟩ : S38)) (wrap64 (x4_1 + 1))) else (dragnetref10_Zones.l0 kj4 l0 (x3_4.set ((ji9) : Int).toNat (⟨true, mn ((rd_T42 l0 x4_1).f1) ((rd_T42 l0 x4_1).f1), mx ((rd_T42 l0 x4_1).f1) ((rd_T42 l0 x4_1).f1)⟩ : S38)) (wrap64 (x4_1 + 1)))) = some r := by rw [if_pos rfl] at H; exact H
            clear H
            have H := H1
            clear H1
            obtain ⟨bq16, hbq16⟩ : ∃ b_ : Bool, b_ = ((rd_T38 x3_4 (ji9)).f0) := ⟨_, rfl⟩
            replace H : (if (bq16 = true) then (dragnetref10_Zones.l0 kj4 l0 (x3_4.set ((ji9) : Int).toNat (⟨bq16, mn ((rd_T38 x3_4 (ji9)).f1) ((rd_T42 l0 x4_1).f1), mx ((rd_T38 x3_4 (ji9)).f2) ((rd_T42 l0 x4_1).f1)⟩ : S38)) (wrap64 (x4_1 + 1))) else (dragnetref10_Zones.l0 kj4 l0 (x3_4.set ((ji9) : Int).toNat (⟨true, mn ((rd_T42 l0 x4_1).f1) ((rd_T42 l0 x4_1).f1), mx ((rd_T42 l0 x4_1).f1) ((rd_T42 l0 x4_1).f1)⟩ : S38)) (wrap64 (x4_1 + 1)))) = some r := by rw [← hbq16] at H; exact H
            have Nbq16 := Aside0.mk hbq16
            clear hbq16
            by_cases c17 : (bq16 = true)
            ·subst c17
             have H1 : (dragnetref10_Zones.l0 kj4 l0 (x3_4.set ((ji9) : Int).toNat (⟨true, mn ((rd_T38 x3_4 (ji9)).f1) ((rd_T42 l0 x4_1).f1), mx ((rd_T38 x3_4 (ji9)).f2) ((rd_T42 l0 x4_1).f1)⟩ : S38)) (wrap64 (x4_1 + 1))) = some r := by rw [if_pos rfl] at H; exact H
             clear H
             have H := H1
             clear H1
             obtain ⟨ji18, hji18⟩ : ∃ j_ : Int, (mn ((rd_T38 x3_4 (ji9)).f1) ((rd_T42 l0 x4_1).f1)) = j_ := ⟨_, rfl⟩
             replace H : (dragnetref10_Zones.l0 kj4 l0 (x3_4.set ((ji9) : Int).toNat (⟨true, ji18, mx ((rd_T38 x3_4 (ji9)).f2) ((rd_T42 l0 x4_1).f1)⟩ : S38)) (wrap64 (x4_1 + 1))) = some r := by first | (rw [hji18] at H; exact H) | (simp only [hji18] at H ⊢; exact H)
             have hji18_ : (if ((rd_T42 l0 x4_1).f1) < ((rd_T38 x3_4 (ji9)).f1) then ((rd_T42 l0 x4_1).f1) else ((rd_T38 x3_4 (ji9)).f1)) = ji18 := hji18
             obtain ⟨ji19, hji19⟩ : ∃ j_ : Int, (mx ((rd_T38 x3_4 (ji9)).f2) ((rd_T42 l0 x4_1).f1)) = j_ := ⟨_, rfl⟩
             replace H : (dragnetref10_Zones.l0 kj4 l0 (x3_4.set ((ji9) : Int).toNat (⟨true, ji18, ji19⟩ : S38)) (wrap64 (x4_1 + 1))) = some r := by first | (rw [hji19] at H; exact H) | (simp only [hji19] at H ⊢; exact H)
             have hji19_ : (if ((rd_T38 x3_4 (ji9)).f2) < ((rd_T42 l0 x4_1).f1) then ((rd_T42 l0 x4_1).f1) else ((rd_T38 x3_4 (ji9)).f2)) = ji19 := hji19
             obtain ⟨y415, hy415⟩ : ∃ y_ : List (S38), y_ = (x3_4.set ((ji9) : Int).toNat (⟨true, ji18, ji19⟩ : S38)) := ⟨_, rfl⟩
             replace H : (dragnetref10_Zones.l0 kj4 l0 y415 (wrap64 (x4_1 + 1))) = some r := by first | (rw [hy415]; with_reducible exact H) | (have H2_ := (Option.bind_some _ _).symm.trans H; rw [hy415]; with_reducible exact H2_) | (have H2_ := (Option.bind_some _ _).symm.trans H; with_reducible exact H2_) | with_reducible exact H | (rw [hy415]; exact H) | exact H
             have Ny415 := Aside0.mk hy415
             clear hy415
             have H' := Aside0.mk H
             clear H
             obtain ⟨Ao21, co21, eo21⟩ := Kd.R_slice HO_3.out
             subst eo21
             have p410 : 0 ≤ ((ji9) : Int) := of_decide_eq_true (by first | (with_reducible assumption) | assumption)
             have q410 : (ji9) < (x3_4.length : Int) := of_decide_eq_true (by first | (with_reducible assumption) | assumption)
             obtain ⟨ad410, e410, hx410_0, hx410_1, hx410_2⟩ := at_T38 (Kd.R_reads' HO_3.out).2.2 (ji9) p410 q410
             (try rw [← Nbq14.out] at hx410_0)
             (try rw [← Nbq16.out] at hx410_0)
             cases e410
             replace p410 := eq_true p410
             replace q410 := eq_true q410
             try go_wp2_with (first | ((with_reducible refine gate_dst (N := 5) rfl ?_); refine box_event ?hg (N := 5) ?hd (cs := #[.bool false, .int .i64 0, .int .i64 0]) (t := 38) ?hr ?_; (case hd => rfl); (case hg => rfl); (case hr => first | (go_simp; done) | (go_simp; rfl)); intro gb411 hg w22 hbox hb; have n0_ := Aside0.mk (Kd.R_below (Kd.R_elderB (by (with_reducible repeat (first | apply Kd.rA_ | apply Kd.rN_ | apply Kd.rD_)); exact HO_3.out) gb411 (Nat.le_of_eq hg.symm)) hb); have n1_ := Aside0.mk (below_step (by repeat (first | (with_reducible first | exact HB.out | apply pbA_ | apply pbN_ | apply pb1_) | exact HB.out)) hb); have n2_ := Aside0.mk (hbox); have n3_ := Aside0.mk ((by rw [hg]; exact (pbS_ (by repeat (first | (with_reducible first | exact HB.out | apply pbA_ | apply pbN_ | apply pb1_) | exact HB.out))) : w.heap.size ≤ gb411)); have n4_ := Aside0.mk ((by rw [hg]; exact (pbS_ (by repeat (first | (with_reducible first | exact HB.out | apply pbA_ | apply pbN_ | apply pb1_) | exact HB.out))) : w.heap.size ≤ gb411)); clear HO_3; clear HB; have HO_3 := n0_; have HB := n1_; have BK411 := n2_; have GW411 := n3_; have GE411 := n4_; clear n0_ n1_ n2_ n3_ n4_; clear hb hbox hg; have hcz23_0 : w22.cell? ⟨gb411, 0, none⟩ = some (.bool false) := (blk_cell BK411.out 0).trans rfl; have hcz23_1 : w22.cell? ⟨gb411, 1, none⟩ = some (.int .i64 0) := (blk_cell BK411.out 1).trans rfl; have hcz23_2 : w22.cell? ⟨gb411, 2, none⟩ = some (.int .i64 0) := (blk_cell BK411.out 2).trans rfl; have hfz23_0 := blk_frozen BK411.out 0; have hfz23_1 := blk_frozen BK411.out 1; have hfz23_2 := blk_frozen BK411.out 2; have p412 : 0 ≤ (x4_1 : Int) := of_decide_eq_true (by first | (with_reducible assumption) | assumption); have q412 : x4_1 < (l0.length : Int) := of_decide_eq_true (by first | (with_reducible assumption) | assumption); obtain ⟨ad412, e412, hx412_0, hx412_1⟩ := at_T42 HR0.out x4_1 p412 q412; (try rw [← Nbq14.out] at hx412_0); (try rw [← Nbq16.out] at hx412_0); cases e412; have hn412_0 : ad412.block ≠ gb411 := Nat.ne_of_lt (Nat.lt_of_lt_of_le (by have := World.block_lt_of_cell? _ _ hx412_0; first | rwa [add_block] at this | exact this) GW411.out); have hn412_1 : ad412.block ≠ gb411 := Nat.ne_of_lt (Nat.lt_of_lt_of_le (by have := World.block_lt_of_cell? _ _ hx412_0; first | rwa [add_block] at this | exact this) GW411.out); have hn412_2 : ad412.block ≠ gb411 := Nat.ne_of_lt (Nat.lt_of_lt_of_le (by have := World.block_lt_of_cell? _ _ hx412_0; first | rwa [add_block] at this | exact this) GW411.out); replace hx412_0 := (HB.out.cell (World.block_lt_of_cell? w _ hx412_0)).trans hx412_0; replace hx412_1 := (HB.out.cell (World.block_lt_of_cell? w _ hx412_1)).trans hx412_1; replace hx412_0 := (cell_far (p := ⟨gb411, 0, none⟩) (by first | (rw [add_block]; exact hn412_0) | (show (Addr.add _ _).block ≠ _; rw [add_block]; exact hn412_0) | exact hn412_0) (.bool true)).trans hx412_0; replace hx412_1 := (cell_far (p := ⟨gb411, 0, none⟩) (by first | (rw [add_block]; exact hn412_0) | (show (Addr.add _ _).block ≠ _; rw [add_block]; exact hn412_0) | exact hn412_0) (.bool true)).trans hx412_1; replace hx412_0 := (cell_far (p := ⟨gb411, 1, none⟩) (by first | (rw [add_block]; exact hn412_1) | (show (Addr.add _ _).block ≠ _; rw [add_block]; exact hn412_1) | exact hn412_1) (.int .i64 ((rd_T38 x3_4 (ji9)).f1))).trans hx412_0; replace hx412_1 := (cell_far (p := ⟨gb411, 1, none⟩) (by first | (rw [add_block]; exact hn412_1) | (show (Addr.add _ _).block ≠ _; rw [add_block]; exact hn412_1) | exact hn412_1) (.int .i64 ((rd_T38 x3_4 (ji9)).f1))).trans hx412_1; replace hx412_0 := (cell_far (p := ⟨gb411, 2, none⟩) (by first | (rw [add_block]; exact hn412_2) | (show (Addr.add _ _).block ≠ _; rw [add_block]; exact hn412_2) | exact hn412_2) (.int .i64 ((rd_T38 x3_4 (ji9)).f2))).trans hx412_0; replace hx412_1 := (cell_far (p := ⟨gb411, 2, none⟩) (by first | (rw [add_block]; exact hn412_2) | (show (Addr.add _ _).block ≠ _; rw [add_block]; exact hn412_2) | exact hn412_2) (.int .i64 ((rd_T38 x3_4 (ji9)).f2))).trans hx412_1; clear hn412_0; clear hn412_1; clear hn412_2; replace p412 := eq_true p412; replace q412 := eq_true q412))
             have n0_ : Aside0 (Kd.R k38 38 (((w22.setCell ⟨gb411, 0, none⟩ (.bool true)).setCell ⟨gb411, 1, none⟩ (.int .i64 ((rd_T38 x3_4 (ji9)).f1))).setCell ⟨gb411, 2, none⟩ (.int .i64 ((rd_T38 x3_4 (ji9)).f2))) w.heap.size (fun k_ => k_ ≠ gb411) (.slice (some ad410) x3_4.length co21) x3_4) := ⟨by (with_reducible repeat (first | apply Kd.rA_ | apply Kd.rN_ | apply Kd.rD_)); exact Kd.R_mono (Kd.R_far (p := ⟨gb411, 2, none⟩) (Kd.R_far (p := ⟨gb411, 1, none⟩) (Kd.R_far (p := ⟨gb411, 0, none⟩) (Kd.R_mono HO_3.out (fun k_ hk => (⟨hk, hk.2⟩ : _ ∧ k_ ≠ gb411))) (fun _ hk => hk.2) (.bool true)) (fun _ hk => hk.2) (.int .i64 ((rd_T38 x3_4 (ji9)).f1))) (fun _ hk => hk.2) (.int .i64 ((rd_T38 x3_4 (ji9)).f2))) (fun _ hk => hk.1.2)⟩
             have n1_ : Aside0 ((((w22.setCell ⟨gb411, 0, none⟩ (.bool true)).setCell ⟨gb411, 1, none⟩ (.int .i64 ((rd_T38 x3_4 (ji9)).f1))).setCell ⟨gb411, 2, none⟩ (.int .i64 ((rd_T38 x3_4 (ji9)).f2))).heap[gb411]? = some (.cells #[.bool true, .int .i64 ((rd_T38 x3_4 (ji9)).f1), .int .i64 ((rd_T38 x3_4 (ji9)).f2)] 38 (0, 0))) := ⟨by (with_reducible repeat (first | refine blk_drewN ?_ _ | refine blk_drew ?_ | refine blk_alloc ?_ _)); refine blk_put (cs := #[.bool true, .int .i64 ((rd_T38 x3_4 (ji9)).f1), .int .i64 0]) ?_ 2 _ rfl; (with_reducible repeat (first | refine blk_drewN ?_ _ | refine blk_drew ?_ | refine blk_alloc ?_ _)); refine blk_put (cs := #[.bool true, .int .i64 0, .int .i64 0]) ?_ 1 _ rfl; (with_reducible repeat (first | refine blk_drewN ?_ _ | refine blk_drew ?_ | refine blk_alloc ?_ _)); refine blk_put (cs := #[.bool false, .int .i64 0, .int .i64 0]) ?_ 0 _ rfl; (with_reducible repeat (first | refine blk_drewN ?_ _ | refine blk_drew ?_ | refine blk_alloc ?_ _)); exact BK411.out⟩
             have n2_ : Aside0 (Below w.heap.size w (((w22.setCell ⟨gb411, 0, none⟩ (.bool true)).setCell ⟨gb411, 1, none⟩ (.int .i64 ((rd_T38 x3_4 (ji9)).f1))).setCell ⟨gb411, 2, none⟩ (.int .i64 ((rd_T38 x3_4 (ji9)).f2)))) := ⟨by repeat (first | (with_reducible first | exact HB.out | apply pbA_ | apply pbN_ | apply pb1_ | refine below_set ?_ GE411.out) | exact HB.out)⟩
             (try clear HO_3)
             (try clear BK411)
             (try clear HB)
             generalize (((w22.setCell ⟨gb411, 0, none⟩ (.bool true)).setCell ⟨gb411, 1, none⟩ (.int .i64 ((rd_T38 x3_4 (ji9)).f1))).setCell ⟨gb411, 2, none⟩ (.int .i64 ((rd_T38 x3_4 (ji9)).f2))) = w24 at n0_ n1_ n2_ ⊢
             have HO_3 := n0_
             have BK411 := n1_
             have HB := n2_
             clear n0_ n1_ n2_
             (try (rw [drewN_self w24]; generalize hq_ : World.drewN w24 _ = w24; have n0_ : Aside0 (Kd.R k38 38 w24 w.heap.size (fun k_ => k_ ≠ gb411) (.slice (some ad410) x3_4.length co21) x3_4) := ⟨by rw [← hq_]; exact (by (with_reducible repeat (first | apply Kd.rA_ | apply Kd.rN_ | apply Kd.rD_)); exact HO_3.out)⟩; have n1_ : Aside0 (w24.heap[gb411]? = some (.cells #[.bool true, .int .i64 ((rd_T38 x3_4 (ji9)).f1), .int .i64 ((rd_T38 x3_4 (ji9)).f2)] 38 (0, 0))) := ⟨by rw [← hq_]; exact (by (with_reducible repeat (first | refine blk_drewN ?_ _ | refine blk_drew ?_ | refine blk_alloc ?_ _)); exact BK411.out)⟩; have n2_ : Aside0 (Below w.heap.size w w24) := ⟨by rw [← hq_]; exact (by repeat (first | (with_reducible first | exact HB.out | apply pbA_ | apply pbN_ | apply pb1_ | refine below_set ?_ GE411.out) | exact HB.out))⟩; clear HO_3 BK411 HB hq_; have HO_3 := n0_; have BK411 := n1_; have HB := n2_; clear n0_ n1_ n2_))
             have n0_ := Aside0.mk (Kd.rD_ HO_3.out)
             have n1_ := Aside0.mk (blk_drew BK411.out)
             have n2_ := Aside0.mk (pb1_ HB.out)
             clear HO_3
             clear BK411
             clear HB
             have HO_3 := n0_
             have BK411 := n1_
             have HB := n2_
             clear n0_ n1_ n2_
             have p413 : 0 ≤ (x4_1 : Int) := of_decide_eq_true (by first | (with_reducible assumption) | assumption)
             have q413 : x4_1 < (l0.length : Int) := of_decide_eq_true (by first | (with_reducible assumption) | assumption)
             obtain ⟨ad413, e413, hx413_0, hx413_1⟩ := at_T42 HR0.out x4_1 p413 q413
             have hw413_1 := hx413_1
             have hw413_0 := hx413_0
             (try rw [← Nbq14.out] at hx413_0)
             (try rw [← Nbq16.out] at hx413_0)
             obtain rfl : ad412 = ad413 := (by injection e413)
             replace hx413_0 := (HB.out.cell (World.block_lt_of_cell? w _ hx413_0)).trans hx413_0
             replace hx413_1 := (HB.out.cell (World.block_lt_of_cell? w _ hx413_1)).trans hx413_1
             replace p413 := eq_true p413
             replace q413 := eq_true q413
             refine start_ (n := 10) (S := fun w' => w'.cell? ⟨gb411, 0, none⟩ = some (.bool true) ∧ w'.cell? ⟨gb411, 1, none⟩ = some (.int .i64 ((rd_T38 x3_4 (ji9)).f1)) ∧ w'.cell? ⟨gb411, 2, none⟩ = some (.int .i64 ((rd_T38 x3_4 (ji9)).f2)) ∧ w'.cell? (ad412.add ((x4_1).toNat * 2)) = some (.bool (true)) ∧ w'.cell? ⟨(ad412.add ((x4_1).toNat * 2)).block, (ad412.add ((x4_1).toNat * 2)).off + 1, none⟩ = some (.int .i64 ((rd_T42 l0 x4_1).f1))) (ds := [9]) #[false, false, false, false, false, false, false, false, false, false] (by kernel_rfl) rfl rfl ⟨(blk_cell BK411.out 0).trans rfl, (blk_cell BK411.out 1).trans rfl, (blk_cell BK411.out 2).trans rfl, (by first | exact ((HB.out.cell (World.block_lt_of_cell? w _ hw413_0)).trans hw413_0) | exact hx413_0), (by first | exact ((HB.out.cell (World.block_lt_of_cell? w _ hw413_1)).trans hw413_1) | exact hx413_1)⟩ (fun hHeld => ?_); refine with_tabW dragnetref10_Zones.tab13 dragnetref10_Zones.bits13 (fun HT_ HW_ => ?_)
             generalize w24.drew = w25 at HO_3 BK411 HB hx413_0 hx413_1 hHeld ⊢
             refine pure_ (i := 0) (N := some 48) (v := ?_) (a' := ?_) #[tT,fF,fF,fF,fF,fF,fF,fF,fF,fF] rfl rfl (any_of HT_.out (by kernel_rfl)) (fun _ _ _ h => h) (Or.inl ⟨by rfl, ?_⟩) ?_ ?_
             rotate_left
             ·intro w'
              go_simp
              with_reducible rfl
             rotate_left
             ·simp only [Act.put, List.setIfInBounds_toArray, List.set_cons_zero, List.set_cons_succ, i64_w, i32_w]
              rfl
             refine pure_ (i := 2) (N := some 50) (v := ?_) (a' := ?_) #[tT,fF,tT,fF,fF,fF,fF,fF,fF,fF] rfl rfl (any_of HT_.out (by kernel_rfl)) (fun _ _ _ h => h) (Or.inl ⟨by rfl, ?_⟩) ?_ ?_
             rotate_left
             ·intro w'
              go_simp
              with_reducible rfl
             rotate_left
             ·simp only [Act.put, List.setIfInBounds_toArray, List.set_cons_zero, List.set_cons_succ, i64_w, i32_w]
              rfl
             refine pure_ (i := 3) (N := some 51) (v := ?_) (a' := ?_) #[tT,fF,tT,tT,fF,fF,fF,fF,fF,fF] rfl rfl (any_of HT_.out (by kernel_rfl)) (fun _ _ _ h => h) (Or.inl ⟨by rfl, ?_⟩) ?_ ?_
             rotate_left
             ·intro w'
              go_simp
              with_reducible rfl
             rotate_left
             ·simp only [Act.put, List.setIfInBounds_toArray, List.set_cons_zero, List.set_cons_succ, i64_w, i32_w]
              rfl
             refine pure_ (i := 4) (N := some 52) (v := ?_) (a' := ?_) #[tT,fF,tT,tT,tT,fF,fF,fF,fF,fF] rfl rfl (any_of HT_.out (by kernel_rfl)) (fun _ _ _ h => h) (Or.inl ⟨by rfl, ?_⟩) ?_ ?_
             rotate_left
             ·intro w'
              go_simp
              with_reducible rfl
             rotate_left
             ·simp only [Act.put, List.setIfInBounds_toArray, List.set_cons_zero, List.set_cons_succ, i64_w, i32_w]
              rfl
             refine pure_ (i := 5) (N := some 53) (v := ?_) (a' := ?_) #[tT,fF,tT,tT,tT,tT,fF,fF,fF,fF] rfl rfl (any_of HT_.out (by kernel_rfl)) (fun _ _ _ h => h) (Or.inl ⟨by rfl, ?_⟩) ?_ ?_
             rotate_left
             ·intro w'
              go_simp
              with_reducible rfl
             rotate_left
             ·simp only [Act.put, List.setIfInBounds_toArray, List.set_cons_zero, List.set_cons_succ, i64_w, i32_w]
              rfl
             refine take_ (i := 1) (N := some 49) (v := ?_) (a' := ?_) #[tT,tT,tT,tT,tT,tT,fF,fF,fF,fF] rfl rfl (take_ofW HT_.out HW_.out (by kernel_rfl)) (fun _ _ _ h => h) (Or.inl ⟨by rfl, ?_⟩) hHeld ?_ ?_
             rotate_left
             ·rintro w' ⟨s0, s1, s2, s3, s4⟩
              go_simp
              with_reducible rfl
             rotate_left
             ·simp only [Act.put, List.setIfInBounds_toArray, List.set_cons_zero, List.set_cons_succ, i64_w, i32_w]
              rfl
             refine take_ (i := 6) (N := some 54) (v := ?_) (a' := ?_) #[tT,tT,tT,tT,tT,tT,tT,fF,fF,fF] rfl rfl (take_ofW HT_.out HW_.out (by kernel_rfl)) (fun _ _ _ h => h) (Or.inl ⟨by rfl, ?_⟩) hHeld ?_ ?_
             rotate_left
             ·rintro w' ⟨s0, s1, s2, s3, s4⟩
              go_simp
              with_reducible rfl
             rotate_left
             ·simp only [Act.put, List.setIfInBounds_toArray, List.set_cons_zero, List.set_cons_succ, i64_w, i32_w]
              rfl
             refine pure_ (i := 7) (N := some 55) (v := ?_) (a' := ?_) #[tT,tT,tT,tT,tT,tT,tT,tT,fF,fF] rfl rfl (any_of HT_.out (by kernel_rfl)) (fun _ _ _ h => h) (Or.inl ⟨by rfl, ?_⟩) ?_ ?_
             rotate_left
             ·intro w'
              go_simp
              with_reducible rfl
             rotate_left
             ·simp only [Act.put, List.setIfInBounds_toArray, List.set_cons_zero, List.set_cons_succ, i64_w, i32_w]
              rfl
             refine pure_ (i := 8) (N := some 56) (v := ?_) (a' := ?_) #[tT,tT,tT,tT,tT,tT,tT,tT,tT,fF] rfl rfl (any_of HT_.out (by kernel_rfl)) (fun _ _ _ h => h) (Or.inl ⟨by rfl, ?_⟩) ?_ ?_
             rotate_left
             ·intro w'
              go_simp
              with_reducible rfl
             rotate_left
             ·simp only [Act.put, List.setIfInBounds_toArray, List.set_cons_zero, List.set_cons_succ, i64_w, i32_w]
              rfl
             refine last_ (i := 9) (N := none) #[tT,tT,tT,tT,tT,tT,tT,tT,tT,tT] rfl rfl (one_of HT_.out (by kernel_rfl)) (by decide) (fun K hK => ?_)
             have hs26 : w25.cell? ⟨gb411, 1, none⟩ = some (.int .i64 ((rd_T38 x3_4 (ji9)).f1)) := (blk_cell BK411.out 1).trans rfl
             have hfs26 := blk_frozen BK411.out 1
             refine skip_ (w1 := ?_) (by rfl) rfl ?_ ?_
             rotate_left
             ·go_simp
              rfl
             refine hK.out _ _ ?_
             clear hK K
             refine done_ (done_of HT_.out (by kernel_rfl)) ?_
             try go_wp2
             have n0_ : Aside0 (Kd.R k38 38 (w25.setCell ⟨gb411, 1, none⟩ (.int .i64 ji18)) w.heap.size (fun k_ => k_ ≠ gb411) (.slice (some ad410) x3_4.length co21) x3_4) := ⟨by (with_reducible repeat (first | apply Kd.rA_ | apply Kd.rN_ | apply Kd.rD_)); exact Kd.R_mono (Kd.R_far (p := ⟨gb411, 1, none⟩) (Kd.R_mono HO_3.out (fun k_ hk => (⟨hk, hk⟩ : _ ∧ k_ ≠ gb411))) (fun _ hk => hk.2) (.int .i64 ji18)) (fun _ hk => hk.1)⟩
             have n1_ : Aside0 ((w25.setCell ⟨gb411, 1, none⟩ (.int .i64 ji18)).heap[gb411]? = some (.cells #[.bool true, .int .i64 ji18, .int .i64 ((rd_T38 x3_4 (ji9)).f2)] 38 (0, 0))) := ⟨by (with_reducible repeat (first | refine blk_drewN ?_ _ | refine blk_drew ?_ | refine blk_alloc ?_ _)); refine blk_put (cs := #[.bool true, .int .i64 ((rd_T38 x3_4 (ji9)).f1), .int .i64 ((rd_T38 x3_4 (ji9)).f2)]) ?_ 1 _ rfl; (with_reducible repeat (first | refine blk_drewN ?_ _ | refine blk_drew ?_ | refine blk_alloc ?_ _)); exact BK411.out⟩
             have n2_ : Aside0 (Below w.heap.size w (w25.setCell ⟨gb411, 1, none⟩ (.int .i64 ji18))) := ⟨by repeat (first | (with_reducible first | exact HB.out | apply pbA_ | apply pbN_ | apply pb1_ | refine below_set ?_ GE411.out) | exact HB.out)⟩
             (try clear HO_3)
             (try clear BK411)
             (try clear HB)
             generalize (w25.setCell ⟨gb411, 1, none⟩ (.int .i64 ji18)) = w27 at n0_ n1_ n2_ ⊢
             have HO_3 := n0_
             have BK411 := n1_
             have HB := n2_
             clear n0_ n1_ n2_
             (try (rw [drewN_self w27]; generalize hq_ : World.drewN w27 _ = w27; have n0_ : Aside0 (Kd.R k38 38 w27 w.heap.size (fun k_ => k_ ≠ gb411) (.slice (some ad410) x3_4.length co21) x3_4) := ⟨by rw [← hq_]; exact (by (with_reducible repeat (first | apply Kd.rA_ | apply Kd.rN_ | apply Kd.rD_)); exact HO_3.out)⟩; have n1_ : Aside0 (w27.heap[gb411]? = some (.cells #[.bool true, .int .i64 ji18, .int .i64 ((rd_T38 x3_4 (ji9)).f2)] 38 (0, 0))) := ⟨by rw [← hq_]; exact (by (with_reducible repeat (first | refine blk_drewN ?_ _ | refine blk_drew ?_ | refine blk_alloc ?_ _)); exact BK411.out)⟩; have n2_ : Aside0 (Below w.heap.size w w27) := ⟨by rw [← hq_]; exact (by repeat (first | (with_reducible first | exact HB.out | apply pbA_ | apply pbN_ | apply pb1_ | refine below_set ?_ GE411.out) | exact HB.out))⟩; clear HO_3 BK411 HB hq_; have HO_3 := n0_; have BK411 := n1_; have HB := n2_; clear n0_ n1_ n2_))
             have n0_ := Aside0.mk (Kd.rD_ HO_3.out)
             have n1_ := Aside0.mk (blk_drew BK411.out)
             have n2_ := Aside0.mk (pb1_ HB.out)
             clear HO_3
             clear BK411
             clear HB
             have HO_3 := n0_
             have BK411 := n1_
             have HB := n2_
             clear n0_ n1_ n2_
             have p414 : 0 ≤ (x4_1 : Int) := of_decide_eq_true (by first | (with_reducible assumption) | assumption)
             have q414 : x4_1 < (l0.length : Int) := of_decide_eq_true (by first | (with_reducible assumption) | assumption)
             obtain ⟨ad414, e414, hx414_0, hx414_1⟩ := at_T42 HR0.out x4_1 p414 q414
             have hw414_1 := hx414_1
             have hw414_0 := hx414_0
             (try rw [← Nbq14.out] at hx414_0)
             (try rw [← Nbq16.out] at hx414_0)
             obtain rfl : ad412 = ad414 := (by injection e414)
             replace hx414_0 := (HB.out.cell (World.block_lt_of_cell? w _ hx414_0)).trans hx414_0
             replace hx414_1 := (HB.out.cell (World.block_lt_of_cell? w _ hx414_1)).trans hx414_1
             replace p414 := eq_true p414
             replace q414 := eq_true q414
             refine start_ (n := 10) (S := fun w' => w'.cell? ⟨gb411, 0, none⟩ = some (.bool true) ∧ w'.cell? ⟨gb411, 1, none⟩ = some (.int .i64 ji18) ∧ w'.cell? ⟨gb411, 2, none⟩ = some (.int .i64 ((rd_T38 x3_4 (ji9)).f2)) ∧ w'.cell? (ad412.add ((x4_1).toNat * 2)) = some (.bool (true)) ∧ w'.cell? ⟨(ad412.add ((x4_1).toNat * 2)).block, (ad412.add ((x4_1).toNat * 2)).off + 1, none⟩ = some (.int .i64 ((rd_T42 l0 x4_1).f1))) (ds := [9]) #[false, false, false, false, false, false, false, false, false, false] (by kernel_rfl) rfl rfl ⟨(blk_cell BK411.out 0).trans rfl, (blk_cell BK411.out 1).trans rfl, (blk_cell BK411.out 2).trans rfl, (by first | exact ((HB.out.cell (World.block_lt_of_cell? w _ hw414_0)).trans hw414_0) | exact hx414_0), (by first | exact ((HB.out.cell (World.block_lt_of_cell? w _ hw414_1)).trans hw414_1) | exact hx414_1)⟩ (fun hHeld => ?_); refine with_tabW dragnetref10_Zones.tab14 dragnetref10_Zones.bits14 (fun HT_ HW_ => ?_)
             generalize w27.drew = w28 at HO_3 BK411 HB hx414_0 hx414_1 hHeld ⊢
             refine pure_ (i := 0) (N := some 57) (v := ?_) (a' := ?_) #[tT,fF,fF,fF,fF,fF,fF,fF,fF,fF] rfl rfl (any_of HT_.out (by kernel_rfl)) (fun _ _ _ h => h) (Or.inl ⟨by rfl, ?_⟩) ?_ ?_
             rotate_left
             ·intro w'
              go_simp
              with_reducible rfl
             rotate_left
             ·simp only [Act.put, List.setIfInBounds_toArray, List.set_cons_zero, List.set_cons_succ, i64_w, i32_w]
              rfl
             refine pure_ (i := 2) (N := some 59) (v := ?_) (a' := ?_) #[tT,fF,tT,fF,fF,fF,fF,fF,fF,fF] rfl rfl (any_of HT_.out (by kernel_rfl)) (fun _ _ _ h => h) (Or.inl ⟨by rfl, ?_⟩) ?_ ?_
             rotate_left
             ·intro w'
              go_simp
              with_reducible rfl
             rotate_left
             ·simp only [Act.put, List.setIfInBounds_toArray, List.set_cons_zero, List.set_cons_succ, i64_w, i32_w]
              rfl
             refine pure_ (i := 3) (N := some 60) (v := ?_) (a' := ?_) #[tT,fF,tT,tT,fF,fF,fF,fF,fF,fF] rfl rfl (any_of HT_.out (by kernel_rfl)) (fun _ _ _ h => h) (Or.inl ⟨by rfl, ?_⟩) ?_ ?_
             rotate_left
             ·intro w'
              go_simp
              with_reducible rfl
             rotate_left
             ·simp only [Act.put, List.setIfInBounds_toArray, List.set_cons_zero, List.set_cons_succ, i64_w, i32_w]
              rfl
             refine pure_ (i := 4) (N := some 61) (v := ?_) (a' := ?_) #[tT,fF,tT,tT,tT,fF,fF,fF,fF,fF] rfl rfl (any_of HT_.out (by kernel_rfl)) (fun _ _ _ h => h) (Or.inl ⟨by rfl, ?_⟩) ?_ ?_
             rotate_left
             ·intro w'
              go_simp
              with_reducible rfl
             rotate_left
             ·simp only [Act.put, List.setIfInBounds_toArray, List.set_cons_zero, List.set_cons_succ, i64_w, i32_w]
              rfl
             refine pure_ (i := 5) (N := some 62) (v := ?_) (a' := ?_) #[tT,fF,tT,tT,tT,tT,fF,fF,fF,fF] rfl rfl (any_of HT_.out (by kernel_rfl)) (fun _ _ _ h => h) (Or.inl ⟨by rfl, ?_⟩) ?_ ?_
             rotate_left
             ·intro w'
              go_simp
              with_reducible rfl
             rotate_left
             ·simp only [Act.put, List.setIfInBounds_toArray, List.set_cons_zero, List.set_cons_succ, i64_w, i32_w]
              rfl
             refine take_ (i := 1) (N := some 58) (v := ?_) (a' := ?_) #[tT,tT,tT,tT,tT,tT,fF,fF,fF,fF] rfl rfl (take_ofW HT_.out HW_.out (by kernel_rfl)) (fun _ _ _ h => h) (Or.inl ⟨by rfl, ?_⟩) hHeld ?_ ?_
             rotate_left
             ·rintro w' ⟨s0, s1, s2, s3, s4⟩
              go_simp
              with_reducible rfl
             rotate_left
             ·simp only [Act.put, List.setIfInBounds_toArray, List.set_cons_zero, List.set_cons_succ, i64_w, i32_w]
              rfl
             refine take_ (i := 6) (N := some 63) (v := ?_) (a' := ?_) #[tT,tT,tT,tT,tT,tT,tT,fF,fF,fF] rfl rfl (take_ofW HT_.out HW_.out (by kernel_rfl)) (fun _ _ _ h => h) (Or.inl ⟨by rfl, ?_⟩) hHeld ?_ ?_
             rotate_left
             ·rintro w' ⟨s0, s1, s2, s3, s4⟩
              go_simp
              with_reducible rfl
             rotate_left
             ·simp only [Act.put, List.setIfInBounds_toArray, List.set_cons_zero, List.set_cons_succ, i64_w, i32_w]
              rfl
             refine pure_ (i := 7) (N := some 64) (v := ?_) (a' := ?_) #[tT,tT,tT,tT,tT,tT,tT,tT,fF,fF] rfl rfl (any_of HT_.out (by kernel_rfl)) (fun _ _ _ h => h) (Or.inl ⟨by rfl, ?_⟩) ?_ ?_
             rotate_left
             ·intro w'
              go_simp
              with_reducible rfl
             rotate_left
             ·simp only [Act.put, List.setIfInBounds_toArray, List.set_cons_zero, List.set_cons_succ, i64_w, i32_w]
              rfl
             refine pure_ (i := 8) (N := some 65) (v := ?_) (a' := ?_) #[tT,tT,tT,tT,tT,tT,tT,tT,tT,fF] rfl rfl (any_of HT_.out (by kernel_rfl)) (fun _ _ _ h => h) (Or.inl ⟨by rfl, ?_⟩) ?_ ?_
             rotate_left
             ·intro w'
              go_simp
              with_reducible rfl
             rotate_left
             ·simp only [Act.put, List.setIfInBounds_toArray, List.set_cons_zero, List.set_cons_succ, i64_w, i32_w]
              rfl
             refine last_ (i := 9) (N := none) #[tT,tT,tT,tT,tT,tT,tT,tT,tT,tT] rfl rfl (one_of HT_.out (by kernel_rfl)) (by decide) (fun K hK => ?_)
             have hs29 : w28.cell? ⟨gb411, 2, none⟩ = some (.int .i64 ((rd_T38 x3_4 (ji9)).f2)) := (blk_cell BK411.out 2).trans rfl
             have hfs29 := blk_frozen BK411.out 2
             refine skip_ (w1 := ?_) (by rfl) rfl ?_ ?_
             rotate_left
             ·go_simp
              rfl
             refine hK.out _ _ ?_
             clear hK K
             refine done_ (done_of HT_.out (by kernel_rfl)) ?_
             have n0_ : Aside0 (Kd.R k38 38 (w28.setCell ⟨gb411, 2, none⟩ (.int .i64 ji19)) w.heap.size (fun k_ => k_ ≠ gb411) (.slice (some ad410) x3_4.length co21) x3_4) := ⟨by (with_reducible repeat (first | apply Kd.rA_ | apply Kd.rN_ | apply Kd.rD_)); exact Kd.R_mono (Kd.R_far (p := ⟨gb411, 2, none⟩) (Kd.R_mono HO_3.out (fun k_ hk => (⟨hk, hk⟩ : _ ∧ k_ ≠ gb411))) (fun _ hk => hk.2) (.int .i64 ji19)) (fun _ hk => hk.1)⟩
             have n1_ : Aside0 ((w28.setCell ⟨gb411, 2, none⟩ (.int .i64 ji19)).heap[gb411]? = some (.cells #[.bool true, .int .i64 ji18, .int .i64 ji19] 38 (0, 0))) := ⟨by (with_reducible repeat (first | refine blk_drewN ?_ _ | refine blk_drew ?_ | refine blk_alloc ?_ _)); refine blk_put (cs := #[.bool true, .int .i64 ji18, .int .i64 ((rd_T38 x3_4 (ji9)).f2)]) ?_ 2 _ rfl; (with_reducible repeat (first | refine blk_drewN ?_ _ | refine blk_drew ?_ | refine blk_alloc ?_ _)); exact BK411.out⟩
             have n2_ : Aside0 (Below w.heap.size w (w28.setCell ⟨gb411, 2, none⟩ (.int .i64 ji19))) := ⟨by repeat (first | (with_reducible first | exact HB.out | apply pbA_ | apply pbN_ | apply pb1_ | refine below_set ?_ GE411.out) | exact HB.out)⟩
             (try clear HO_3)
             (try clear BK411)
             (try clear HB)
             generalize (w28.setCell ⟨gb411, 2, none⟩ (.int .i64 ji19)) = w30 at n0_ n1_ n2_ ⊢
             have HO_3 := n0_
             have BK411 := n1_
             have HB := n2_
             clear n0_ n1_ n2_
             have hcz31_0 : w30.cell? ⟨gb411, 0, none⟩ = some (.bool true) := (blk_cell BK411.out 0).trans rfl
             have hcz31_1 : w30.cell? ⟨gb411, 1, none⟩ = some (.int .i64 ji18) := (blk_cell BK411.out 1).trans rfl
             have hcz31_2 : w30.cell? ⟨gb411, 2, none⟩ = some (.int .i64 ji19) := (blk_cell BK411.out 2).trans rfl
             have hfz31_0 := blk_frozen BK411.out 0
             have hfz31_1 := blk_frozen BK411.out 1
             have hfz31_2 := blk_frozen BK411.out 2
             have p20 : 0 ≤ ((ji9) : Int) := of_decide_eq_true (by first | (with_reducible assumption) | assumption)
             have q20 : ((ji9) : Int) < ((x3_4.length : Int) : Int) := of_decide_eq_true (by first | (with_reducible assumption) | assumption)
             obtain ⟨go20, co20, eo20, gb20, gl20, cl20, HG20⟩ := Kd.R_form HO_3.out (by omega)
             (first | cases eo20 | (injection eo20 with ea_ en_ ec_; (first | subst ea_ | (injection ea_ with ea_; subst ea_)); subst ec_; clear en_))
             have GB20 := Aside0.mk gb20
             have GG20 := Aside0.mk HG20
             clear gb20 gl20 HG20
             (first | simp only [add_plain] at hx410_0 | skip)
             (first | simp only [add_plain] at hx410_1 | skip)
             (first | simp only [add_plain] at hx410_2 | skip)
             obtain ⟨ce20, hcl20, hM20, hcc20, hfr20⟩ := Kd.R_elem HO_3.out z38 ((ji9) : Int) p20 q20
             obtain rfl := k38_openM hM20
             have hx20_0 : w30.cell? ⟨go20, ((ji9) : Int).toNat * 3, none⟩ = some (.bool ((rd_T38 x3_4 (ji9)).f0)) := hcc20 0 _ rfl
             have hx20_1 : w30.cell? ⟨go20, ((ji9) : Int).toNat * 3 + 1, none⟩ = some (.int .i64 ((rd_T38 x3_4 (ji9)).f1)) := hcc20 1 _ rfl
             have hx20_2 : w30.cell? ⟨go20, ((ji9) : Int).toNat * 3 + 2, none⟩ = some (.int .i64 ((rd_T38 x3_4 (ji9)).f2)) := hcc20 2 _ rfl
             have hf20_0 : w30.frozen? ⟨go20, ((ji9) : Int).toNat * 3, none⟩ = false := hfr20 0
             have hf20_1 : w30.frozen? ⟨go20, ((ji9) : Int).toNat * 3 + 1, none⟩ = false := hfr20 1
             have hf20_2 : w30.frozen? ⟨go20, ((ji9) : Int).toNat * 3 + 2, none⟩ = false := hfr20 2
             clear hcl20 hcc20 hfr20 hM20
             replace p20 := eq_true p20
             replace q20 := eq_true q20
             have HX32 := Aside0.mk (show Kd.R k38 38 w30 w.heap.size (fun k_ => k_ ≠ gb411) (.slice (some ⟨go20, 0, none⟩) x3_4.length co21) x3_4 from (by (with_reducible repeat (first | apply Kd.rA_ | apply Kd.rN_ | apply Kd.rD_)); exact HO_3.out))
             obtain ⟨ce32, hcl32, hM32, hcc32, hfr32⟩ := Kd.R_elem HX32.out z38 ((ji9) : Int) (of_decide_eq_true (by first | (with_reducible assumption) | assumption)) (by have h_ : ((ji9) : Int) < ((x3_4.length : Int) : Int) := of_decide_eq_true (by first | (with_reducible assumption) | assumption); first | exact h_ | (have e_ := (Kd.R_reads' HO_3.out).1; omega) | simpa using h_)
             obtain rfl := k38_openM hM32
             have HP32 := Kd.R_seg HX32.out ((ji9) : Int) (of_decide_eq_true (by first | (with_reducible assumption) | assumption)) (by have h_ : ((ji9) : Int) < ((x3_4.length : Int) : Int) := of_decide_eq_true (by first | (with_reducible assumption) | assumption); first | exact h_ | (have e_ := (Kd.R_reads' HO_3.out).1; omega) | simpa using h_) (seg := [.bool true, .int .i64 ji18, .int .i64 ji19]) (j := 0) hcl32 hcc32 (show 3 ≤ 3 from by decide) (x' := (⟨true, ji18, ji19⟩ : S38)) (k38_mkM _ _ _ (⟨true, ji18, ji19⟩ : S38) ) (fun _ hk => hk)
             have hx32_0 := hcc32 0 _ rfl
             (try simp only [show (k38).sz = 3 from rfl, Nat.mul_one, Nat.add_zero] at hx32_0)
             have hf32_0 := hfr32 0
             (try simp only [show (k38).sz = 3 from rfl, Nat.mul_one, Nat.add_zero] at hf32_0)
             have hx32_1 := hcc32 1 _ rfl
             (try simp only [show (k38).sz = 3 from rfl, Nat.mul_one, Nat.add_zero] at hx32_1)
             have hf32_1 := hfr32 1
             (try simp only [show (k38).sz = 3 from rfl, Nat.mul_one, Nat.add_zero] at hf32_1)
             have hx32_2 := hcc32 2 _ rfl
             (try simp only [show (k38).sz = 3 from rfl, Nat.mul_one, Nat.add_zero] at hx32_2)
             have hf32_2 := hfr32 2
             (try simp only [show (k38).sz = 3 from rfl, Nat.mul_one, Nat.add_zero] at hf32_2)
             clear hcl32 hcc32 hfr32 hM32
             try go_wp2_with (first | ((with_reducible refine gate_store (t := 38) (p := 71) rfl ?_); refine store_event (t := 38) (p := 71) (v := ?vo_w33) (w1 := (((w30.setCell ⟨go20, ((ji9) : Int).toNat * 3, none⟩ (.bool true)).setCell ⟨go20, ((ji9) : Int).toNat * 3 + 1, none⟩ (.int .i64 ji18)).setCell ⟨go20, ((ji9) : Int).toNat * 3 + 2, none⟩ (.int .i64 ji19))) ?hg ?ho ?hn ?hr ?_; (case ho => rfl); (case hg => rfl); (case hn => rfl); (case hr => first | (go_simp; done) | (go_simp; rfl)); intro w33 hw; have hg : w30.grownBy w33 (some go20) := (by rw [hw]; exact HP32.2); have hp_ : Kd.R k38 38 w33 w.heap.size (fun k_ => k_ ≠ gb411) (.slice (some ⟨go20, 0, none⟩) x3_4.length co21) y415 := (by rw [hw, Ny415.out]; exact HP32.1); clear HP32; have n0_ := Aside0.mk (hp_); have n1_ := Aside0.mk (blk_grown (g := gb411) (o := .cells #[.bool true, .int .i64 ji18, .int .i64 ji19] 38 (0, 0)) (by (with_reducible repeat (first | refine blk_drewN ?_ _ | refine blk_drew ?_ | refine blk_alloc ?_ _)); exact BK411.out) hg (Kd.R_away HO_3.out (fun _ hk => hk))); have n2_ := Aside0.mk ((by rw [hw]; exact below_set (below_set (below_set (HB.out) GB20.out) GB20.out) GB20.out : Below w.heap.size w w33)); clear HO_3; clear BK411; clear HB; have HO_3 := n0_; have BK411 := n1_; have HB := n2_; clear n0_ n1_ n2_; clear hg hw hp_))
             (try subst hji19 hji18 hji9)
             go_roundg kj4
             case measure => have := HK1.out; have := HJ4.out; omega
             case rel => exact ⟨(y415), (wrap64 (x4_1 + 1)), (by first | rfl | (simp; done) | (simp [*]; done)), H', ⟨by have := HK1.out; have := HJ4.out; omega⟩, ⟨by (with_reducible repeat (first | apply Kd.rA_ | apply Kd.rN_ | apply Kd.rD_)); exact Kd.R_mono HO_3.out (fun _ hk => trivial)⟩, ⟨by repeat (first | (with_reducible first | exact HB.out | apply pbA_ | apply pbN_ | apply pb1_ | refine below_set ?_ GE411.out) | exact HB.out)⟩⟩
            ·replace c17 := Bool.eq_false_iff.mpr c17
             subst c17
             have H1 : (dragnetref10_Zones.l0 kj4 l0 (x3_4.set ((ji9) : Int).toNat (⟨true, mn ((rd_T42 l0 x4_1).f1) ((rd_T42 l0 x4_1).f1), mx ((rd_T42 l0 x4_1).f1) ((rd_T42 l0 x4_1).f1)⟩ : S38)) (wrap64 (x4_1 + 1))) = some r := by rw [if_neg (show ¬ (false = true) by decide)] at H; exact H
             clear H
             have H := H1
             clear H1
             replace H : (dragnetref10_Zones.l0 kj4 l0 (x3_4.set ((ji9) : Int).toNat (⟨true, ((rd_T42 l0 x4_1).f1), ((rd_T42 l0 x4_1).f1)⟩ : S38)) (wrap64 (x4_1 + 1))) = some r := by simp only [mn, mx, ite_self] at H; exact H
             obtain ⟨y420, hy420⟩ : ∃ y_ : List (S38), y_ = (x3_4.set ((ji9) : Int).toNat (⟨true, ((rd_T42 l0 x4_1).f1), ((rd_T42 l0 x4_1).f1)⟩ : S38)) := ⟨_, rfl⟩
             replace H : (dragnetref10_Zones.l0 kj4 l0 y420 (wrap64 (x4_1 + 1))) = some r := by first | (rw [hy420]; with_reducible exact H) | (have H2_ := (Option.bind_some _ _).symm.trans H; rw [hy420]; with_reducible exact H2_) | (have H2_ := (Option.bind_some _ _).symm.trans H; with_reducible exact H2_) | with_reducible exact H | (rw [hy420]; exact H) | exact H
             have Ny420 := Aside0.mk hy420
             clear hy420
             have H' := Aside0.mk H
             clear H
             obtain ⟨Ao37, co37, eo37⟩ := Kd.R_slice HO_3.out
             subst eo37
             have p410 : 0 ≤ ((ji9) : Int) := of_decide_eq_true (by first | (with_reducible assumption) | assumption)
             have q410 : (ji9) < (x3_4.length : Int) := of_decide_eq_true (by first | (with_reducible assumption) | assumption)
             obtain ⟨ad410, e410, hx410_0, hx410_1, hx410_2⟩ := at_T38 (Kd.R_reads' HO_3.out).2.2 (ji9) p410 q410
             (try rw [← Nbq14.out] at hx410_0)
             (try rw [← Nbq16.out] at hx410_0)
             cases e410
             replace p410 := eq_true p410
             replace q410 := eq_true q410
             try go_wp2_with (first | ((with_reducible refine gate_dst (N := 5) rfl ?_); refine box_event ?hg (N := 5) ?hd (cs := #[.bool false, .int .i64 0, .int .i64 0]) (t := 38) ?hr ?_; (case hd => rfl); (case hg => rfl); (case hr => first | (go_simp; done) | (go_simp; rfl)); intro gb411 hg w38 hbox hb; have n0_ := Aside0.mk (Kd.R_below (Kd.R_elderB (by (with_reducible repeat (first | apply Kd.rA_ | apply Kd.rN_ | apply Kd.rD_)); exact HO_3.out) gb411 (Nat.le_of_eq hg.symm)) hb); have n1_ := Aside0.mk (below_step (by repeat (first | (with_reducible first | exact HB.out | apply pbA_ | apply pbN_ | apply pb1_) | exact HB.out)) hb); have n2_ := Aside0.mk (hbox); have n3_ := Aside0.mk ((by rw [hg]; exact (pbS_ (by repeat (first | (with_reducible first | exact HB.out | apply pbA_ | apply pbN_ | apply pb1_) | exact HB.out))) : w.heap.size ≤ gb411)); have n4_ := Aside0.mk ((by rw [hg]; exact (pbS_ (by repeat (first | (with_reducible first | exact HB.out | apply pbA_ | apply pbN_ | apply pb1_) | exact HB.out))) : w.heap.size ≤ gb411)); clear HO_3; clear HB; have HO_3 := n0_; have HB := n1_; have BK411 := n2_; have GW411 := n3_; have GE411 := n4_; clear n0_ n1_ n2_ n3_ n4_; clear hb hbox hg; have hcz39_0 : w38.cell? ⟨gb411, 0, none⟩ = some (.bool false) := (blk_cell BK411.out 0).trans rfl; have hcz39_1 : w38.cell? ⟨gb411, 1, none⟩ = some (.int .i64 0) := (blk_cell BK411.out 1).trans rfl; have hcz39_2 : w38.cell? ⟨gb411, 2, none⟩ = some (.int .i64 0) := (blk_cell BK411.out 2).trans rfl; have hfz39_0 := blk_frozen BK411.out 0; have hfz39_1 := blk_frozen BK411.out 1; have hfz39_2 := blk_frozen BK411.out 2; have p412 : 0 ≤ (x4_1 : Int) := of_decide_eq_true (by first | (with_reducible assumption) | assumption); have q412 : x4_1 < (l0.length : Int) := of_decide_eq_true (by first | (with_reducible assumption) | assumption); obtain ⟨ad412, e412, hx412_0, hx412_1⟩ := at_T42 HR0.out x4_1 p412 q412; (try rw [← Nbq14.out] at hx412_0); (try rw [← Nbq16.out] at hx412_0); cases e412; have hn412_0 : ad412.block ≠ gb411 := Nat.ne_of_lt (Nat.lt_of_lt_of_le (by have := World.block_lt_of_cell? _ _ hx412_0; first | rwa [add_block] at this | exact this) GW411.out); have hn412_1 : ad412.block ≠ gb411 := Nat.ne_of_lt (Nat.lt_of_lt_of_le (by have := World.block_lt_of_cell? _ _ hx412_0; first | rwa [add_block] at this | exact this) GW411.out); have hn412_2 : ad412.block ≠ gb411 := Nat.ne_of_lt (Nat.lt_of_lt_of_le (by have := World.block_lt_of_cell? _ _ hx412_0; first | rwa [add_block] at this | exact this) GW411.out); replace hx412_0 := (HB.out.cell (World.block_lt_of_cell? w _ hx412_0)).trans hx412_0; replace hx412_1 := (HB.out.cell (World.block_lt_of_cell? w _ hx412_1)).trans hx412_1; replace hx412_0 := (cell_far (p := ⟨gb411, 0, none⟩) (by first | (rw [add_block]; exact hn412_0) | (show (Addr.add _ _).block ≠ _; rw [add_block]; exact hn412_0) | exact hn412_0) (.bool false)).trans hx412_0; replace hx412_1 := (cell_far (p := ⟨gb411, 0, none⟩) (by first | (rw [add_block]; exact hn412_0) | (show (Addr.add _ _).block ≠ _; rw [add_block]; exact hn412_0) | exact hn412_0) (.bool false)).trans hx412_1; replace hx412_0 := (cell_far (p := ⟨gb411, 1, none⟩) (by first | (rw [add_block]; exact hn412_1) | (show (Addr.add _ _).block ≠ _; rw [add_block]; exact hn412_1) | exact hn412_1) (.int .i64 ((rd_T38 x3_4 (ji9)).f1))).trans hx412_0; replace hx412_1 := (cell_far (p := ⟨gb411, 1, none⟩) (by first | (rw [add_block]; exact hn412_1) | (show (Addr.add _ _).block ≠ _; rw [add_block]; exact hn412_1) | exact hn412_1) (.int .i64 ((rd_T38 x3_4 (ji9)).f1))).trans hx412_1; replace hx412_0 := (cell_far (p := ⟨gb411, 2, none⟩) (by first | (rw [add_block]; exact hn412_2) | (show (Addr.add _ _).block ≠ _; rw [add_block]; exact hn412_2) | exact hn412_2) (.int .i64 ((rd_T38 x3_4 (ji9)).f2))).trans hx412_0; replace hx412_1 := (cell_far (p := ⟨gb411, 2, none⟩) (by first | (rw [add_block]; exact hn412_2) | (show (Addr.add _ _).block ≠ _; rw [add_block]; exact hn412_2) | exact hn412_2) (.int .i64 ((rd_T38 x3_4 (ji9)).f2))).trans hx412_1; clear hn412_0; clear hn412_1; clear hn412_2; replace p412 := eq_true p412; replace q412 := eq_true q412))
             have n0_ : Aside0 (Kd.R k38 38 (((w38.setCell ⟨gb411, 0, none⟩ (.bool false)).setCell ⟨gb411, 1, none⟩ (.int .i64 ((rd_T38 x3_4 (ji9)).f1))).setCell ⟨gb411, 2, none⟩ (.int .i64 ((rd_T38 x3_4 (ji9)).f2))) w.heap.size (fun k_ => k_ ≠ gb411) (.slice (some ad410) x3_4.length co37) x3_4) := ⟨by (with_reducible repeat (first | apply Kd.rA_ | apply Kd.rN_ | apply Kd.rD_)); exact Kd.R_mono (Kd.R_far (p := ⟨gb411, 2, none⟩) (Kd.R_far (p := ⟨gb411, 1, none⟩) (Kd.R_far (p := ⟨gb411, 0, none⟩) (Kd.R_mono HO_3.out (fun k_ hk => (⟨hk, hk.2⟩ : _ ∧ k_ ≠ gb411))) (fun _ hk => hk.2) (.bool false)) (fun _ hk => hk.2) (.int .i64 ((rd_T38 x3_4 (ji9)).f1))) (fun _ hk => hk.2) (.int .i64 ((rd_T38 x3_4 (ji9)).f2))) (fun _ hk => hk.1.2)⟩
             have n1_ : Aside0 ((((w38.setCell ⟨gb411, 0, none⟩ (.bool false)).setCell ⟨gb411, 1, none⟩ (.int .i64 ((rd_T38 x3_4 (ji9)).f1))).setCell ⟨gb411, 2, none⟩ (.int .i64 ((rd_T38 x3_4 (ji9)).f2))).heap[gb411]? = some (.cells #[.bool false, .int .i64 ((rd_T38 x3_4 (ji9)).f1), .int .i64 ((rd_T38 x3_4 (ji9)).f2)] 38 (0, 0))) := ⟨by (with_reducible repeat (first | refine blk_drewN ?_ _ | refine blk_drew ?_ | refine blk_alloc ?_ _)); refine blk_put (cs := #[.bool false, .int .i64 ((rd_T38 x3_4 (ji9)).f1), .int .i64 0]) ?_ 2 _ rfl; (with_reducible repeat (first | refine blk_drewN ?_ _ | refine blk_drew ?_ | refine blk_alloc ?_ _)); refine blk_put (cs := #[.bool false, .int .i64 0, .int .i64 0]) ?_ 1 _ rfl; (with_reducible repeat (first | refine blk_drewN ?_ _ | refine blk_drew ?_ | refine blk_alloc ?_ _)); refine blk_put (cs := #[.bool false, .int .i64 0, .int .i64 0]) ?_ 0 _ rfl; (with_reducible repeat (first | refine blk_drewN ?_ _ | refine blk_drew ?_ | refine blk_alloc ?_ _)); exact BK411.out⟩
             have n2_ : Aside0 (Below w.heap.size w (((w38.setCell ⟨gb411, 0, none⟩ (.bool false)).setCell ⟨gb411, 1, none⟩ (.int .i64 ((rd_T38 x3_4 (ji9)).f1))).setCell ⟨gb411, 2, none⟩ (.int .i64 ((rd_T38 x3_4 (ji9)).f2)))) := ⟨by repeat (first | (with_reducible first | exact HB.out | apply pbA_ | apply pbN_ | apply pb1_ | refine below_set ?_ GE411.out) | exact HB.out)⟩
             (try clear HO_3)
             (try clear BK411)
             (try clear HB)
             generalize (((w38.setCell ⟨gb411, 0, none⟩ (.bool false)).setCell ⟨gb411, 1, none⟩ (.int .i64 ((rd_T38 x3_4 (ji9)).f1))).setCell ⟨gb411, 2, none⟩ (.int .i64 ((rd_T38 x3_4 (ji9)).f2))) = w40 at n0_ n1_ n2_ ⊢
             have HO_3 := n0_
             have BK411 := n1_
             have HB := n2_
             clear n0_ n1_ n2_
             (try (rw [drewN_self w40]; generalize hq_ : World.drewN w40 _ = w40; have n0_ : Aside0 (Kd.R k38 38 w40 w.heap.size (fun k_ => k_ ≠ gb411) (.slice (some ad410) x3_4.length co37) x3_4) := ⟨by rw [← hq_]; exact (by (with_reducible repeat (first | apply Kd.rA_ | apply Kd.rN_ | apply Kd.rD_)); exact HO_3.out)⟩; have n1_ : Aside0 (w40.heap[gb411]? = some (.cells #[.bool false, .int .i64 ((rd_T38 x3_4 (ji9)).f1), .int .i64 ((rd_T38 x3_4 (ji9)).f2)] 38 (0, 0))) := ⟨by rw [← hq_]; exact (by (with_reducible repeat (first | refine blk_drewN ?_ _ | refine blk_drew ?_ | refine blk_alloc ?_ _)); exact BK411.out)⟩; have n2_ : Aside0 (Below w.heap.size w w40) := ⟨by rw [← hq_]; exact (by repeat (first | (with_reducible first | exact HB.out | apply pbA_ | apply pbN_ | apply pb1_ | refine below_set ?_ GE411.out) | exact HB.out))⟩; clear HO_3 BK411 HB hq_; have HO_3 := n0_; have BK411 := n1_; have HB := n2_; clear n0_ n1_ n2_))
             have n0_ := Aside0.mk (Kd.rD_ HO_3.out)
             have n1_ := Aside0.mk (blk_drew BK411.out)
             have n2_ := Aside0.mk (pb1_ HB.out)
             clear HO_3
             clear BK411
             clear HB
             have HO_3 := n0_
             have BK411 := n1_
             have HB := n2_
             clear n0_ n1_ n2_
             have p416 : 0 ≤ (x4_1 : Int) := of_decide_eq_true (by first | (with_reducible assumption) | assumption)
             have q416 : x4_1 < (l0.length : Int) := of_decide_eq_true (by first | (with_reducible assumption) | assumption)
             obtain ⟨ad416, e416, hx416_0, hx416_1⟩ := at_T42 HR0.out x4_1 p416 q416
             have hw416_1 := hx416_1
             have hw416_0 := hx416_0
             (try rw [← Nbq14.out] at hx416_0)
             (try rw [← Nbq16.out] at hx416_0)
             obtain rfl : ad412 = ad416 := (by injection e416)
             replace hx416_0 := (HB.out.cell (World.block_lt_of_cell? w _ hx416_0)).trans hx416_0
             replace hx416_1 := (HB.out.cell (World.block_lt_of_cell? w _ hx416_1)).trans hx416_1
             replace p416 := eq_true p416
             replace q416 := eq_true q416
             have p417 : 0 ≤ (x4_1 : Int) := of_decide_eq_true (by first | (with_reducible assumption) | assumption)
             have q417 : x4_1 < (l0.length : Int) := of_decide_eq_true (by first | (with_reducible assumption) | assumption)
             obtain ⟨ad417, e417, hx417_0, hx417_1⟩ := at_T42 HR0.out x4_1 p417 q417
             have hw417_1 := hx417_1
             have hw417_0 := hx417_0
             (try rw [← Nbq14.out] at hx417_0)
             (try rw [← Nbq16.out] at hx417_0)
             obtain rfl : ad412 = ad417 := (by injection e417)
             replace hx417_0 := (HB.out.cell (World.block_lt_of_cell? w _ hx417_0)).trans hx417_0
             replace hx417_1 := (HB.out.cell (World.block_lt_of_cell? w _ hx417_1)).trans hx417_1
             replace p417 := eq_true p417
             replace q417 := eq_true q417
             refine start_ (n := 12) (S := fun w' => w'.cell? (ad412.add ((x4_1).toNat * 2)) = some (.bool (true)) ∧ w'.cell? ⟨(ad412.add ((x4_1).toNat * 2)).block, (ad412.add ((x4_1).toNat * 2)).off + 1, none⟩ = some (.int .i64 ((rd_T42 l0 x4_1).f1)) ∧ w'.cell? (ad412.add ((x4_1).toNat * 2)) = some (.bool (true)) ∧ w'.cell? ⟨(ad412.add ((x4_1).toNat * 2)).block, (ad412.add ((x4_1).toNat * 2)).off + 1, none⟩ = some (.int .i64 ((rd_T42 l0 x4_1).f1))) (ds := []) #[false, false, false, false, false, false, false, false, false, false, false, false] (by kernel_rfl) rfl rfl ⟨(by first | exact ((HB.out.cell (World.block_lt_of_cell? w _ hw416_0)).trans hw416_0) | exact hx416_0), (by first | exact ((HB.out.cell (World.block_lt_of_cell? w _ hw416_1)).trans hw416_1) | exact hx416_1), (by first | exact ((HB.out.cell (World.block_lt_of_cell? w _ hw417_0)).trans hw417_0) | exact hx417_0), (by first | exact ((HB.out.cell (World.block_lt_of_cell? w _ hw417_1)).trans hw417_1) | exact hx417_1)⟩ (fun hHeld => ?_); refine with_tabW dragnetref10_Zones.tab12 dragnetref10_Zones.bits12 (fun HT_ HW_ => ?_)
             generalize w40.drew = w41 at HO_3 BK411 HB hx416_0 hx416_1 hx417_0 hx417_1 hHeld ⊢
             refine pure_ (i := 0) (N := some 37) (v := ?_) (a' := ?_) #[tT,fF,fF,fF,fF,fF,fF,fF,fF,fF,fF,fF] rfl rfl (any_of HT_.out (by kernel_rfl)) (fun _ _ _ h => h) (Or.inl ⟨by rfl, ?_⟩) ?_ ?_
             rotate_left
             ·intro w'
              go_simp
              with_reducible rfl
             rotate_left
             ·simp only [Act.put, List.setIfInBounds_toArray, List.set_cons_zero, List.set_cons_succ, i64_w, i32_w]
              rfl
             refine pure_ (i := 1) (N := some 38) (v := ?_) (a' := ?_) #[tT,tT,fF,fF,fF,fF,fF,fF,fF,fF,fF,fF] rfl rfl (any_of HT_.out (by kernel_rfl)) (fun _ _ _ h => h) (Or.inl ⟨by rfl, ?_⟩) ?_ ?_
             rotate_left
             ·intro w'
              go_simp
              with_reducible rfl
             rotate_left
             ·simp only [Act.put, List.setIfInBounds_toArray, List.set_cons_zero, List.set_cons_succ, i64_w, i32_w]
              rfl
             refine pure_ (i := 2) (N := some 39) (v := ?_) (a' := ?_) #[tT,tT,tT,fF,fF,fF,fF,fF,fF,fF,fF,fF] rfl rfl (any_of HT_.out (by kernel_rfl)) (fun _ _ _ h => h) (Or.inl ⟨by rfl, ?_⟩) ?_ ?_
             rotate_left
             ·intro w'
              go_simp
              with_reducible rfl
             rotate_left
             ·simp only [Act.put, List.setIfInBounds_toArray, List.set_cons_zero, List.set_cons_succ, i64_w, i32_w]
              rfl
             refine pure_ (i := 3) (N := some 40) (v := ?_) (a' := ?_) #[tT,tT,tT,tT,fF,fF,fF,fF,fF,fF,fF,fF] rfl rfl (any_of HT_.out (by kernel_rfl)) (fun _ _ _ h => h) (Or.inl ⟨by rfl, ?_⟩) ?_ ?_
             rotate_left
             ·intro w'
              go_simp
              with_reducible rfl
             rotate_left
             ·simp only [Act.put, List.setIfInBounds_toArray, List.set_cons_zero, List.set_cons_succ, i64_w, i32_w]
              rfl
             refine pure_ (i := 5) (N := some 42) (v := ?_) (a' := ?_) #[tT,tT,tT,tT,fF,tT,fF,fF,fF,fF,fF,fF] rfl rfl (any_of HT_.out (by kernel_rfl)) (fun _ _ _ h => h) (Or.inl ⟨by rfl, ?_⟩) ?_ ?_
             rotate_left
             ·intro w'
              go_simp
              with_reducible rfl
             rotate_left
             ·simp only [Act.put, List.setIfInBounds_toArray, List.set_cons_zero, List.set_cons_succ, i64_w, i32_w]
              rfl
             refine pure_ (i := 6) (N := some 43) (v := ?_) (a' := ?_) #[tT,tT,tT,tT,fF,tT,tT,fF,fF,fF,fF,fF] rfl rfl (any_of HT_.out (by kernel_rfl)) (fun _ _ _ h => h) (Or.inl ⟨by rfl, ?_⟩) ?_ ?_
             rotate_left
             ·intro w'
              go_simp
              with_reducible rfl
             rotate_left
             ·simp only [Act.put, List.setIfInBounds_toArray, List.set_cons_zero, List.set_cons_succ, i64_w, i32_w]
              rfl
             refine pure_ (i := 7) (N := some 44) (v := ?_) (a' := ?_) #[tT,tT,tT,tT,fF,tT,tT,tT,fF,fF,fF,fF] rfl rfl (any_of HT_.out (by kernel_rfl)) (fun _ _ _ h => h) (Or.inl ⟨by rfl, ?_⟩) ?_ ?_
             rotate_left
             ·intro w'
              go_simp
              with_reducible rfl
             rotate_left
             ·simp only [Act.put, List.setIfInBounds_toArray, List.set_cons_zero, List.set_cons_succ, i64_w, i32_w]
              rfl
             refine pure_ (i := 8) (N := some 45) (v := ?_) (a' := ?_) #[tT,tT,tT,tT,fF,tT,tT,tT,tT,fF,fF,fF] rfl rfl (any_of HT_.out (by kernel_rfl)) (fun _ _ _ h => h) (Or.inl ⟨by rfl, ?_⟩) ?_ ?_
             rotate_left
             ·intro w'
              go_simp
              with_reducible rfl
             rotate_left
             ·simp only [Act.put, List.setIfInBounds_toArray, List.set_cons_zero, List.set_cons_succ, i64_w, i32_w]
              rfl
             refine take_ (i := 4) (N := some 41) (v := ?_) (a' := ?_) #[tT,tT,tT,tT,tT,tT,tT,tT,tT,fF,fF,fF] rfl rfl (take_ofW HT_.out HW_.out (by kernel_rfl)) (fun _ _ _ h => h) (Or.inl ⟨by rfl, ?_⟩) hHeld ?_ ?_
             rotate_left
             ·rintro w' ⟨s0, s1, s2, s3⟩
              go_simp
              with_reducible rfl
             rotate_left
             ·simp only [Act.put, List.setIfInBounds_toArray, List.set_cons_zero, List.set_cons_succ, i64_w, i32_w]
              rfl
             refine take_ (i := 9) (N := some 46) (v := ?_) (a' := ?_) #[tT,tT,tT,tT,tT,tT,tT,tT,tT,tT,fF,fF] rfl rfl (take_ofW HT_.out HW_.out (by kernel_rfl)) (fun _ _ _ h => h) (Or.inl ⟨by rfl, ?_⟩) hHeld ?_ ?_
             rotate_left
             ·rintro w' ⟨s0, s1, s2, s3⟩
              go_simp
              with_reducible rfl
             rotate_left
             ·simp only [Act.put, List.setIfInBounds_toArray, List.set_cons_zero, List.set_cons_succ, i64_w, i32_w]
              rfl
             refine pure_ (i := 10) (N := some 47) (v := ?_) (a' := ?_) #[tT,tT,tT,tT,tT,tT,tT,tT,tT,tT,tT,fF] rfl rfl (any_of HT_.out (by kernel_rfl)) (fun _ _ _ h => h) (Or.inl ⟨by rfl, ?_⟩) ?_ ?_
             rotate_left
             ·intro w'
              go_simp
              with_reducible rfl
             rotate_left
             ·simp only [Act.put, List.setIfInBounds_toArray, List.set_cons_zero, List.set_cons_succ, i64_w, i32_w]
              rfl
             refine one_ (i := 11) (N := none) #[tT,tT,tT,tT,tT,tT,tT,tT,tT,tT,tT,tT] rfl rfl (one_of HT_.out (by kernel_rfl)) (by decide) (fun K hK => ?_)
             have hs42 : w41.cell? ⟨gb411, 0, none⟩ = some (.bool false) := (blk_cell BK411.out 0).trans rfl
             have hfs42 := blk_frozen BK411.out 0
             have hs43 : w41.cell? ⟨gb411, 1, none⟩ = some (.int .i64 ((rd_T38 x3_4 (ji9)).f1)) := (blk_cell BK411.out 1).trans rfl
             have hfs43 := blk_frozen BK411.out 1
             have hs44 : w41.cell? ⟨gb411, 2, none⟩ = some (.int .i64 ((rd_T38 x3_4 (ji9)).f2)) := (blk_cell BK411.out 2).trans rfl
             have hfs44 := blk_frozen BK411.out 2
             refine skip_ (w1 := ?_) (by rfl) rfl ?_ ?_
             rotate_left
             ·go_simp
              rfl
             refine hK.out _ _ ⟨((cell_far (p := ⟨gb411, _, none⟩) (by first | exact Nat.ne_of_lt (Nat.lt_of_lt_of_le (by have := World.block_lt_of_cell? _ _ hw416_0; first | rwa [add_block] at this | exact this) GW411.out) | (rw [add_block]; exact Nat.ne_of_lt (Nat.lt_of_lt_of_le (by have := World.block_lt_of_cell? _ _ hw416_0; first | rwa [add_block] at this | exact this) GW411.out)) | (show (Addr.add _ _).block ≠ _; rw [add_block]; exact Nat.ne_of_lt (Nat.lt_of_lt_of_le (by have := World.block_lt_of_cell? _ _ hw416_0; first | rwa [add_block] at this | exact this) GW411.out)) | (dsimp only; exact Nat.ne_of_lt (Nat.lt_of_lt_of_le (by have := World.block_lt_of_cell? _ _ hw416_0; first | rwa [add_block] at this | exact this) GW411.out))) _).trans (((cell_far (p := ⟨gb411, _, none⟩) (by first | exact Nat.ne_of_lt (Nat.lt_of_lt_of_le (by have := World.block_lt_of_cell? _ _ hw416_0; first | rwa [add_block] at this | exact this) GW411.out) | (rw [add_block]; exact Nat.ne_of_lt (Nat.lt_of_lt_of_le (by have := World.block_lt_of_cell? _ _ hw416_0; first | rwa [add_block] at this | exact this) GW411.out)) | (show (Addr.add _ _).block ≠ _; rw [add_block]; exact Nat.ne_of_lt (Nat.lt_of_lt_of_le (by have := World.block_lt_of_cell? _ _ hw416_0; first | rwa [add_block] at this | exact this) GW411.out)) | (dsimp only; exact Nat.ne_of_lt (Nat.lt_of_lt_of_le (by have := World.block_lt_of_cell? _ _ hw416_0; first | rwa [add_block] at this | exact this) GW411.out))) _).trans (((cell_far (p := ⟨gb411, _, none⟩) (by first | exact Nat.ne_of_lt (Nat.lt_of_lt_of_le (by have := World.block_lt_of_cell? _ _ hw416_0; first | rwa [add_block] at this | exact this) GW411.out) | (rw [add_block]; exact Nat.ne_of_lt (Nat.lt_of_lt_of_le (by have := World.block_lt_of_cell? _ _ hw416_0; first | rwa [add_block] at this | exact this) GW411.out)) | (show (Addr.add _ _).block ≠ _; rw [add_block]; exact Nat.ne_of_lt (Nat.lt_of_lt_of_le (by have := World.block_lt_of_cell? _ _ hw416_0; first | rwa [add_block] at this | exact this) GW411.out)) | (dsimp only; exact Nat.ne_of_lt (Nat.lt_of_lt_of_le (by have := World.block_lt_of_cell? _ _ hw416_0; first | rwa [add_block] at this | exact this) GW411.out))) _).trans (hHeld.1)))))), ((cell_far (p := ⟨gb411, _, none⟩) (by first | exact Nat.ne_of_lt (Nat.lt_of_lt_of_le (by have := World.block_lt_of_cell? _ _ hw416_1; first | rwa [add_block] at this | exact this) GW411.out) | (rw [add_block]; exact Nat.ne_of_lt (Nat.lt_of_lt_of_le (by have := World.block_lt_of_cell? _ _ hw416_1; first | rwa [add_block] at this | exact this) GW411.out)) | (show (Addr.add _ _).block ≠ _; rw [add_block]; exact Nat.ne_of_lt (Nat.lt_of_lt_of_le (by have := World.block_lt_of_cell? _ _ hw416_1; first | rwa [add_block] at this | exact this) GW411.out)) | (dsimp only; exact Nat.ne_of_lt (Nat.lt_of_lt_of_le (by have := World.block_lt_of_cell? _ _ hw416_1; first | rwa [add_block] at this | exact this) GW411.out))) _).trans (((cell_far (p := ⟨gb411, _, none⟩) (by first | exact Nat.ne_of_lt (Nat.lt_of_lt_of_le (by have := World.block_lt_of_cell? _ _ hw416_1; first | rwa [add_block] at this | exact this) GW411.out) | (rw [add_block]; exact Nat.ne_of_lt (Nat.lt_of_lt_of_le (by have := World.block_lt_of_cell? _ _ hw416_1; first | rwa [add_block] at this | exact this) GW411.out)) | (show (Addr.add _ _).block ≠ _; rw [add_block]; exact Nat.ne_of_lt (Nat.lt_of_lt_of_le (by have := World.block_lt_of_cell? _ _ hw416_1; first | rwa [add_block] at this | exact this) GW411.out)) | (dsimp only; exact Nat.ne_of_lt (Nat.lt_of_lt_of_le (by have := World.block_lt_of_cell? _ _ hw416_1; first | rwa [add_block] at this | exact this) GW411.out))) _).trans (((cell_far (p := ⟨gb411, _, none⟩) (by first | exact Nat.ne_of_lt (Nat.lt_of_lt_of_le (by have := World.block_lt_of_cell? _ _ hw416_1; first | rwa [add_block] at this | exact this) GW411.out) | (rw [add_block]; exact Nat.ne_of_lt (Nat.lt_of_lt_of_le (by have := World.block_lt_of_cell? _ _ hw416_1; first | rwa [add_block] at this | exact this) GW411.out)) | (show (Addr.add _ _).block ≠ _; rw [add_block]; exact Nat.ne_of_lt (Nat.lt_of_lt_of_le (by have := World.block_lt_of_cell? _ _ hw416_1; first | rwa [add_block] at this | exact this) GW411.out)) | (dsimp only; exact Nat.ne_of_lt (Nat.lt_of_lt_of_le (by have := World.block_lt_of_cell? _ _ hw416_1; first | rwa [add_block] at this | exact this) GW411.out))) _).trans (hHeld.2.1)))))), ((cell_far (p := ⟨gb411, _, none⟩) (by first | exact Nat.ne_of_lt (Nat.lt_of_lt_of_le (by have := World.block_lt_of_cell? _ _ hw417_0; first | rwa [add_block] at this | exact this) GW411.out) | (rw [add_block]; exact Nat.ne_of_lt (Nat.lt_of_lt_of_le (by have := World.block_lt_of_cell? _ _ hw417_0; first | rwa [add_block] at this | exact this) GW411.out)) | (show (Addr.add _ _).block ≠ _; rw [add_block]; exact Nat.ne_of_lt (Nat.lt_of_lt_of_le (by have := World.block_lt_of_cell? _ _ hw417_0; first | rwa [add_block] at this | exact this) GW411.out)) | (dsimp only; exact Nat.ne_of_lt (Nat.lt_of_lt_of_le (by have := World.block_lt_of_cell? _ _ hw417_0; first | rwa [add_block] at this | exact this) GW411.out))) _).trans (((cell_far (p := ⟨gb411, _, none⟩) (by first | exact Nat.ne_of_lt (Nat.lt_of_lt_of_le (by have := World.block_lt_of_cell? _ _ hw417_0; first | rwa [add_block] at this | exact this) GW411.out) | (rw [add_block]; exact Nat.ne_of_lt (Nat.lt_of_lt_of_le (by have := World.block_lt_of_cell? _ _ hw417_0; first | rwa [add_block] at this | exact this) GW411.out)) | (show (Addr.add _ _).block ≠ _; rw [add_block]; exact Nat.ne_of_lt (Nat.lt_of_lt_of_le (by have := World.block_lt_of_cell? _ _ hw417_0; first | rwa [add_block] at this | exact this) GW411.out)) | (dsimp only; exact Nat.ne_of_lt (Nat.lt_of_lt_of_le (by have := World.block_lt_of_cell? _ _ hw417_0; first | rwa [add_block] at this | exact this) GW411.out))) _).trans (((cell_far (p := ⟨gb411, _, none⟩) (by first | exact Nat.ne_of_lt (Nat.lt_of_lt_of_le (by have := World.block_lt_of_cell? _ _ hw417_0; first | rwa [add_block] at this | exact this) GW411.out) | (rw [add_block]; exact Nat.ne_of_lt (Nat.lt_of_lt_of_le (by have := World.block_lt_of_cell? _ _ hw417_0; first | rwa [add_block] at this | exact this) GW411.out)) | (show (Addr.add _ _).block ≠ _; rw [add_block]; exact Nat.ne_of_lt (Nat.lt_of_lt_of_le (by have := World.block_lt_of_cell? _ _ hw417_0; first | rwa [add_block] at this | exact this) GW411.out)) | (dsimp only; exact Nat.ne_of_lt (Nat.lt_of_lt_of_le (by have := World.block_lt_of_cell? _ _ hw417_0; first | rwa [add_block] at this | exact this) GW411.out))) _).trans (hHeld.2.2.1)))))), ((cell_far (p := ⟨gb411, _, none⟩) (by first | exact Nat.ne_of_lt (Nat.lt_of_lt_of_le (by have := World.block_lt_of_cell? _ _ hw417_1; first | rwa [add_block] at this | exact this) GW411.out) | (rw [add_block]; exact Nat.ne_of_lt (Nat.lt_of_lt_of_le (by have := World.block_lt_of_cell? _ _ hw417_1; first | rwa [add_block] at this | exact this) GW411.out)) | (show (Addr.add _ _).block ≠ _; rw [add_block]; exact Nat.ne_of_lt (Nat.lt_of_lt_of_le (by have := World.block_lt_of_cell? _ _ hw417_1; first | rwa [add_block] at this | exact this) GW411.out)) | (dsimp only; exact Nat.ne_of_lt (Nat.lt_of_lt_of_le (by have := World.block_lt_of_cell? _ _ hw417_1; first | rwa [add_block] at this | exact this) GW411.out))) _).trans (((cell_far (p := ⟨gb411, _, none⟩) (by first | exact Nat.ne_of_lt (Nat.lt_of_lt_of_le (by have := World.block_lt_of_cell? _ _ hw417_1; first | rwa [add_block] at this | exact this) GW411.out) | (rw [add_block]; exact Nat.ne_of_lt (Nat.lt_of_lt_of_le (by have := World.block_lt_of_cell? _ _ hw417_1; first | rwa [add_block] at this | exact this) GW411.out)) | (show (Addr.add _ _).block ≠ _; rw [add_block]; exact Nat.ne_of_lt (Nat.lt_of_lt_of_le (by have := World.block_lt_of_cell? _ _ hw417_1; first | rwa [add_block] at this | exact this) GW411.out)) | (dsimp only; exact Nat.ne_of_lt (Nat.lt_of_lt_of_le (by have := World.block_lt_of_cell? _ _ hw417_1; first | rwa [add_block] at this | exact this) GW411.out))) _).trans (((cell_far (p := ⟨gb411, _, none⟩) (by first | exact Nat.ne_of_lt (Nat.lt_of_lt_of_le (by have := World.block_lt_of_cell? _ _ hw417_1; first | rwa [add_block] at this | exact this) GW411.out) | (rw [add_block]; exact Nat.ne_of_lt (Nat.lt_of_lt_of_le (by have := World.block_lt_of_cell? _ _ hw417_1; first | rwa [add_block] at this | exact this) GW411.out)) | (show (Addr.add _ _).block ≠ _; rw [add_block]; exact Nat.ne_of_lt (Nat.lt_of_lt_of_le (by have := World.block_lt_of_cell? _ _ hw417_1; first | rwa [add_block] at this | exact this) GW411.out)) | (dsimp only; exact Nat.ne_of_lt (Nat.lt_of_lt_of_le (by have := World.block_lt_of_cell? _ _ hw417_1; first | rwa [add_block] at this | exact this) GW411.out))) _).trans (hHeld.2.2.2))))))⟩ (fun hHeld => ?_)
             clear hK K
             refine done_ (done_of HT_.out (by kernel_rfl)) ?_
             try go_wp2
             have n0_ : Aside0 (Kd.R k38 38 (((w41.setCell ⟨gb411, 0, none⟩ (.bool true)).setCell ⟨gb411, 1, none⟩ (.int .i64 ((rd_T42 l0 x4_1).f1))).setCell ⟨gb411, 2, none⟩ (.int .i64 ((rd_T42 l0 x4_1).f1))) w.heap.size (fun k_ => k_ ≠ gb411) (.slice (some ad410) x3_4.length co37) x3_4) := ⟨by (with_reducible repeat (first | apply Kd.rA_ | apply Kd.rN_ | apply Kd.rD_)); exact Kd.R_mono (Kd.R_far (p := ⟨gb411, 2, none⟩) (Kd.R_far (p := ⟨gb411, 1, none⟩) (Kd.R_far (p := ⟨gb411, 0, none⟩) (Kd.R_mono HO_3.out (fun k_ hk => (⟨hk, hk⟩ : _ ∧ k_ ≠ gb411))) (fun _ hk => hk.2) (.bool true)) (fun _ hk => hk.2) (.int .i64 ((rd_T42 l0 x4_1).f1))) (fun _ hk => hk.2) (.int .i64 ((rd_T42 l0 x4_1).f1))) (fun _ hk => hk.1)⟩
             have n1_ : Aside0 ((((w41.setCell ⟨gb411, 0, none⟩ (.bool true)).setCell ⟨gb411, 1, none⟩ (.int .i64 ((rd_T42 l0 x4_1).f1))).setCell ⟨gb411, 2, none⟩ (.int .i64 ((rd_T42 l0 x4_1).f1))).heap[gb411]? = some (.cells #[.bool true, .int .i64 ((rd_T42 l0 x4_1).f1), .int .i64 ((rd_T42 l0 x4_1).f1)] 38 (0, 0))) := ⟨by (with_reducible repeat (first | refine blk_drewN ?_ _ | refine blk_drew ?_ | refine blk_alloc ?_ _)); refine blk_put (cs := #[.bool true, .int .i64 ((rd_T42 l0 x4_1).f1), .int .i64 ((rd_T38 x3_4 (ji9)).f2)]) ?_ 2 _ rfl; (with_reducible repeat (first | refine blk_drewN ?_ _ | refine blk_drew ?_ | refine blk_alloc ?_ _)); refine blk_put (cs := #[.bool true, .int .i64 ((rd_T38 x3_4 (ji9)).f1), .int .i64 ((rd_T38 x3_4 (ji9)).f2)]) ?_ 1 _ rfl; (with_reducible repeat (first | refine blk_drewN ?_ _ | refine blk_drew ?_ | refine blk_alloc ?_ _)); refine blk_put (cs := #[.bool false, .int .i64 ((rd_T38 x3_4 (ji9)).f1), .int .i64 ((rd_T38 x3_4 (ji9)).f2)]) ?_ 0 _ rfl; (with_reducible repeat (first | refine blk_drewN ?_ _ | refine blk_drew ?_ | refine blk_alloc ?_ _)); exact BK411.out⟩
             have n2_ : Aside0 (Below w.heap.size w (((w41.setCell ⟨gb411, 0, none⟩ (.bool true)).setCell ⟨gb411, 1, none⟩ (.int .i64 ((rd_T42 l0 x4_1).f1))).setCell ⟨gb411, 2, none⟩ (.int .i64 ((rd_T42 l0 x4_1).f1)))) := ⟨by repeat (first | (with_reducible first | exact HB.out | apply pbA_ | apply pbN_ | apply pb1_ | refine below_set ?_ GE411.out) | exact HB.out)⟩
             (try clear HO_3)
             (try clear BK411)
             (try clear HB)
             generalize (((w41.setCell ⟨gb411, 0, none⟩ (.bool true)).setCell ⟨gb411, 1, none⟩ (.int .i64 ((rd_T42 l0 x4_1).f1))).setCell ⟨gb411, 2, none⟩ (.int .i64 ((rd_T42 l0 x4_1).f1))) = w45 at n0_ n1_ n2_ ⊢
             have HO_3 := n0_
             have BK411 := n1_
             have HB := n2_
             clear n0_ n1_ n2_
             (try (rw [drewN_self w45]; generalize hq_ : World.drewN w45 _ = w45; have n0_ : Aside0 (Kd.R k38 38 w45 w.heap.size (fun k_ => k_ ≠ gb411) (.slice (some ad410) x3_4.length co37) x3_4) := ⟨by rw [← hq_]; exact (by (with_reducible repeat (first | apply Kd.rA_ | apply Kd.rN_ | apply Kd.rD_)); exact HO_3.out)⟩; have n1_ : Aside0 (w45.heap[gb411]? = some (.cells #[.bool true, .int .i64 ((rd_T42 l0 x4_1).f1), .int .i64 ((rd_T42 l0 x4_1).f1)] 38 (0, 0))) := ⟨by rw [← hq_]; exact (by (with_reducible repeat (first | refine blk_drewN ?_ _ | refine blk_drew ?_ | refine blk_alloc ?_ _)); exact BK411.out)⟩; have n2_ : Aside0 (Below w.heap.size w w45) := ⟨by rw [← hq_]; exact (by repeat (first | (with_reducible first | exact HB.out | apply pbA_ | apply pbN_ | apply pb1_ | refine below_set ?_ GE411.out) | exact HB.out))⟩; clear HO_3 BK411 HB hq_; have HO_3 := n0_; have BK411 := n1_; have HB := n2_; clear n0_ n1_ n2_))
             have n0_ := Aside0.mk (Kd.rD_ HO_3.out)
             have n1_ := Aside0.mk (blk_drew BK411.out)
             have n2_ := Aside0.mk (pb1_ HB.out)
             clear HO_3
             clear BK411
             clear HB
             have HO_3 := n0_
             have BK411 := n1_
             have HB := n2_
             clear n0_ n1_ n2_
             have p418 : 0 ≤ (x4_1 : Int) := of_decide_eq_true (by first | (with_reducible assumption) | assumption)
             have q418 : x4_1 < (l0.length : Int) := of_decide_eq_true (by first | (with_reducible assumption) | assumption)
             obtain ⟨ad418, e418, hx418_0, hx418_1⟩ := at_T42 HR0.out x4_1 p418 q418
             have hw418_1 := hx418_1
             have hw418_0 := hx418_0
             (try rw [← Nbq14.out] at hx418_0)
             (try rw [← Nbq16.out] at hx418_0)
             obtain rfl : ad412 = ad418 := (by injection e418)
             replace hx418_0 := (HB.out.cell (World.block_lt_of_cell? w _ hx418_0)).trans hx418_0
             replace hx418_1 := (HB.out.cell (World.block_lt_of_cell? w _ hx418_1)).trans hx418_1
             replace p418 := eq_true p418
             replace q418 := eq_true q418
             refine start_ (n := 10) (S := fun w' => w'.cell? ⟨gb411, 0, none⟩ = some (.bool true) ∧ w'.cell? ⟨gb411, 1, none⟩ = some (.int .i64 ((rd_T42 l0 x4_1).f1)) ∧ w'.cell? ⟨gb411, 2, none⟩ = some (.int .i64 ((rd_T42 l0 x4_1).f1)) ∧ w'.cell? (ad412.add ((x4_1).toNat * 2)) = some (.bool (true)) ∧ w'.cell? ⟨(ad412.add ((x4_1).toNat * 2)).block, (ad412.add ((x4_1).toNat * 2)).off + 1, none⟩ = some (.int .i64 ((rd_T42 l0 x4_1).f1))) (ds := [9]) #[false, false, false, false, false, false, false, false, false, false] (by kernel_rfl) rfl rfl ⟨(blk_cell BK411.out 0).trans rfl, (blk_cell BK411.out 1).trans rfl, (blk_cell BK411.out 2).trans rfl, (by first | exact ((HB.out.cell (World.block_lt_of_cell? w _ hw418_0)).trans hw418_0) | exact hx418_0), (by first | exact ((HB.out.cell (World.block_lt_of_cell? w _ hw418_1)).trans hw418_1) | exact hx418_1)⟩ (fun hHeld => ?_); refine with_tabW dragnetref10_Zones.tab13 dragnetref10_Zones.bits13 (fun HT_ HW_ => ?_)
             generalize w45.drew = w46 at HO_3 BK411 HB hx418_0 hx418_1 hHeld ⊢
             refine pure_ (i := 0) (N := some 48) (v := ?_) (a' := ?_) #[tT,fF,fF,fF,fF,fF,fF,fF,fF,fF] rfl rfl (any_of HT_.out (by kernel_rfl)) (fun _ _ _ h => h) (Or.inl ⟨by rfl, ?_⟩) ?_ ?_
             rotate_left
             ·intro w'
              go_simp
              with_reducible rfl
             rotate_left
             ·simp only [Act.put, List.setIfInBounds_toArray, List.set_cons_zero, List.set_cons_succ, i64_w, i32_w]
              rfl
             refine pure_ (i := 2) (N := some 50) (v := ?_) (a' := ?_) #[tT,fF,tT,fF,fF,fF,fF,fF,fF,fF] rfl rfl (any_of HT_.out (by kernel_rfl)) (fun _ _ _ h => h) (Or.inl ⟨by rfl, ?_⟩) ?_ ?_
             rotate_left
             ·intro w'
              go_simp
              with_reducible rfl
             rotate_left
             ·simp only [Act.put, List.setIfInBounds_toArray, List.set_cons_zero, List.set_cons_succ, i64_w, i32_w]
              rfl
             refine pure_ (i := 3) (N := some 51) (v := ?_) (a' := ?_) #[tT,fF,tT,tT,fF,fF,fF,fF,fF,fF] rfl rfl (any_of HT_.out (by kernel_rfl)) (fun _ _ _ h => h) (Or.inl ⟨by rfl, ?_⟩) ?_ ?_
             rotate_left
             ·intro w'
              go_simp
              with_reducible rfl
             rotate_left
             ·simp only [Act.put, List.setIfInBounds_toArray, List.set_cons_zero, List.set_cons_succ, i64_w, i32_w]
              rfl
             refine pure_ (i := 4) (N := some 52) (v := ?_) (a' := ?_) #[tT,fF,tT,tT,tT,fF,fF,fF,fF,fF] rfl rfl (any_of HT_.out (by kernel_rfl)) (fun _ _ _ h => h) (Or.inl ⟨by rfl, ?_⟩) ?_ ?_
             rotate_left
             ·intro w'
              go_simp
              with_reducible rfl
             rotate_left
             ·simp only [Act.put, List.setIfInBounds_toArray, List.set_cons_zero, List.set_cons_succ, i64_w, i32_w]
              rfl
             refine pure_ (i := 5) (N := some 53) (v := ?_) (a' := ?_) #[tT,fF,tT,tT,tT,tT,fF,fF,fF,fF] rfl rfl (any_of HT_.out (by kernel_rfl)) (fun _ _ _ h => h) (Or.inl ⟨by rfl, ?_⟩) ?_ ?_
             rotate_left
             ·intro w'
              go_simp
              with_reducible rfl
             rotate_left
             ·simp only [Act.put, List.setIfInBounds_toArray, List.set_cons_zero, List.set_cons_succ, i64_w, i32_w]
              rfl
             refine take_ (i := 1) (N := some 49) (v := ?_) (a' := ?_) #[tT,tT,tT,tT,tT,tT,fF,fF,fF,fF] rfl rfl (take_ofW HT_.out HW_.out (by kernel_rfl)) (fun _ _ _ h => h) (Or.inl ⟨by rfl, ?_⟩) hHeld ?_ ?_
             rotate_left
             ·rintro w' ⟨s0, s1, s2, s3, s4⟩
              go_simp
              with_reducible rfl
             rotate_left
             ·simp only [Act.put, List.setIfInBounds_toArray, List.set_cons_zero, List.set_cons_succ, i64_w, i32_w]
              rfl
             refine take_ (i := 6) (N := some 54) (v := ?_) (a' := ?_) #[tT,tT,tT,tT,tT,tT,tT,fF,fF,fF] rfl rfl (take_ofW HT_.out HW_.out (by kernel_rfl)) (fun _ _ _ h => h) (Or.inl ⟨by rfl, ?_⟩) hHeld ?_ ?_
             rotate_left
             ·rintro w' ⟨s0, s1, s2, s3, s4⟩
              go_simp
              with_reducible rfl
             rotate_left
             ·simp only [Act.put, List.setIfInBounds_toArray, List.set_cons_zero, List.set_cons_succ, i64_w, i32_w]
              rfl
             refine pure_ (i := 7) (N := some 55) (v := ?_) (a' := ?_) #[tT,tT,tT,tT,tT,tT,tT,tT,fF,fF] rfl rfl (any_of HT_.out (by kernel_rfl)) (fun _ _ _ h => h) (Or.inl ⟨by rfl, ?_⟩) ?_ ?_
             rotate_left
             ·intro w'
              go_simp
              with_reducible rfl
             rotate_left
             ·simp only [Act.put, List.setIfInBounds_toArray, List.set_cons_zero, List.set_cons_succ, i64_w, i32_w]
              rfl
             refine pure_ (i := 8) (N := some 56) (v := ?_) (a' := ?_) #[tT,tT,tT,tT,tT,tT,tT,tT,tT,fF] rfl rfl (any_of HT_.out (by kernel_rfl)) (fun _ _ _ h => h) (Or.inl ⟨by rfl, ?_⟩) ?_ ?_
             rotate_left
             ·intro w'
              go_simp
              with_reducible rfl
             rotate_left
             ·simp only [Act.put, List.setIfInBounds_toArray, List.set_cons_zero, List.set_cons_succ, i64_w, i32_w]
              rfl
             refine last_ (i := 9) (N := none) #[tT,tT,tT,tT,tT,tT,tT,tT,tT,tT] rfl rfl (one_of HT_.out (by kernel_rfl)) (by decide) (fun K hK => ?_)
             have hs47 : w46.cell? ⟨gb411, 1, none⟩ = some (.int .i64 ((rd_T42 l0 x4_1).f1)) := (blk_cell BK411.out 1).trans rfl
             have hfs47 := blk_frozen BK411.out 1
             refine skip_ (w1 := ?_) (by rfl) rfl ?_ ?_
             rotate_left
             ·go_simp
              rfl
             refine hK.out _ _ ?_
             clear hK K
             refine done_ (done_of HT_.out (by kernel_rfl)) ?_
             try go_wp2
             have n0_ : Aside0 (Kd.R k38 38 (w46.setCell ⟨gb411, 1, none⟩ (.int .i64 ((rd_T42 l0 x4_1).f1))) w.heap.size (fun k_ => k_ ≠ gb411) (.slice (some ad410) x3_4.length co37) x3_4) := ⟨by (with_reducible repeat (first | apply Kd.rA_ | apply Kd.rN_ | apply Kd.rD_)); exact Kd.R_mono (Kd.R_far (p := ⟨gb411, 1, none⟩) (Kd.R_mono HO_3.out (fun k_ hk => (⟨hk, hk⟩ : _ ∧ k_ ≠ gb411))) (fun _ hk => hk.2) (.int .i64 ((rd_T42 l0 x4_1).f1))) (fun _ hk => hk.1)⟩
             have n1_ : Aside0 ((w46.setCell ⟨gb411, 1, none⟩ (.int .i64 ((rd_T42 l0 x4_1).f1))).heap[gb411]? = some (.cells #[.bool true, .int .i64 ((rd_T42 l0 x4_1).f1), .int .i64 ((rd_T42 l0 x4_1).f1)] 38 (0, 0))) := ⟨by (with_reducible repeat (first | refine blk_drewN ?_ _ | refine blk_drew ?_ | refine blk_alloc ?_ _)); refine blk_put (cs := #[.bool true, .int .i64 ((rd_T42 l0 x4_1).f1), .int .i64 ((rd_T42 l0 x4_1).f1)]) ?_ 1 _ rfl; (with_reducible repeat (first | refine blk_drewN ?_ _ | refine blk_drew ?_ | refine blk_alloc ?_ _)); exact BK411.out⟩
             have n2_ : Aside0 (Below w.heap.size w (w46.setCell ⟨gb411, 1, none⟩ (.int .i64 ((rd_T42 l0 x4_1).f1)))) := ⟨by repeat (first | (with_reducible first | exact HB.out | apply pbA_ | apply pbN_ | apply pb1_ | refine below_set ?_ GE411.out) | exact HB.out)⟩
             (try clear HO_3)
             (try clear BK411)
             (try clear HB)
             generalize (w46.setCell ⟨gb411, 1, none⟩ (.int .i64 ((rd_T42 l0 x4_1).f1))) = w48 at n0_ n1_ n2_ ⊢
             have HO_3 := n0_
             have BK411 := n1_
             have HB := n2_
             clear n0_ n1_ n2_
             (try (rw [drewN_self w48]; generalize hq_ : World.drewN w48 _ = w48; have n0_ : Aside0 (Kd.R k38 38 w48 w.heap.size (fun k_ => k_ ≠ gb411) (.slice (some ad410) x3_4.length co37) x3_4) := ⟨by rw [← hq_]; exact (by (with_reducible repeat (first | apply Kd.rA_ | apply Kd.rN_ | apply Kd.rD_)); exact HO_3.out)⟩; have n1_ : Aside0 (w48.heap[gb411]? = some (.cells #[.bool true, .int .i64 ((rd_T42 l0 x4_1).f1), .int .i64 ((rd_T42 l0 x4_1).f1)] 38 (0, 0))) := ⟨by rw [← hq_]; exact (by (with_reducible repeat (first | refine blk_drewN ?_ _ | refine blk_drew ?_ | refine blk_alloc ?_ _)); exact BK411.out)⟩; have n2_ : Aside0 (Below w.heap.size w w48) := ⟨by rw [← hq_]; exact (by repeat (first | (with_reducible first | exact HB.out | apply pbA_ | apply pbN_ | apply pb1_ | refine below_set ?_ GE411.out) | exact HB.out))⟩; clear HO_3 BK411 HB hq_; have HO_3 := n0_; have BK411 := n1_; have HB := n2_; clear n0_ n1_ n2_))
             have n0_ := Aside0.mk (Kd.rD_ HO_3.out)
             have n1_ := Aside0.mk (blk_drew BK411.out)
             have n2_ := Aside0.mk (pb1_ HB.out)
             clear HO_3
             clear BK411
             clear HB
             have HO_3 := n0_
             have BK411 := n1_
             have HB := n2_
             clear n0_ n1_ n2_
             have p419 : 0 ≤ (x4_1 : Int) := of_decide_eq_true (by first | (with_reducible assumption) | assumption)
             have q419 : x4_1 < (l0.length : Int) := of_decide_eq_true (by first | (with_reducible assumption) | assumption)
             obtain ⟨ad419, e419, hx419_0, hx419_1⟩ := at_T42 HR0.out x4_1 p419 q419
             have hw419_1 := hx419_1
             have hw419_0 := hx419_0
             (try rw [← Nbq14.out] at hx419_0)
             (try rw [← Nbq16.out] at hx419_0)
             obtain rfl : ad412 = ad419 := (by injection e419)
             replace hx419_0 := (HB.out.cell (World.block_lt_of_cell? w _ hx419_0)).trans hx419_0
             replace hx419_1 := (HB.out.cell (World.block_lt_of_cell? w _ hx419_1)).trans hx419_1
             replace p419 := eq_true p419
             replace q419 := eq_true q419
             refine start_ (n := 10) (S := fun w' => w'.cell? ⟨gb411, 0, none⟩ = some (.bool true) ∧ w'.cell? ⟨gb411, 1, none⟩ = some (.int .i64 ((rd_T42 l0 x4_1).f1)) ∧ w'.cell? ⟨gb411, 2, none⟩ = some (.int .i64 ((rd_T42 l0 x4_1).f1)) ∧ w'.cell? (ad412.add ((x4_1).toNat * 2)) = some (.bool (true)) ∧ w'.cell? ⟨(ad412.add ((x4_1).toNat * 2)).block, (ad412.add ((x4_1).toNat * 2)).off + 1, none⟩ = some (.int .i64 ((rd_T42 l0 x4_1).f1))) (ds := [9]) #[false, false, false, false, false, false, false, false, false, false] (by kernel_rfl) rfl rfl ⟨(blk_cell BK411.out 0).trans rfl, (blk_cell BK411.out 1).trans rfl, (blk_cell BK411.out 2).trans rfl, (by first | exact ((HB.out.cell (World.block_lt_of_cell? w _ hw419_0)).trans hw419_0) | exact hx419_0), (by first | exact ((HB.out.cell (World.block_lt_of_cell? w _ hw419_1)).trans hw419_1) | exact hx419_1)⟩ (fun hHeld => ?_); refine with_tabW dragnetref10_Zones.tab14 dragnetref10_Zones.bits14 (fun HT_ HW_ => ?_)
             generalize w48.drew = w49 at HO_3 BK411 HB hx419_0 hx419_1 hHeld ⊢
             refine pure_ (i := 0) (N := some 57) (v := ?_) (a' := ?_) #[tT,fF,fF,fF,fF,fF,fF,fF,fF,fF] rfl rfl (any_of HT_.out (by kernel_rfl)) (fun _ _ _ h => h) (Or.inl ⟨by rfl, ?_⟩) ?_ ?_
             rotate_left
             ·intro w'
              go_simp
              with_reducible rfl
             rotate_left
             ·simp only [Act.put, List.setIfInBounds_toArray, List.set_cons_zero, List.set_cons_succ, i64_w, i32_w]
              rfl
             refine pure_ (i := 2) (N := some 59) (v := ?_) (a' := ?_) #[tT,fF,tT,fF,fF,fF,fF,fF,fF,fF] rfl rfl (any_of HT_.out (by kernel_rfl)) (fun _ _ _ h => h) (Or.inl ⟨by rfl, ?_⟩) ?_ ?_
             rotate_left
             ·intro w'
              go_simp
              with_reducible rfl
             rotate_left
             ·simp only [Act.put, List.setIfInBounds_toArray, List.set_cons_zero, List.set_cons_succ, i64_w, i32_w]
              rfl
             refine pure_ (i := 3) (N := some 60) (v := ?_) (a' := ?_) #[tT,fF,tT,tT,fF,fF,fF,fF,fF,fF] rfl rfl (any_of HT_.out (by kernel_rfl)) (fun _ _ _ h => h) (Or.inl ⟨by rfl, ?_⟩) ?_ ?_
             rotate_left
             ·intro w'
              go_simp
              with_reducible rfl
             rotate_left
             ·simp only [Act.put, List.setIfInBounds_toArray, List.set_cons_zero, List.set_cons_succ, i64_w, i32_w]
              rfl
             refine pure_ (i := 4) (N := some 61) (v := ?_) (a' := ?_) #[tT,fF,tT,tT,tT,fF,fF,fF,fF,fF] rfl rfl (any_of HT_.out (by kernel_rfl)) (fun _ _ _ h => h) (Or.inl ⟨by rfl, ?_⟩) ?_ ?_
             rotate_left
             ·intro w'
              go_simp
              with_reducible rfl
             rotate_left
             ·simp only [Act.put, List.setIfInBounds_toArray, List.set_cons_zero, List.set_cons_succ, i64_w, i32_w]
              rfl
             refine pure_ (i := 5) (N := some 62) (v := ?_) (a' := ?_) #[tT,fF,tT,tT,tT,tT,fF,fF,fF,fF] rfl rfl (any_of HT_.out (by kernel_rfl)) (fun _ _ _ h => h) (Or.inl ⟨by rfl, ?_⟩) ?_ ?_
             rotate_left
             ·intro w'
              go_simp
              with_reducible rfl
             rotate_left
             ·simp only [Act.put, List.setIfInBounds_toArray, List.set_cons_zero, List.set_cons_succ, i64_w, i32_w]
              rfl
             refine take_ (i := 1) (N := some 58) (v := ?_) (a' := ?_) #[tT,tT,tT,tT,tT,tT,fF,fF,fF,fF] rfl rfl (take_ofW HT_.out HW_.out (by kernel_rfl)) (fun _ _ _ h => h) (Or.inl ⟨by rfl, ?_⟩) hHeld ?_ ?_
             rotate_left
             ·rintro w' ⟨s0, s1, s2, s3, s4⟩
              go_simp
              with_reducible rfl
             rotate_left
             ·simp only [Act.put, List.setIfInBounds_toArray, List.set_cons_zero, List.set_cons_succ, i64_w, i32_w]
              rfl
             refine take_ (i := 6) (N := some 63) (v := ?_) (a' := ?_) #[tT,tT,tT,tT,tT,tT,tT,fF,fF,fF] rfl rfl (take_ofW HT_.out HW_.out (by kernel_rfl)) (fun _ _ _ h => h) (Or.inl ⟨by rfl, ?_⟩) hHeld ?_ ?_
             rotate_left
             ·rintro w' ⟨s0, s1, s2, s3, s4⟩
              go_simp
              with_reducible rfl
             rotate_left
             ·simp only [Act.put, List.setIfInBounds_toArray, List.set_cons_zero, List.set_cons_succ, i64_w, i32_w]
              rfl
             refine pure_ (i := 7) (N := some 64) (v := ?_) (a' := ?_) #[tT,tT,tT,tT,tT,tT,tT,tT,fF,fF] rfl rfl (any_of HT_.out (by kernel_rfl)) (fun _ _ _ h => h) (Or.inl ⟨by rfl, ?_⟩) ?_ ?_
             rotate_left
             ·intro w'
              go_simp
              with_reducible rfl
             rotate_left
             ·simp only [Act.put, List.setIfInBounds_toArray, List.set_cons_zero, List.set_cons_succ, i64_w, i32_w]
              rfl
             refine pure_ (i := 8) (N := some 65) (v := ?_) (a' := ?_) #[tT,tT,tT,tT,tT,tT,tT,tT,tT,fF] rfl rfl (any_of HT_.out (by kernel_rfl)) (fun _ _ _ h => h) (Or.inl ⟨by rfl, ?_⟩) ?_ ?_
             rotate_left
             ·intro w'
              go_simp
              with_reducible rfl
             rotate_left
             ·simp only [Act.put, List.setIfInBounds_toArray, List.set_cons_zero, List.set_cons_succ, i64_w, i32_w]
              rfl
             refine last_ (i := 9) (N := none) #[tT,tT,tT,tT,tT,tT,tT,tT,tT,tT] rfl rfl (one_of HT_.out (by kernel_rfl)) (by decide) (fun K hK => ?_)
             have hs50 : w49.cell? ⟨gb411, 2, none⟩ = some (.int .i64 ((rd_T42 l0 x4_1).f1)) := (blk_cell BK411.out 2).trans rfl
             have hfs50 := blk_frozen BK411.out 2
             refine skip_ (w1 := ?_) (by rfl) rfl ?_ ?_
             rotate_left
             ·go_simp
              rfl
             refine hK.out _ _ ?_
             clear hK K
             refine done_ (done_of HT_.out (by kernel_rfl)) ?_
             have n0_ : Aside0 (Kd.R k38 38 (w49.setCell ⟨gb411, 2, none⟩ (.int .i64 ((rd_T42 l0 x4_1).f1))) w.heap.size (fun k_ => k_ ≠ gb411) (.slice (some ad410) x3_4.length co37) x3_4) := ⟨by (with_reducible repeat (first | apply Kd.rA_ | apply Kd.rN_ | apply Kd.rD_)); exact Kd.R_mono (Kd.R_far (p := ⟨gb411, 2, none⟩) (Kd.R_mono HO_3.out (fun k_ hk => (⟨hk, hk⟩ : _ ∧ k_ ≠ gb411))) (fun _ hk => hk.2) (.int .i64 ((rd_T42 l0 x4_1).f1))) (fun _ hk => hk.1)⟩
             have n1_ : Aside0 ((w49.setCell ⟨gb411, 2, none⟩ (.int .i64 ((rd_T42 l0 x4_1).f1))).heap[gb411]? = some (.cells #[.bool true, .int .i64 ((rd_T42 l0 x4_1).f1), .int .i64 ((rd_T42 l0 x4_1).f1)] 38 (0, 0))) := ⟨by (with_reducible repeat (first | refine blk_drewN ?_ _ | refine blk_drew ?_ | refine blk_alloc ?_ _)); refine blk_put (cs := #[.bool true, .int .i64 ((rd_T42 l0 x4_1).f1), .int .i64 ((rd_T42 l0 x4_1).f1)]) ?_ 2 _ rfl; (with_reducible repeat (first | refine blk_drewN ?_ _ | refine blk_drew ?_ | refine blk_alloc ?_ _)); exact BK411.out⟩
             have n2_ : Aside0 (Below w.heap.size w (w49.setCell ⟨gb411, 2, none⟩ (.int .i64 ((rd_T42 l0 x4_1).f1)))) := ⟨by repeat (first | (with_reducible first | exact HB.out | apply pbA_ | apply pbN_ | apply pb1_ | refine below_set ?_ GE411.out) | exact HB.out)⟩
             (try clear HO_3)
             (try clear BK411)
             (try clear HB)
             generalize (w49.setCell ⟨gb411, 2, none⟩ (.int .i64 ((rd_T42 l0 x4_1).f1))) = w51 at n0_ n1_ n2_ ⊢
             have HO_3 := n0_
             have BK411 := n1_
             have HB := n2_
             clear n0_ n1_ n2_
             have hcz52_0 : w51.cell? ⟨gb411, 0, none⟩ = some (.bool true) := (blk_cell BK411.out 0).trans rfl
             have hcz52_1 : w51.cell? ⟨gb411, 1, none⟩ = some (.int .i64 ((rd_T42 l0 x4_1).f1)) := (blk_cell BK411.out 1).trans rfl
             have hcz52_2 : w51.cell? ⟨gb411, 2, none⟩ = some (.int .i64 ((rd_T42 l0 x4_1).f1)) := (blk_cell BK411.out 2).trans rfl
             have hfz52_0 := blk_frozen BK411.out 0
             have hfz52_1 := blk_frozen BK411.out 1
             have hfz52_2 := blk_frozen BK411.out 2
             have p36 : 0 ≤ ((ji9) : Int) := of_decide_eq_true (by first | (with_reducible assumption) | assumption)
             have q36 : ((ji9) : Int) < ((x3_4.length : Int) : Int) := of_decide_eq_true (by first | (with_reducible assumption) | assumption)
             obtain ⟨go36, co36, eo36, gb36, gl36, cl36, HG36⟩ := Kd.R_form HO_3.out (by omega)
             (first | cases eo36 | (injection eo36 with ea_ en_ ec_; (first | subst ea_ | (injection ea_ with ea_; subst ea_)); subst ec_; clear en_))
             have GB36 := Aside0.mk gb36
             have GG36 := Aside0.mk HG36
             clear gb36 gl36 HG36
             (first | simp only [add_plain] at hx410_0 | skip)
             (first | simp only [add_plain] at hx410_1 | skip)
             (first | simp only [add_plain] at hx410_2 | skip)
             obtain ⟨ce36, hcl36, hM36, hcc36, hfr36⟩ := Kd.R_elem HO_3.out z38 ((ji9) : Int) p36 q36
             obtain rfl := k38_openM hM36
             have hx36_0 : w51.cell? ⟨go36, ((ji9) : Int).toNat * 3, none⟩ = some (.bool ((rd_T38 x3_4 (ji9)).f0)) := hcc36 0 _ rfl
             have hx36_1 : w51.cell? ⟨go36, ((ji9) : Int).toNat * 3 + 1, none⟩ = some (.int .i64 ((rd_T38 x3_4 (ji9)).f1)) := hcc36 1 _ rfl
             have hx36_2 : w51.cell? ⟨go36, ((ji9) : Int).toNat * 3 + 2, none⟩ = some (.int .i64 ((rd_T38 x3_4 (ji9)).f2)) := hcc36 2 _ rfl
             have hf36_0 : w51.frozen? ⟨go36, ((ji9) : Int).toNat * 3, none⟩ = false := hfr36 0
             have hf36_1 : w51.frozen? ⟨go36, ((ji9) : Int).toNat * 3 + 1, none⟩ = false := hfr36 1
             have hf36_2 : w51.frozen? ⟨go36, ((ji9) : Int).toNat * 3 + 2, none⟩ = false := hfr36 2
             clear hcl36 hcc36 hfr36 hM36
             replace p36 := eq_true p36
             replace q36 := eq_true q36
             have HX53 := Aside0.mk (show Kd.R k38 38 w51 w.heap.size (fun k_ => k_ ≠ gb411) (.slice (some ⟨go36, 0, none⟩) x3_4.length co37) x3_4 from (by (with_reducible repeat (first | apply Kd.rA_ | apply Kd.rN_ | apply Kd.rD_)); exact HO_3.out))
             obtain ⟨ce53, hcl53, hM53, hcc53, hfr53⟩ := Kd.R_elem HX53.out z38 ((ji9) : Int) (of_decide_eq_true (by first | (with_reducible assumption) | assumption)) (by have h_ : ((ji9) : Int) < ((x3_4.length : Int) : Int) := of_decide_eq_true (by first | (with_reducible assumption) | assumption); first | exact h_ | (have e_ := (Kd.R_reads' HO_3.out).1; omega) | simpa using h_)
             obtain rfl := k38_openM hM53
             have HP53 := Kd.R_seg HX53.out ((ji9) : Int) (of_decide_eq_true (by first | (with_reducible assumption) | assumption)) (by have h_ : ((ji9) : Int) < ((x3_4.length : Int) : Int) := of_decide_eq_true (by first | (with_reducible assumption) | assumption); first | exact h_ | (have e_ := (Kd.R_reads' HO_3.out).1; omega) | simpa using h_) (seg := [.bool true, .int .i64 ((rd_T42 l0 x4_1).f1), .int .i64 ((rd_T42 l0 x4_1).f1)]) (j := 0) hcl53 hcc53 (show 3 ≤ 3 from by decide) (x' := (⟨true, ((rd_T42 l0 x4_1).f1), ((rd_T42 l0 x4_1).f1)⟩ : S38)) (k38_mkM _ _ _ (⟨true, ((rd_T42 l0 x4_1).f1), ((rd_T42 l0 x4_1).f1)⟩ : S38) ) (fun _ hk => hk)
             have hx53_0 := hcc53 0 _ rfl
             (try simp only [show (k38).sz = 3 from rfl, Nat.mul_one, Nat.add_zero] at hx53_0)
             have hf53_0 := hfr53 0
             (try simp only [show (k38).sz = 3 from rfl, Nat.mul_one, Nat.add_zero] at hf53_0)
             have hx53_1 := hcc53 1 _ rfl
             (try simp only [show (k38).sz = 3 from rfl, Nat.mul_one, Nat.add_zero] at hx53_1)
             have hf53_1 := hfr53 1
             (try simp only [show (k38).sz = 3 from rfl, Nat.mul_one, Nat.add_zero] at hf53_1)
             have hx53_2 := hcc53 2 _ rfl
             (try simp only [show (k38).sz = 3 from rfl, Nat.mul_one, Nat.add_zero] at hx53_2)
             have hf53_2 := hfr53 2
             (try simp only [show (k38).sz = 3 from rfl, Nat.mul_one, Nat.add_zero] at hf53_2)
             clear hcl53 hcc53 hfr53 hM53
             try go_wp2_with (first | ((with_reducible refine gate_store (t := 38) (p := 71) rfl ?_); refine store_event (t := 38) (p := 71) (v := ?vo_w54) (w1 := (((w51.setCell ⟨go36, ((ji9) : Int).toNat * 3, none⟩ (.bool true)).setCell ⟨go36, ((ji9) : Int).toNat * 3 + 1, none⟩ (.int .i64 ((rd_T42 l0 x4_1).f1))).setCell ⟨go36, ((ji9) : Int).toNat * 3 + 2, none⟩ (.int .i64 ((rd_T42 l0 x4_1).f1)))) ?hg ?ho ?hn ?hr ?_; (case ho => rfl); (case hg => rfl); (case hn => rfl); (case hr => first | (go_simp; done) | (go_simp; rfl)); intro w54 hw; have hg : w51.grownBy w54 (some go36) := (by rw [hw]; exact HP53.2); have hp_ : Kd.R k38 38 w54 w.heap.size (fun k_ => k_ ≠ gb411) (.slice (some ⟨go36, 0, none⟩) x3_4.length co37) y420 := (by rw [hw, Ny420.out]; exact HP53.1); clear HP53; have n0_ := Aside0.mk (hp_); have n1_ := Aside0.mk (blk_grown (g := gb411) (o := .cells #[.bool true, .int .i64 ((rd_T42 l0 x4_1).f1), .int .i64 ((rd_T42 l0 x4_1).f1)] 38 (0, 0)) (by (with_reducible repeat (first | refine blk_drewN ?_ _ | refine blk_drew ?_ | refine blk_alloc ?_ _)); exact BK411.out) hg (Kd.R_away HO_3.out (fun _ hk => hk))); have n2_ := Aside0.mk ((by rw [hw]; exact below_set (below_set (below_set (HB.out) GB36.out) GB36.out) GB36.out : Below w.heap.size w w54)); clear HO_3; clear BK411; clear HB; have HO_3 := n0_; have BK411 := n1_; have HB := n2_; clear n0_ n1_ n2_; clear hg hw hp_))
             (try subst hji35 hji34 hji9)
             go_roundg kj4
             case measure => have := HK1.out; have := HJ4.out; omega
             case rel => exact ⟨(y420), (wrap64 (x4_1 + 1)), (by first | rfl | (simp; done) | (simp [*]; done)), H', ⟨by have := HK1.out; have := HJ4.out; omega⟩, ⟨by (with_reducible repeat (first | apply Kd.rA_ | apply Kd.rN_ | apply Kd.rD_)); exact Kd.R_mono HO_3.out (fun _ hk => trivial)⟩, ⟨by repeat (first | (with_reducible first | exact HB.out | apply pbA_ | apply pbN_ | apply pb1_ | refine below_set ?_ GE411.out) | exact HB.out)⟩⟩
           ·replace c15 := Bool.eq_false_iff.mpr c15
            subst c15
            have H1 : (dragnetref10_Zones.l0 kj4 l0 x3_4 (wrap64 (x4_1 + 1))) = some r := by rw [if_neg (show ¬ (false = true) by decide)] at H; exact H
            clear H
            have H := H1
            clear H1
            have H' := Aside0.mk H
            clear H
            obtain ⟨Ao55, co55, eo55⟩ := Kd.R_slice HO_3.out
            subst eo55
            have p410 : 0 ≤ ((ji9) : Int) := of_decide_eq_true (by first | (with_reducible assumption) | assumption)
            have q410 : (ji9) < (x3_4.length : Int) := of_decide_eq_true (by first | (with_reducible assumption) | assumption)
            obtain ⟨ad410, e410, hx410_0, hx410_1, hx410_2⟩ := at_T38 (Kd.R_reads' HO_3.out).2.2 (ji9) p410 q410
            (try rw [← Nbq14.out] at hx410_0)
            cases e410
            replace p410 := eq_true p410
            replace q410 := eq_true q410
            go_wp2_with (first | ((with_reducible refine gate_dst (N := 5) rfl ?_); refine box_event ?hg (N := 5) ?hd (cs := #[.bool false, .int .i64 0, .int .i64 0]) (t := 38) ?hr ?_; (case hd => rfl); (case hg => rfl); (case hr => first | (go_simp; done) | (go_simp; rfl)); intro gb411 hg w56 hbox hb; have n0_ := Aside0.mk (Kd.R_below (Kd.R_elderB (by (with_reducible repeat (first | apply Kd.rA_ | apply Kd.rN_ | apply Kd.rD_)); exact HO_3.out) gb411 (Nat.le_of_eq hg.symm)) hb); have n1_ := Aside0.mk (below_step (by repeat (first | (with_reducible first | exact HB.out | apply pbA_ | apply pbN_ | apply pb1_) | exact HB.out)) hb); have n2_ := Aside0.mk (hbox); have n3_ := Aside0.mk ((by rw [hg]; exact (pbS_ (by repeat (first | (with_reducible first | exact HB.out | apply pbA_ | apply pbN_ | apply pb1_) | exact HB.out))) : w.heap.size ≤ gb411)); have n4_ := Aside0.mk ((by rw [hg]; exact (pbS_ (by repeat (first | (with_reducible first | exact HB.out | apply pbA_ | apply pbN_ | apply pb1_) | exact HB.out))) : w.heap.size ≤ gb411)); clear HO_3; clear HB; have HO_3 := n0_; have HB := n1_; have BK411 := n2_; have GW411 := n3_; have GE411 := n4_; clear n0_ n1_ n2_ n3_ n4_; clear hb hbox hg; have hcz57_0 : w56.cell? ⟨gb411, 0, none⟩ = some (.bool false) := (blk_cell BK411.out 0).trans rfl; have hcz57_1 : w56.cell? ⟨gb411, 1, none⟩ = some (.int .i64 0) := (blk_cell BK411.out 1).trans rfl; have hcz57_2 : w56.cell? ⟨gb411, 2, none⟩ = some (.int .i64 0) := (blk_cell BK411.out 2).trans rfl; have hfz57_0 := blk_frozen BK411.out 0; have hfz57_1 := blk_frozen BK411.out 1; have hfz57_2 := blk_frozen BK411.out 2; have p412 : 0 ≤ (x4_1 : Int) := of_decide_eq_true (by first | (with_reducible assumption) | assumption); have q412 : x4_1 < (l0.length : Int) := of_decide_eq_true (by first | (with_reducible assumption) | assumption); obtain ⟨ad412, e412, hx412_0, hx412_1⟩ := at_T42 HR0.out x4_1 p412 q412; (try rw [← Nbq14.out] at hx412_0); cases e412; have hn412_0 : ad412.block ≠ gb411 := Nat.ne_of_lt (Nat.lt_of_lt_of_le (by have := World.block_lt_of_cell? _ _ hx412_0; first | rwa [add_block] at this | exact this) GW411.out); have hn412_1 : ad412.block ≠ gb411 := Nat.ne_of_lt (Nat.lt_of_lt_of_le (by have := World.block_lt_of_cell? _ _ hx412_0; first | rwa [add_block] at this | exact this) GW411.out); have hn412_2 : ad412.block ≠ gb411 := Nat.ne_of_lt (Nat.lt_of_lt_of_le (by have := World.block_lt_of_cell? _ _ hx412_0; first | rwa [add_block] at this | exact this) GW411.out); replace hx412_0 := (HB.out.cell (World.block_lt_of_cell? w _ hx412_0)).trans hx412_0; replace hx412_1 := (HB.out.cell (World.block_lt_of_cell? w _ hx412_1)).trans hx412_1; replace hx412_0 := (cell_far (p := ⟨gb411, 0, none⟩) (by first | (rw [add_block]; exact hn412_0) | (show (Addr.add _ _).block ≠ _; rw [add_block]; exact hn412_0) | exact hn412_0) (.bool ((rd_T38 x3_4 (ji9)).f0))).trans hx412_0; replace hx412_1 := (cell_far (p := ⟨gb411, 0, none⟩) (by first | (rw [add_block]; exact hn412_0) | (show (Addr.add _ _).block ≠ _; rw [add_block]; exact hn412_0) | exact hn412_0) (.bool ((rd_T38 x3_4 (ji9)).f0))).trans hx412_1; replace hx412_0 := (cell_far (p := ⟨gb411, 1, none⟩) (by first | (rw [add_block]; exact hn412_1) | (show (Addr.add _ _).block ≠ _; rw [add_block]; exact hn412_1) | exact hn412_1) (.int .i64 ((rd_T38 x3_4 (ji9)).f1))).trans hx412_0; replace hx412_1 := (cell_far (p := ⟨gb411, 1, none⟩) (by first | (rw [add_block]; exact hn412_1) | (show (Addr.add _ _).block ≠ _; rw [add_block]; exact hn412_1) | exact hn412_1) (.int .i64 ((rd_T38 x3_4 (ji9)).f1))).trans hx412_1; replace hx412_0 := (cell_far (p := ⟨gb411, 2, none⟩) (by first | (rw [add_block]; exact hn412_2) | (show (Addr.add _ _).block ≠ _; rw [add_block]; exact hn412_2) | exact hn412_2) (.int .i64 ((rd_T38 x3_4 (ji9)).f2))).trans hx412_0; replace hx412_1 := (cell_far (p := ⟨gb411, 2, none⟩) (by first | (rw [add_block]; exact hn412_2) | (show (Addr.add _ _).block ≠ _; rw [add_block]; exact hn412_2) | exact hn412_2) (.int .i64 ((rd_T38 x3_4 (ji9)).f2))).trans hx412_1; clear hn412_0; clear hn412_1; clear hn412_2; replace p412 := eq_true p412; replace q412 := eq_true q412))
            (try subst hji9)
            go_roundg kj4
            case measure => have := HK1.out; have := HJ4.out; omega
            case rel => exact ⟨(x3_4), (wrap64 (x4_1 + 1)), (by first | rfl | (simp; done) | (simp [*]; done)), H', ⟨by have := HK1.out; have := HJ4.out; omega⟩, ⟨by (with_reducible repeat (first | apply Kd.rA_ | apply Kd.rN_ | apply Kd.rD_)); exact Kd.R_mono (Kd.R_far (p := ⟨gb411, 2, none⟩) (Kd.R_far (p := ⟨gb411, 1, none⟩) (Kd.R_far (p := ⟨gb411, 0, none⟩) (Kd.R_mono HO_3.out (fun k_ hk => (⟨hk, hk.2⟩ : _ ∧ k_ ≠ gb411))) (fun _ hk => hk.2) (.bool ((rd_T38 x3_4 ((wrap64 ((x3_4.length : Int) - 1)))).f0))) (fun _ hk => hk.2) (.int .i64 ((rd_T38 x3_4 ((wrap64 ((x3_4.length : Int) - 1)))).f1))) (fun _ hk => hk.2) (.int .i64 ((rd_T38 x3_4 ((wrap64 ((x3_4.length : Int) - 1)))).f2))) (fun _ hk => trivial)⟩, ⟨by repeat (first | (with_reducible first | exact HB.out | apply pbA_ | apply pbN_ | apply pb1_ | refine below_set ?_ GE411.out) | exact HB.out)⟩⟩
          ·rw [if_neg c13] at H
           exact absurd H (by simp)
         ·rw [if_neg c12] at H
          exact absurd H (by simp)
        ·rw [if_neg c11] at H
         exact absurd H (by simp)
       ·rw [if_neg c10] at H
        exact absurd H (by simp)
    ·rw [if_neg c4] at H
     have c4b0 : decide (x4_1 < (l0.length : Int)) = false := decide_eq_false c4
     clear c4
     obtain rfl := Option.some.inj H
     go_wp2
     go_ret
     exact ⟨_, by first | rfl | (simp [eWn_, eWs_] <;> rfl) | (simp [*, eWn_, eWs_] <;> rfl), by (with_reducible repeat (first | apply Kd.rA_ | apply Kd.rN_ | apply Kd.rD_)); exact HO_3.out, by repeat (first | (with_reducible first | exact HB.out | apply pbA_ | apply pbN_ | apply pb1_) | exact HB.out)⟩
 ·replace c3 := Bool.eq_false_iff.mpr c3
  subst c3
  have H1 : (some ([] : List (S38))) = some r := by rw [if_neg (show ¬ (false = true) by decide)] at H; exact H
  clear H
  have H := H1
  clear H1
  obtain rfl := Option.some.inj H
  go_enter Try.func19, Try.ntmps19
  go_wp2_with (first | ((with_reducible refine gaC_ (f := 16) rfl ?_); refine goesL_ (some 7) rfl rfl Try.func16 (by kernel_rfl) rfl #[.slice A0 l0.length c0] rfl (by (try simp only [List.map_toArray, List.map_cons, List.map_nil]); first | done | rfl | (simp only [List.length_drop, List.length_take]; rfl)) ?_; (with_reducible refine (dragnetref10_Formed.calls k _ _ l0 false _ ?side1 ?side2 A2.out).mono ?_); (case side1 => repeat (first | exact HR0.out | (with_reducible refine Kd.cA_ ?_ _) | (with_reducible refine Kd.cN_ ?_ _) | (with_reducible refine Kd.cD_ ?_))); (case side2 => exact HC0.out); rintro e w' ⟨rfl, ⟨nd, rfl⟩⟩; refine ⟨_, rfl, ?_⟩))
  go_ret
  exact ⟨_, by first | rfl | (simp [eWn_, eWs_] <;> rfl) | (simp [*, eWn_, eWs_] <;> rfl), by first | exact Kd.R_nil _ _ _ _ _ | exact Kd.N_nil _ _ _ _ _ | exact Kd.V_nil _ _ _ _ _ | exact Kd.Q_nil _ _ _ _ _ | exact Kd.S_nil _ _ _ _ _, by repeat (first | (with_reducible first | exact HB.out | apply pbA_ | apply pbN_ | apply pb1_) | exact HB.out)⟩
end Go.Proofs.Ytcjkmmajokkkfaa.P
end
section
namespace Go.Proofs.Ytcjkmmajokkkfaa.P
open Go.RowKit Go.Proofs.YtcjkmmajokkkfaaW.PrintWords Go.Proofs.YtcjkmmajokkkfaaW.PrintLast Go.Proofs.YtcjkmmajokkkfaaW.PrintMore
attribute [local go_sem] max2_int min2_int max_two min_two max_three min_three max_four min_four
set_option linter.unusedVariables false
set_option linter.unusedSimpArgs false
attribute [local go_sem high] eqA38
noncomputable def dragnetlaw10_IntsZones.l0 : Nat → List (S38) → List (S38) → Int → Option (Bool)
 | 0, _, _, _ => none
 | k + 1, x3, x4, x5 => if x5 < (x3.length : Int) then (if 0 ≤ x5 then (if x5 < (x4.length : Int) then (if (!(((rd_T38 x3 x5).f0) == ((rd_T38 x4 x5).f0)) || (!(((rd_T38 x3 x5).f1) == ((rd_T38 x4 x5).f1)) || (!(((rd_T38 x3 x5).f2) == ((rd_T38 x4 x5).f2))))) = true then (some false) else (dragnetlaw10_IntsZones.l0 k x3 x4 (wrap64 (x5 + 1)))) else (none)) else (none)) else (some true)
noncomputable def dragnetlaw10_IntsZones.f (k : Nat) (l0 : List (S42)) : Option (Bool) := (dragnetlaw10_alive.f k).bind fun t421 => (if t421 = true then ((ints_Zones.f k l0).bind fun t422 => ((dragnetref10_Zones.f k l0).bind fun t425 => (if (t422.length : Int) = (t425.length : Int) then (dragnetlaw10_IntsZones.l0 k t422 t425 0) else (some false)))) else (some false))
theorem dragnetlaw10_IntsZones.mono_l : ∀ k, (∀ y0 y1 y2, LeO (dragnetlaw10_IntsZones.l0 k y0 y1 y2) (dragnetlaw10_IntsZones.l0 (k + 1) y0 y1 y2))
 | 0 => fun _ _ _ r h => by simp [dragnetlaw10_IntsZones.l0] at h
 | k + 1 => by
  have ih0 := dragnetlaw10_IntsZones.mono_l k
  ·intro y0 y1 y2
   unfold dragnetlaw10_IntsZones.l0
   repeat' first
   | (with_reducible exact ih0 _ _ _)
   | (with_reducible exact dragnetlaw10_alive.mono _)
   | (with_reducible exact dragnetref10_Zones.mono _ _)
   | (with_reducible exact ints_Zones.mono _ _)
   | (with_reducible exact LeO.refl _)
   | (with_reducible exact LeO.none _)
   | (with_reducible refine LeO.ite ?_ ?_)
   | (with_reducible refine LeO.bind ?_ (fun _ => ?_))
   | exact ih0 _ _ _
   | exact dragnetlaw10_alive.mono _
   | exact dragnetref10_Zones.mono _ _
   | exact ints_Zones.mono _ _
   | exact LeO.none _
   | refine LeO.ite ?_ ?_
   | refine LeO.bind ?_ (fun _ => ?_)
theorem dragnetlaw10_IntsZones.mono : ∀ a0 k, LeO (dragnetlaw10_IntsZones.f k a0) (dragnetlaw10_IntsZones.f (k + 1) a0) := by
 intro a0 k
 have ih0 := dragnetlaw10_IntsZones.mono_l k
 unfold dragnetlaw10_IntsZones.f
 repeat' first
   | (with_reducible exact ih0 _ _ _)
   | (with_reducible exact dragnetlaw10_alive.mono _)
   | (with_reducible exact dragnetref10_Zones.mono _ _)
   | (with_reducible exact ints_Zones.mono _ _)
   | (with_reducible exact LeO.refl _)
   | (with_reducible exact LeO.none _)
   | (with_reducible refine LeO.ite ?_ ?_)
   | (with_reducible refine LeO.bind ?_ (fun _ => ?_))
   | exact ih0 _ _ _
   | exact dragnetlaw10_alive.mono _
   | exact dragnetref10_Zones.mono _ _
   | exact ints_Zones.mono _ _
   | exact LeO.none _
   | refine LeO.ite ?_ ?_
   | refine LeO.bind ?_ (fun _ => ?_)
set_option maxHeartbeats 8000000 in
set_option maxRecDepth 100000 in
theorem dragnetlaw10_IntsZones.calls (k : Nat) (A0 : Option Addr) (c0 : Nat) (l0 : List (S42)) (r : Bool) (w : World) (hr0 : Kd.C k42 w A0 l0.length l0) (hc0 : l0.length ≤ c0) (h : dragnetlaw10_IntsZones.f k l0 = some r) :
  Calls Try.prog 4 #[.slice A0 l0.length c0] w fun e w' => e = .returned (.bool r) ∧ Below w.heap.size w w' := by
 have hu38 := Try.underlying38
 have HR0 := Aside0.mk hr0
 have HC0 := Aside0.mk hc0
 clear hr0 hc0
 have HB := Aside0.mk (Below.refl w.heap.size w)
 have H : ((dragnetlaw10_alive.f k).bind fun t421 => (if t421 = true then ((ints_Zones.f k l0).bind fun t422 => ((dragnetref10_Zones.f k l0).bind fun t425 => (if (t422.length : Int) = (t425.length : Int) then (dragnetlaw10_IntsZones.l0 k t422 t425 0) else (some false)))) else (some false))) = some r := h
 clear h
 replace H := Option.bind_eq_some_iff.mp H
 obtain ⟨t421, A20, H⟩ := H
 replace H : (if t421 = true then ((ints_Zones.f k l0).bind fun t422 => ((dragnetref10_Zones.f k l0).bind fun t425 => (if (t422.length : Int) = (t425.length : Int) then (dragnetlaw10_IntsZones.l0 k t422 t425 0) else (some false)))) else (some false)) = some r := H
 have A2 := Aside0.mk A20
 clear A20
 by_cases c3 : t421 = true
 ·subst c3
  have H1 : ((ints_Zones.f k l0).bind fun t422 => ((dragnetref10_Zones.f k l0).bind fun t425 => (if (t422.length : Int) = (t425.length : Int) then (dragnetlaw10_IntsZones.l0 k t422 t425 0) else (some false)))) = some r := by rw [if_pos rfl] at H; exact H
  clear H
  have H := H1
  clear H1
  replace H := Option.bind_eq_some_iff.mp H
  obtain ⟨t422, A40, H⟩ := H
  replace H : ((dragnetref10_Zones.f k l0).bind fun t425 => (if (t422.length : Int) = (t425.length : Int) then (dragnetlaw10_IntsZones.l0 k t422 t425 0) else (some false))) = some r := H
  have A4 := Aside0.mk A40
  clear A40
  replace H := Option.bind_eq_some_iff.mp H
  obtain ⟨t425, A50, H⟩ := H
  replace H : (if (t422.length : Int) = (t425.length : Int) then (dragnetlaw10_IntsZones.l0 k t422 t425 0) else (some false)) = some r := H
  have A5 := Aside0.mk A50
  clear A50
  by_cases c6 : (t422.length : Int) = (t425.length : Int)
  ·rw [if_pos c6] at H
   have c6b0 : ((t422.length : Int) == (t425.length : Int)) = true := beq_iff_eq.mpr c6
   have c6b1 : ((t422.length : Int) != (t425.length : Int)) = false := bne_eq_false_iff_eq.mpr c6
   have c6b2 : (t422.length == t425.length) = true := by first | simpa using c6 | (simp at c6 ⊢; omega)
   clear c6
   have H' := Aside0.mk H
   clear H
   go_enter Try.func4, Try.ntmps4
   go_wp2_with (first | (go_at_call 9; (with_reducible refine (dragnetlaw10_alive.calls k  true _ A2.out).mono ?_); rintro e w7 ⟨rfl, hb⟩; have n0_ := Aside0.mk (below_step (by repeat (first | (with_reducible first | exact HB.out | apply pbA_ | apply pbN_ | apply pb1_) | exact HB.out)) hb); clear HB; have HB := n0_; clear n0_; (try clear hb); (try clear hb2); (try clear hk); (try clear hi)) | (go_at_call 18; (with_reducible refine (ints_Zones.calls k _ _ l0 t422 _ ?side1 ?side2 A4.out).mono ?_); (case side1 => repeat (first | exact (Kd.C_below HR0.out HB.out) | (with_reducible refine Kd.cA_ ?_ _) | (with_reducible refine Kd.cN_ ?_ _) | (with_reducible refine Kd.cD_ ?_))); (case side2 => exact HC0.out); rintro e w8 ⟨v423, rfl, ho0, hb⟩; have n0_ := Aside0.mk (Kd.R_lower ho0 (pbS_ (by repeat (first | (with_reducible first | exact HB.out | apply pbA_ | apply pbN_ | apply pb1_) | exact HB.out)))); have n1_ := Aside0.mk (below_step (by repeat (first | (with_reducible first | exact HB.out | apply pbA_ | apply pbN_ | apply pb1_) | exact HB.out)) hb); clear HB; have HO424 := n0_; have HB := n1_; clear n0_ n1_; (try clear hb); (try clear hb2); (try clear hk); (try clear hi); (try clear ho0)) | (go_at_call 19; (with_reducible refine (dragnetref10_Zones.calls k _ _ l0 t425 _ ?side1 ?side2 A5.out).mono ?_); (case side1 => repeat (first | exact (Kd.C_below HR0.out HB.out) | (with_reducible refine Kd.cA_ ?_ _) | (with_reducible refine Kd.cN_ ?_ _) | (with_reducible refine Kd.cD_ ?_))); (case side2 => exact HC0.out); rintro e w9 ⟨v426, rfl, ho0, hb⟩; have n0_ := Aside0.mk (Kd.R_elder' (by (with_reducible repeat (first | apply Kd.rA_ | apply Kd.rN_ | apply Kd.rD_)); exact HO424.out) (Kd.R_base ho0) hb); have n1_ := Aside0.mk (Kd.R_lower (Kd.R_new' ho0 (Kd.R_lt (by (with_reducible repeat (first | apply Kd.rA_ | apply Kd.rN_ | apply Kd.rD_)); exact HO424.out))) (pbS_ (by repeat (first | (with_reducible first | exact HB.out | apply pbA_ | apply pbN_ | apply pb1_) | exact HB.out)))); have n2_ := Aside0.mk (below_step (by repeat (first | (with_reducible first | exact HB.out | apply pbA_ | apply pbN_ | apply pb1_) | exact HB.out)) hb); clear HO424; clear HB; have HO424 := n0_; have HO427 := n1_; have HB := n2_; clear n0_ n1_ n2_; (try clear hb); (try clear hb2); (try clear hk); (try clear hi); (try clear ho0); obtain ⟨Ao10, co10, eo10⟩ := Kd.R_slice HO424.out; subst eo10; obtain ⟨Ao11, co11, eo11⟩ := Kd.R_slice HO427.out; subst eo11))
   repeat (go_quiet (first | (go_at_call 9; (with_reducible refine (dragnetlaw10_alive.calls k  true _ A2.out).mono ?_); rintro e w7 ⟨rfl, hb⟩; have n0_ := Aside0.mk (below_step (by repeat (first | (with_reducible first | exact HB.out | apply pbA_ | apply pbN_ | apply pb1_) | exact HB.out)) hb); clear HB; have HB := n0_; clear n0_; (try clear hb); (try clear hb2); (try clear hk); (try clear hi)) | (go_at_call 18; (with_reducible refine (ints_Zones.calls k _ _ l0 t422 _ ?side1 ?side2 A4.out).mono ?_); (case side1 => repeat (first | exact (Kd.C_below HR0.out HB.out) | (with_reducible refine Kd.cA_ ?_ _) | (with_reducible refine Kd.cN_ ?_ _) | (with_reducible refine Kd.cD_ ?_))); (case side2 => exact HC0.out); rintro e w8 ⟨v423, rfl, ho0, hb⟩; have n0_ := Aside0.mk (Kd.R_lower ho0 (pbS_ (by repeat (first | (with_reducible first | exact HB.out | apply pbA_ | apply pbN_ | apply pb1_) | exact HB.out)))); have n1_ := Aside0.mk (below_step (by repeat (first | (with_reducible first | exact HB.out | apply pbA_ | apply pbN_ | apply pb1_) | exact HB.out)) hb); clear HB; have HO424 := n0_; have HB := n1_; clear n0_ n1_; (try clear hb); (try clear hb2); (try clear hk); (try clear hi); (try clear ho0)) | (go_at_call 19; (with_reducible refine (dragnetref10_Zones.calls k _ _ l0 t425 _ ?side1 ?side2 A5.out).mono ?_); (case side1 => repeat (first | exact (Kd.C_below HR0.out HB.out) | (with_reducible refine Kd.cA_ ?_ _) | (with_reducible refine Kd.cN_ ?_ _) | (with_reducible refine Kd.cD_ ?_))); (case side2 => exact HC0.out); rintro e w9 ⟨v426, rfl, ho0, hb⟩; have n0_ := Aside0.mk (Kd.R_elder' (by (with_reducible repeat (first | apply Kd.rA_ | apply Kd.rN_ | apply Kd.rD_)); exact HO424.out) (Kd.R_base ho0) hb); have n1_ := Aside0.mk (Kd.R_lower (Kd.R_new' ho0 (Kd.R_lt (by (with_reducible repeat (first | apply Kd.rA_ | apply Kd.rN_ | apply Kd.rD_)); exact HO424.out))) (pbS_ (by repeat (first | (with_reducible first | exact HB.out | apply pbA_ | apply pbN_ | apply pb1_) | exact HB.out)))); have n2_ := Aside0.mk (below_step (by repeat (first | (with_reducible first | exact HB.out | apply pbA_ | apply pbN_ | apply pb1_) | exact HB.out)) hb); clear HO424; clear HB; have HO424 := n0_; have HO427 := n1_; have HB := n2_; clear n0_ n1_ n2_; (try clear hb); (try clear hb2); (try clear hk); (try clear hi); (try clear ho0); obtain ⟨Ao10, co10, eo10⟩ := Kd.R_slice HO424.out; subst eo10; obtain ⟨Ao11, co11, eo11⟩ := Kd.R_slice HO427.out; subst eo11)); try go_wp2_with (first | (go_at_call 9; (with_reducible refine (dragnetlaw10_alive.calls k  true _ A2.out).mono ?_); rintro e w7 ⟨rfl, hb⟩; have n0_ := Aside0.mk (below_step (by repeat (first | (with_reducible first | exact HB.out | apply pbA_ | apply pbN_ | apply pb1_) | exact HB.out)) hb); clear HB; have HB := n0_; clear n0_; (try clear hb); (try clear hb2); (try clear hk); (try clear hi)) | (go_at_call 18; (with_reducible refine (ints_Zones.calls k _ _ l0 t422 _ ?side1 ?side2 A4.out).mono ?_); (case side1 => repeat (first | exact (Kd.C_below HR0.out HB.out) | (with_reducible refine Kd.cA_ ?_ _) | (with_reducible refine Kd.cN_ ?_ _) | (with_reducible refine Kd.cD_ ?_))); (case side2 => exact HC0.out); rintro e w8 ⟨v423, rfl, ho0, hb⟩; have n0_ := Aside0.mk (Kd.R_lower ho0 (pbS_ (by repeat (first | (with_reducible first | exact HB.out | apply pbA_ | apply pbN_ | apply pb1_) | exact HB.out)))); have n1_ := Aside0.mk (below_step (by repeat (first | (with_reducible first | exact HB.out | apply pbA_ | apply pbN_ | apply pb1_) | exact HB.out)) hb); clear HB; have HO424 := n0_; have HB := n1_; clear n0_ n1_; (try clear hb); (try clear hb2); (try clear hk); (try clear hi); (try clear ho0)) | (go_at_call 19; (with_reducible refine (dragnetref10_Zones.calls k _ _ l0 t425 _ ?side1 ?side2 A5.out).mono ?_); (case side1 => repeat (first | exact (Kd.C_below HR0.out HB.out) | (with_reducible refine Kd.cA_ ?_ _) | (with_reducible refine Kd.cN_ ?_ _) | (with_reducible refine Kd.cD_ ?_))); (case side2 => exact HC0.out); rintro e w9 ⟨v426, rfl, ho0, hb⟩; have n0_ := Aside0.mk (Kd.R_elder' (by (with_reducible repeat (first | apply Kd.rA_ | apply Kd.rN_ | apply Kd.rD_)); exact HO424.out) (Kd.R_base ho0) hb); have n1_ := Aside0.mk (Kd.R_lower (Kd.R_new' ho0 (Kd.R_lt (by (with_reducible repeat (first | apply Kd.rA_ | apply Kd.rN_ | apply Kd.rD_)); exact HO424.out))) (pbS_ (by repeat (first | (with_reducible first | exact HB.out | apply pbA_ | apply pbN_ | apply pb1_) | exact HB.out)))); have n2_ := Aside0.mk (below_step (by repeat (first | (with_reducible first | exact HB.out | apply pbA_ | apply pbN_ | apply pb1_) | exact HB.out)) hb); clear HO424; clear HB; have HO424 := n0_; have HO427 := n1_; have HB := n2_; clear n0_ n1_ n2_; (try clear hb); (try clear hb2); (try clear hk); (try clear hi); (try clear ho0); obtain ⟨Ao10, co10, eo10⟩ := Kd.R_slice HO424.out; subst eo10; obtain ⟨Ao11, co11, eo11⟩ := Kd.R_slice HO427.out; subst eo11)))
   go_loopg [5] k (fun kq v5 w' => ∃ (x5_1 : Int), v5 = .int .i64 x5_1 ∧ Aside0 (dragnetlaw10_IntsZones.l0 kq t422 t425 x5_1 = some r) ∧ Aside0 (kq ≤ k) ∧ Aside0 (Kd.R k38 38 w' w.heap.size (fun k_ => some k_ ≠ ((.slice Ao11 t425.length co11) : Value).ownBlock) (.slice Ao10 t422.length co10) t422) ∧ Aside0 (Kd.R k38 38 w' w.heap.size (fun k_ => some k_ ≠ ((.slice Ao10 t422.length co10) : Value).ownBlock) (.slice Ao11 t425.length co11) t425) ∧ Aside0 (Below w.heap.size w w'))
   case atStart => exact ⟨(0), (by first | rfl | (simp; done) | (simp [*]; done)), H', ⟨Nat.le_refl _⟩, ⟨by (with_reducible repeat (first | apply Kd.rA_ | apply Kd.rN_ | apply Kd.rD_)); exact Kd.R_mono HO424.out (fun _ hk => hk.2)⟩, ⟨by (with_reducible repeat (first | apply Kd.rA_ | apply Kd.rN_ | apply Kd.rD_)); exact Kd.R_mono HO427.out (fun _ hk => hk.2)⟩, ⟨by repeat (first | (with_reducible first | exact HB.out | apply pbA_ | apply pbN_ | apply pb1_) | exact HB.out)⟩⟩
   case round =>
    clear H'
    try clear p2
    try clear c3
    try clear c4
    try clear c6
    try clear c6b0
    try clear c6b1
    try clear c6b2
    obtain ⟨x5_1, rfl, HA, HK1, HO_3, HO_4, HB⟩ := hrel
    cases gk with
    | zero => exact absurd HA.out (by simp [dragnetlaw10_IntsZones.l0])
    | succ k1 =>
     have H := HA.out
     clear HA
     simp only [dragnetlaw10_IntsZones.l0] at H
     by_cases c12 : x5_1 < (t422.length : Int)
     ·rw [if_pos c12] at H
      have c12b0 : decide (x5_1 < (t422.length : Int)) = true := decide_eq_true c12
      clear c12
      by_cases c13 : 0 ≤ x5_1
      ·rw [if_pos c13] at H
       have c13b0 : decide (0 ≤ x5_1) = true := decide_eq_true c13
       clear c13
       by_cases c14 : x5_1 < (t425.length : Int)
       ·rw [if_pos c14] at H
        have c14b0 : decide (x5_1 < (t425.length : Int)) = true := decide_eq_true c14
        clear c14
        by_cases c15 : (!(((rd_T38 t422 x5_1).f0) == ((rd_T38 t425 x5_1).f0)) || (!(((rd_T38 t422 x5_1).f1) == ((rd_T38 t425 x5_1).f1)) || (!(((rd_T38 t422 x5_1).f2) == ((rd_T38 t425 x5_1).f2))))) = true
        ·rw [if_pos c15] at H
         have c15b0 : (!(((rd_T38 t422 x5_1).f0) == ((rd_T38 t425 x5_1).f0)) || (!(((rd_T38 t422 x5_1).f1) == ((rd_T38 t425 x5_1).f1)) || (!(((rd_T38 t422 x5_1).f2) == ((rd_T38 t425 x5_1).f2))))) = true := c15
         clear c15
         obtain rfl := Option.some.inj H
         have p428 : 0 ≤ (x5_1 : Int) := of_decide_eq_true (by first | (with_reducible assumption) | assumption)
         have q428 : x5_1 < (t422.length : Int) := of_decide_eq_true (by first | (with_reducible assumption) | assumption)
         obtain ⟨ad428, e428, hx428_0, hx428_1, hx428_2⟩ := at_T38 (Kd.R_reads' HO_3.out).2.2 x5_1 p428 q428
         cases e428
         replace p428 := eq_true p428
         replace q428 := eq_true q428
         have p429 : 0 ≤ (x5_1 : Int) := of_decide_eq_true (by first | (with_reducible assumption) | assumption)
         have q429 : x5_1 < (t425.length : Int) := of_decide_eq_true (by first | (with_reducible assumption) | assumption)
         obtain ⟨ad429, e429, hx429_0, hx429_1, hx429_2⟩ := at_T38 (Kd.R_reads' HO_4.out).2.2 x5_1 p429 q429
         cases e429
         replace p429 := eq_true p429
         replace q429 := eq_true q429
         go_wp2
         repeat (go_quiet (fail); try go_wp2)
         go_ret
         exact ⟨by first | rfl | (simp [eWn_, eWs_] <;> rfl) | (simp [*, eWn_, eWs_] <;> rfl), by repeat (first | (with_reducible first | exact HB.out | apply pbA_ | apply pbN_ | apply pb1_) | exact HB.out)⟩
        ·rw [if_neg c15] at H
         have c15b0 : (!(((rd_T38 t422 x5_1).f0) == ((rd_T38 t425 x5_1).f0)) || (!(((rd_T38 t422 x5_1).f1) == ((rd_T38 t425 x5_1).f1)) || (!(((rd_T38 t422 x5_1).f2) == ((rd_T38 t425 x5_1).f2))))) = false := by simpa using c15
         clear c15
         have H' := Aside0.mk H
         clear H
         have p428 : 0 ≤ (x5_1 : Int) := of_decide_eq_true (by first | (with_reducible assumption) | assumption)
         have q428 : x5_1 < (t422.length : Int) := of_decide_eq_true (by first | (with_reducible assumption) | assumption)
         obtain ⟨ad428, e428, hx428_0, hx428_1, hx428_2⟩ := at_T38 (Kd.R_reads' HO_3.out).2.2 x5_1 p428 q428
         cases e428
         replace p428 := eq_true p428
         replace q428 := eq_true q428
         have p429 : 0 ≤ (x5_1 : Int) := of_decide_eq_true (by first | (with_reducible assumption) | assumption)
         have q429 : x5_1 < (t425.length : Int) := of_decide_eq_true (by first | (with_reducible assumption) | assumption)
         obtain ⟨ad429, e429, hx429_0, hx429_1, hx429_2⟩ := at_T38 (Kd.R_reads' HO_4.out).2.2 x5_1 p429 q429
         cases e429
         replace p429 := eq_true p429
         replace q429 := eq_true q429
         go_wp2
         repeat (go_quiet (fail); try go_wp2)
         go_roundg k1
         case measure => have := HK1.out; omega
         case rel => exact ⟨(wrap64 (x5_1 + 1)), (by first | rfl | (simp; done) | (simp [*]; done)), H', ⟨by have := HK1.out; omega⟩, ⟨by (with_reducible repeat (first | apply Kd.rA_ | apply Kd.rN_ | apply Kd.rD_)); exact HO_3.out⟩, ⟨by (with_reducible repeat (first | apply Kd.rA_ | apply Kd.rN_ | apply Kd.rD_)); exact HO_4.out⟩, ⟨by repeat (first | (with_reducible first | exact HB.out | apply pbA_ | apply pbN_ | apply pb1_) | exact HB.out)⟩⟩
       ·rw [if_neg c14] at H
        exact absurd H (by simp)
      ·rw [if_neg c13] at H
       exact absurd H (by simp)
     ·rw [if_neg c12] at H
      have c12b0 : decide (x5_1 < (t422.length : Int)) = false := decide_eq_false c12
      clear c12
      obtain rfl := Option.some.inj H
      go_wp2
      repeat (go_quiet (fail); try go_wp2)
      go_ret
      exact ⟨by first | rfl | (simp [eWn_, eWs_] <;> rfl) | (simp [*, eWn_, eWs_] <;> rfl), by repeat (first | (with_reducible first | exact HB.out | apply pbA_ | apply pbN_ | apply pb1_) | exact HB.out)⟩
  ·rw [if_neg c6] at H
   have c6b0 : ((t422.length : Int) == (t425.length : Int)) = false := beq_eq_false_iff_ne.mpr c6
   have c6b1 : ((t422.length : Int) != (t425.length : Int)) = true := bne_iff_ne.mpr c6
   have c6b2 : (t422.length == t425.length) = false := by first | simpa using c6 | (simp at c6 ⊢; omega)
   obtain rfl := Option.some.inj H
   go_enter Try.func4, Try.ntmps4
   go_wp2_with (first | (go_at_call 9; (with_reducible refine (dragnetlaw10_alive.calls k  true _ A2.out).mono ?_); rintro e w16 ⟨rfl, hb⟩; have n0_ := Aside0.mk (below_step (by repeat (first | (with_reducible first | exact HB.out | apply pbA_ | apply pbN_ | apply pb1_) | exact HB.out)) hb); clear HB; have HB := n0_; clear n0_; (try clear hb); (try clear hb2); (try clear hk); (try clear hi)) | (go_at_call 18; (with_reducible refine (ints_Zones.calls k _ _ l0 t422 _ ?side1 ?side2 A4.out).mono ?_); (case side1 => repeat (first | exact (Kd.C_below HR0.out HB.out) | (with_reducible refine Kd.cA_ ?_ _) | (with_reducible refine Kd.cN_ ?_ _) | (with_reducible refine Kd.cD_ ?_))); (case side2 => exact HC0.out); rintro e w17 ⟨v423, rfl, ho0, hb⟩; have n0_ := Aside0.mk (Kd.R_lower ho0 (pbS_ (by repeat (first | (with_reducible first | exact HB.out | apply pbA_ | apply pbN_ | apply pb1_) | exact HB.out)))); have n1_ := Aside0.mk (below_step (by repeat (first | (with_reducible first | exact HB.out | apply pbA_ | apply pbN_ | apply pb1_) | exact HB.out)) hb); clear HB; have HO424 := n0_; have HB := n1_; clear n0_ n1_; (try clear hb); (try clear hb2); (try clear hk); (try clear hi); (try clear ho0)) | (go_at_call 19; (with_reducible refine (dragnetref10_Zones.calls k _ _ l0 t425 _ ?side1 ?side2 A5.out).mono ?_); (case side1 => repeat (first | exact (Kd.C_below HR0.out HB.out) | (with_reducible refine Kd.cA_ ?_ _) | (with_reducible refine Kd.cN_ ?_ _) | (with_reducible refine Kd.cD_ ?_))); (case side2 => exact HC0.out); rintro e w18 ⟨v426, rfl, ho0, hb⟩; have n0_ := Aside0.mk (Kd.R_elder' (by (with_reducible repeat (first | apply Kd.rA_ | apply Kd.rN_ | apply Kd.rD_)); exact HO424.out) (Kd.R_base ho0) hb); have n1_ := Aside0.mk (Kd.R_lower (Kd.R_new' ho0 (Kd.R_lt (by (with_reducible repeat (first | apply Kd.rA_ | apply Kd.rN_ | apply Kd.rD_)); exact HO424.out))) (pbS_ (by repeat (first | (with_reducible first | exact HB.out | apply pbA_ | apply pbN_ | apply pb1_) | exact HB.out)))); have n2_ := Aside0.mk (below_step (by repeat (first | (with_reducible first | exact HB.out | apply pbA_ | apply pbN_ | apply pb1_) | exact HB.out)) hb); clear HO424; clear HB; have HO424 := n0_; have HO427 := n1_; have HB := n2_; clear n0_ n1_ n2_; (try clear hb); (try clear hb2); (try clear hk); (try clear hi); (try clear ho0); obtain ⟨Ao19, co19, eo19⟩ := Kd.R_slice HO424.out; subst eo19; obtain ⟨Ao20, co20, eo20⟩ := Kd.R_slice HO427.out; subst eo20))
   repeat (go_quiet (first | (go_at_call 9; (with_reducible refine (dragnetlaw10_alive.calls k  true _ A2.out).mono ?_); rintro e w16 ⟨rfl, hb⟩; have n0_ := Aside0.mk (below_step (by repeat (first | (with_reducible first | exact HB.out | apply pbA_ | apply pbN_ | apply pb1_) | exact HB.out)) hb); clear HB; have HB := n0_; clear n0_; (try clear hb); (try clear hb2); (try clear hk); (try clear hi)) | (go_at_call 18; (with_reducible refine (ints_Zones.calls k _ _ l0 t422 _ ?side1 ?side2 A4.out).mono ?_); (case side1 => repeat (first | exact (Kd.C_below HR0.out HB.out) | (with_reducible refine Kd.cA_ ?_ _) | (with_reducible refine Kd.cN_ ?_ _) | (with_reducible refine Kd.cD_ ?_))); (case side2 => exact HC0.out); rintro e w17 ⟨v423, rfl, ho0, hb⟩; have n0_ := Aside0.mk (Kd.R_lower ho0 (pbS_ (by repeat (first | (with_reducible first | exact HB.out | apply pbA_ | apply pbN_ | apply pb1_) | exact HB.out)))); have n1_ := Aside0.mk (below_step (by repeat (first | (with_reducible first | exact HB.out | apply pbA_ | apply pbN_ | apply pb1_) | exact HB.out)) hb); clear HB; have HO424 := n0_; have HB := n1_; clear n0_ n1_; (try clear hb); (try clear hb2); (try clear hk); (try clear hi); (try clear ho0)) | (go_at_call 19; (with_reducible refine (dragnetref10_Zones.calls k _ _ l0 t425 _ ?side1 ?side2 A5.out).mono ?_); (case side1 => repeat (first | exact (Kd.C_below HR0.out HB.out) | (with_reducible refine Kd.cA_ ?_ _) | (with_reducible refine Kd.cN_ ?_ _) | (with_reducible refine Kd.cD_ ?_))); (case side2 => exact HC0.out); rintro e w18 ⟨v426, rfl, ho0, hb⟩; have n0_ := Aside0.mk (Kd.R_elder' (by (with_reducible repeat (first | apply Kd.rA_ | apply Kd.rN_ | apply Kd.rD_)); exact HO424.out) (Kd.R_base ho0) hb); have n1_ := Aside0.mk (Kd.R_lower (Kd.R_new' ho0 (Kd.R_lt (by (with_reducible repeat (first | apply Kd.rA_ | apply Kd.rN_ | apply Kd.rD_)); exact HO424.out))) (pbS_ (by repeat (first | (with_reducible first | exact HB.out | apply pbA_ | apply pbN_ | apply pb1_) | exact HB.out)))); have n2_ := Aside0.mk (below_step (by repeat (first | (with_reducible first | exact HB.out | apply pbA_ | apply pbN_ | apply pb1_) | exact HB.out)) hb); clear HO424; clear HB; have HO424 := n0_; have HO427 := n1_; have HB := n2_; clear n0_ n1_ n2_; (try clear hb); (try clear hb2); (try clear hk); (try clear hi); (try clear ho0); obtain ⟨Ao19, co19, eo19⟩ := Kd.R_slice HO424.out; subst eo19; obtain ⟨Ao20, co20, eo20⟩ := Kd.R_slice HO427.out; subst eo20)); try go_wp2_with (first | (go_at_call 9; (with_reducible refine (dragnetlaw10_alive.calls k  true _ A2.out).mono ?_); rintro e w16 ⟨rfl, hb⟩; have n0_ := Aside0.mk (below_step (by repeat (first | (with_reducible first | exact HB.out | apply pbA_ | apply pbN_ | apply pb1_) | exact HB.out)) hb); clear HB; have HB := n0_; clear n0_; (try clear hb); (try clear hb2); (try clear hk); (try clear hi)) | (go_at_call 18; (with_reducible refine (ints_Zones.calls k _ _ l0 t422 _ ?side1 ?side2 A4.out).mono ?_); (case side1 => repeat (first | exact (Kd.C_below HR0.out HB.out) | (with_reducible refine Kd.cA_ ?_ _) | (with_reducible refine Kd.cN_ ?_ _) | (with_reducible refine Kd.cD_ ?_))); (case side2 => exact HC0.out); rintro e w17 ⟨v423, rfl, ho0, hb⟩; have n0_ := Aside0.mk (Kd.R_lower ho0 (pbS_ (by repeat (first | (with_reducible first | exact HB.out | apply pbA_ | apply pbN_ | apply pb1_) | exact HB.out)))); have n1_ := Aside0.mk (below_step (by repeat (first | (with_reducible first | exact HB.out | apply pbA_ | apply pbN_ | apply pb1_) | exact HB.out)) hb); clear HB; have HO424 := n0_; have HB := n1_; clear n0_ n1_; (try clear hb); (try clear hb2); (try clear hk); (try clear hi); (try clear ho0)) | (go_at_call 19; (with_reducible refine (dragnetref10_Zones.calls k _ _ l0 t425 _ ?side1 ?side2 A5.out).mono ?_); (case side1 => repeat (first | exact (Kd.C_below HR0.out HB.out) | (with_reducible refine Kd.cA_ ?_ _) | (with_reducible refine Kd.cN_ ?_ _) | (with_reducible refine Kd.cD_ ?_))); (case side2 => exact HC0.out); rintro e w18 ⟨v426, rfl, ho0, hb⟩; have n0_ := Aside0.mk (Kd.R_elder' (by (with_reducible repeat (first | apply Kd.rA_ | apply Kd.rN_ | apply Kd.rD_)); exact HO424.out) (Kd.R_base ho0) hb); have n1_ := Aside0.mk (Kd.R_lower (Kd.R_new' ho0 (Kd.R_lt (by (with_reducible repeat (first | apply Kd.rA_ | apply Kd.rN_ | apply Kd.rD_)); exact HO424.out))) (pbS_ (by repeat (first | (with_reducible first | exact HB.out | apply pbA_ | apply pbN_ | apply pb1_) | exact HB.out)))); have n2_ := Aside0.mk (below_step (by repeat (first | (with_reducible first | exact HB.out | apply pbA_ | apply pbN_ | apply pb1_) | exact HB.out)) hb); clear HO424; clear HB; have HO424 := n0_; have HO427 := n1_; have HB := n2_; clear n0_ n1_ n2_; (try clear hb); (try clear hb2); (try clear hk); (try clear hi); (try clear ho0); obtain ⟨Ao19, co19, eo19⟩ := Kd.R_slice HO424.out; subst eo19; obtain ⟨Ao20, co20, eo20⟩ := Kd.R_slice HO427.out; subst eo20)))
   go_ret
   exact ⟨by first | rfl | (simp [eWn_, eWs_] <;> rfl) | (simp [*, eWn_, eWs_] <;> rfl), by repeat (first | (with_reducible first | exact HB.out | apply pbA_ | apply pbN_ | apply pb1_) | exact HB.out)⟩
 ·replace c3 := Bool.eq_false_iff.mpr c3
  subst c3
  have H1 : (some false) = some r := by rw [if_neg (show ¬ (false = true) by decide)] at H; exact H
  clear H
  have H := H1
  clear H1
  obtain rfl := Option.some.inj H
  go_enter Try.func4, Try.ntmps4
  go_wp2_with (first | (go_at_call 9; (with_reducible refine (dragnetlaw10_alive.calls k  false _ A2.out).mono ?_); rintro e w21 ⟨rfl, hb⟩; have n0_ := Aside0.mk (below_step (by repeat (first | (with_reducible first | exact HB.out | apply pbA_ | apply pbN_ | apply pb1_) | exact HB.out)) hb); clear HB; have HB := n0_; clear n0_; (try clear hb); (try clear hb2); (try clear hk); (try clear hi)))
  repeat (go_quiet (first | (go_at_call 9; (with_reducible refine (dragnetlaw10_alive.calls k  false _ A2.out).mono ?_); rintro e w21 ⟨rfl, hb⟩; have n0_ := Aside0.mk (below_step (by repeat (first | (with_reducible first | exact HB.out | apply pbA_ | apply pbN_ | apply pb1_) | exact HB.out)) hb); clear HB; have HB := n0_; clear n0_; (try clear hb); (try clear hb2); (try clear hk); (try clear hi))); try go_wp2_with (first | (go_at_call 9; (with_reducible refine (dragnetlaw10_alive.calls k  false _ A2.out).mono ?_); rintro e w21 ⟨rfl, hb⟩; have n0_ := Aside0.mk (below_step (by repeat (first | (with_reducible first | exact HB.out | apply pbA_ | apply pbN_ | apply pb1_) | exact HB.out)) hb); clear HB; have HB := n0_; clear n0_; (try clear hb); (try clear hb2); (try clear hk); (try clear hi))))
  go_ret
  exact ⟨by first | rfl | (simp [eWn_, eWs_] <;> rfl) | (simp [*, eWn_, eWs_] <;> rfl), by repeat (first | (with_reducible first | exact HB.out | apply pbA_ | apply pbN_ | apply pb1_) | exact HB.out)⟩
end Go.Proofs.Ytcjkmmajokkkfaa.P
end
section
namespace Go.Proofs.Ytcjkmmajokkkfaa.P
open Go.RowKit Go.Proofs.YtcjkmmajokkkfaaW.PrintWords Go.Proofs.YtcjkmmajokkkfaaW.PrintLast Go.Proofs.YtcjkmmajokkkfaaW.PrintMore
attribute [local go_sem] max2_int min2_int max_two min_two max_three min_three max_four min_four
set_option linter.unusedVariables false
set_option linter.unusedSimpArgs false
end Go.Proofs.Ytcjkmmajokkkfaa.P
end
section
namespace Go.Proofs.Ytcjkmmajokkkfaa.P
open Go.RowKit Go.Proofs.YtcjkmmajokkkfaaW.PrintWords Go.Proofs.YtcjkmmajokkkfaaW.PrintLast Go.Proofs.YtcjkmmajokkkfaaW.PrintMore
attribute [local go_sem] max2_int min2_int max_two min_two max_three min_three max_four min_four
set_option linter.unusedVariables false
set_option linter.unusedSimpArgs false
end Go.Proofs.Ytcjkmmajokkkfaa.P
end
section
namespace Go.Proofs.Ytcjkmmajokkkfaa.P
open Go.RowKit Go.Proofs.YtcjkmmajokkkfaaW.PrintWords Go.Proofs.YtcjkmmajokkkfaaW.PrintLast Go.Proofs.YtcjkmmajokkkfaaW.PrintMore
attribute [local go_sem] max2_int min2_int max_two min_two max_three min_three max_four min_four
set_option linter.unusedVariables false
set_option linter.unusedSimpArgs false
end Go.Proofs.Ytcjkmmajokkkfaa.P
end
section
namespace Go.Proofs.Ytcjkmmajokkkfaa.P
open Go.RowKit Go.Proofs.YtcjkmmajokkkfaaW.PrintWords Go.Proofs.YtcjkmmajokkkfaaW.PrintLast Go.Proofs.YtcjkmmajokkkfaaW.PrintMore
attribute [local go_sem] max2_int min2_int max_two min_two max_three min_three max_four min_four
set_option linter.unusedVariables false
set_option linter.unusedSimpArgs false
end Go.Proofs.Ytcjkmmajokkkfaa.P
end
section
namespace Go.Proofs.Ytcjkmmajokkkfaa.P
open Go.RowKit Go.Proofs.YtcjkmmajokkkfaaW.PrintWords Go.Proofs.YtcjkmmajokkkfaaW.PrintLast Go.Proofs.YtcjkmmajokkkfaaW.PrintMore
attribute [local go_sem] max2_int min2_int max_two min_two max_three min_three max_four min_four
set_option linter.unusedVariables false
set_option linter.unusedSimpArgs false
end Go.Proofs.Ytcjkmmajokkkfaa.P
end
section
namespace Go.Proofs.Ytcjkmmajokkkfaa.P
open Go.RowKit Go.Proofs.YtcjkmmajokkkfaaW.PrintWords Go.Proofs.YtcjkmmajokkkfaaW.PrintLast Go.Proofs.YtcjkmmajokkkfaaW.PrintMore
attribute [local go_sem] max2_int min2_int max_two min_two max_three min_three max_four min_four
set_option linter.unusedVariables false
set_option linter.unusedSimpArgs false
end Go.Proofs.Ytcjkmmajokkkfaa.P
end
section
namespace Go.Proofs.Ytcjkmmajokkkfaa.P
open Go.RowKit Go.Proofs.YtcjkmmajokkkfaaW.PrintWords Go.Proofs.YtcjkmmajokkkfaaW.PrintLast Go.Proofs.YtcjkmmajokkkfaaW.PrintMore
attribute [local go_sem] max2_int min2_int max_two min_two max_three min_three max_four min_four
set_option linter.unusedVariables false
set_option linter.unusedSimpArgs false
end Go.Proofs.Ytcjkmmajokkkfaa.P
end
section
namespace Go.Proofs.Ytcjkmmajokkkfaa.P
open Go.RowKit Go.Proofs.YtcjkmmajokkkfaaW.PrintWords Go.Proofs.YtcjkmmajokkkfaaW.PrintLast Go.Proofs.YtcjkmmajokkkfaaW.PrintMore
attribute [local go_sem] max2_int min2_int max_two min_two max_three min_three max_four min_four
set_option linter.unusedVariables false
set_option linter.unusedSimpArgs false
end Go.Proofs.Ytcjkmmajokkkfaa.P
end
section
namespace Go.Proofs.Ytcjkmmajokkkfaa.P
open Go.RowKit Go.Proofs.YtcjkmmajokkkfaaW.PrintWords Go.Proofs.YtcjkmmajokkkfaaW.PrintLast Go.Proofs.YtcjkmmajokkkfaaW.PrintMore
attribute [local go_sem] max2_int min2_int max_two min_two max_three min_three max_four min_four
set_option linter.unusedVariables false
set_option linter.unusedSimpArgs false
end Go.Proofs.Ytcjkmmajokkkfaa.P
end
section
namespace Go.Proofs.Ytcjkmmajokkkfaa.P
open Go.RowKit Go.Proofs.YtcjkmmajokkkfaaW.PrintWords Go.Proofs.YtcjkmmajokkkfaaW.PrintLast Go.Proofs.YtcjkmmajokkkfaaW.PrintMore
attribute [local go_sem] max2_int min2_int max_two min_two max_three min_three max_four min_four
set_option linter.unusedVariables false
set_option linter.unusedSimpArgs false
end Go.Proofs.Ytcjkmmajokkkfaa.P
end
