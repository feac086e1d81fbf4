/- Words and proofs that IntsFinds leans on; put together by wip/tools/shake.py. -/
import Derived.Test.YtcjkmmajokkkfaaZIntsFinds11
import Derived.Test.YtcjkmmajokkkfaaZIntsFinds12
import Derived.Test.YtcjkmmajokkkfaaZIntsFinds13
import Derived.ArgAppend
import Derived.Below
import Derived.BigQuiet
import Derived.Deep.AppendLies
import Derived.Deep.CutBlock
import Derived.Deep.DeepCutAuto
import Derived.Deep.Draws
import Derived.Deep.LoopGhost
import Derived.Deep.OwnRows
import Derived.Deep.QuietTactic
import Derived.Deep.RegionHeld3
import Derived.KernelRfl
import Derived.Laws.BitsLemmas
import Derived.Laws.BytesArg
import Derived.Laws.Cover1
import Derived.Laws.IdiomCopy
import Derived.Laws.MakeOwn
import Derived.Laws.OwnMore
import Derived.Laws.Rows
import Derived.Laws.Slices
import Derived.Laws.StructEq
import Derived.Lib.AppendStr
import Derived.Lib.BitFns
import Derived.Lib.ConvBytes
import Derived.Lib.Slices
import Derived.Lib.Small
import Derived.Lib.Strings
import Derived.Lib.Walk
import Derived.LoopIn
import Derived.LoopNIn
import Derived.Maps.AppendAt
import Derived.OrdersHeld
import Derived.OwnWalk
import Derived.OwnWalkIn
import Derived.RangeFuncBound
import Derived.RangeFuncBox
import Derived.RangeFuncCalls
import Derived.RangeFuncFrom
import Derived.RangeFuncLeaves
import Derived.RangeFuncNested
import Derived.RowKit
import Derived.RowKit3
import Derived.ScopeJumps
import Derived.Shelf.Abstract
import Derived.Sort.QuietIn
import Derived.Tactics
import Derived.TacticsInMore
import Derived.Test.YtcjkmmajokkkfaaChecked
import Derived.Test.YtcjkmmajokkkfaaProg
import Derived.WalkKit
import Derived.WalkMore
import Derived.WalkSpells
import Derived.WideLaws
section
namespace Go.Proofs.Ytcjkmmajokkkfaa.P
open Go.RowKit Go.Proofs.YtcjkmmajokkkfaaW.PrintWords Go.Proofs.YtcjkmmajokkkfaaW.PrintLast Go.Proofs.YtcjkmmajokkkfaaW.PrintMore
attribute [local go_sem] max2_int min2_int max_two min_two max_three min_three max_four min_four
set_option linter.unusedVariables false
set_option linter.unusedSimpArgs false
mutual
noncomputable def dragnetlaw10_IntsFinds.l0 : Nat → List (S42) → Int → List Int → List Int → List Int → List Int → Int → Option (Bool)
 | 0, _, _, _, _, _, _, _ => none
 | k + 1, x0, x1, x5, x6, x7, x8, x9 => if x9 < (x0.length : Int) then (if 0 ≤ x9 then (if (rd_T42 x0 x9).f0 = true then (if ((rd_T42 x0 x9).f1) < x1 then (if (x7.length : Int) = 0 then (dragnetlaw10_IntsFinds.j1 k x0 x1 x5 x6 x7 x8 x9 (wrap64 (Int.tdiv x9 16)) true) else (if 0 ≤ (wrap64 ((x7.length : Int) - 1)) then (if (wrap64 ((x7.length : Int) - 1)) < (x7.length : Int) then (dragnetlaw10_IntsFinds.j1 k x0 x1 x5 x6 x7 x8 x9 (wrap64 (Int.tdiv x9 16)) ((rd x7 (wrap64 ((x7.length : Int) - 1))) != (wrap64 (Int.tdiv x9 16)))) else (none)) else (none))) else (dragnetlaw10_IntsFinds.j1 k x0 x1 x5 x6 x7 x8 x9 (wrap64 (Int.tdiv x9 16)) false)) else (dragnetlaw10_IntsFinds.j1 k x0 x1 x5 x6 x7 x8 x9 (wrap64 (Int.tdiv x9 16)) false)) else (none)) else ((dragnetref09_Ints.f k x5 x7).bind fun t438 => (if t438 = true then ((dragnetref09_Ints.f k x6 x8).bind fun t439 => (some t439)) else (some false)))
noncomputable def dragnetlaw10_IntsFinds.j1 : Nat → List (S42) → Int → List Int → List Int → List Int → List Int → Int → Int → Bool → Option (Bool)
 | 0, _, _, _, _, _, _, _, _, _ => none
 | k + 1, x0, x1, x5, x6, x7, x8, x9, x10, x64 => if x64 = true then (if x7.length < 17592186044416 then ((some (x7 ++ [x10] : List Int)).bind fun y443 => (if 0 ≤ x9 then (if x9 < (x0.length : Int) then (if (rd_T42 x0 x9).f0 = true then (if ((rd_T42 x0 x9).f1) > x1 then (if (x8.length : Int) = 0 then (if x8.length < 17592186044416 then (dragnetlaw10_IntsFinds.l0 k x0 x1 x5 x6 y443 (x8 ++ [x10]) (wrap64 (x9 + 1))) else (none)) else (if 0 ≤ (wrap64 ((x8.length : Int) - 1)) then (if (wrap64 ((x8.length : Int) - 1)) < (x8.length : Int) then (if (rd x8 (wrap64 ((x8.length : Int) - 1))) = x10 then (dragnetlaw10_IntsFinds.l0 k x0 x1 x5 x6 y443 x8 (wrap64 (x9 + 1))) else (if x8.length < 17592186044416 then (dragnetlaw10_IntsFinds.l0 k x0 x1 x5 x6 y443 (x8 ++ [x10]) (wrap64 (x9 + 1))) else (none))) else (none)) else (none))) else (dragnetlaw10_IntsFinds.l0 k x0 x1 x5 x6 y443 x8 (wrap64 (x9 + 1)))) else (dragnetlaw10_IntsFinds.l0 k x0 x1 x5 x6 y443 x8 (wrap64 (x9 + 1)))) else (none)) else (none))) else (none)) else (if 0 ≤ x9 then (if x9 < (x0.length : Int) then (if (rd_T42 x0 x9).f0 = true then (if ((rd_T42 x0 x9).f1) > x1 then (if (x8.length : Int) = 0 then (if x8.length < 17592186044416 then (dragnetlaw10_IntsFinds.l0 k x0 x1 x5 x6 x7 (x8 ++ [x10]) (wrap64 (x9 + 1))) else (none)) else (if 0 ≤ (wrap64 ((x8.length : Int) - 1)) then (if (wrap64 ((x8.length : Int) - 1)) < (x8.length : Int) then (if (rd x8 (wrap64 ((x8.length : Int) - 1))) = x10 then (dragnetlaw10_IntsFinds.l0 k x0 x1 x5 x6 x7 x8 (wrap64 (x9 + 1))) else (if x8.length < 17592186044416 then (dragnetlaw10_IntsFinds.l0 k x0 x1 x5 x6 x7 (x8 ++ [x10]) (wrap64 (x9 + 1))) else (none))) else (none)) else (none))) else (dragnetlaw10_IntsFinds.l0 k x0 x1 x5 x6 x7 x8 (wrap64 (x9 + 1)))) else (dragnetlaw10_IntsFinds.l0 k x0 x1 x5 x6 x7 x8 (wrap64 (x9 + 1)))) else (none)) else (none))
end
noncomputable def dragnetlaw10_IntsFinds.f (k : Nat) (l0 : List (S42)) (a1 : Int) : Option (Bool) := (dragnetlaw10_alive.f k).bind fun t430 => (if t430 = true then ((ints_Below.f k l0 a1).bind fun t431 => ((ints_Above.f k l0 a1).bind fun t434 => ((dragnetref10_Formed.f k l0).bind fun t437 => (if t437 = true then (dragnetlaw10_IntsFinds.l0 k l0 a1 t431 t434 ([] : List Int) ([] : List Int) 0) else (some ((wrap64 ((t431.length : Int) + (t434.length : Int))) == 0)))))) else (some false))
theorem dragnetlaw10_IntsFinds.mono_l : ∀ k, (∀ y0 y1 y2 y3 y4 y5 y6, LeO (dragnetlaw10_IntsFinds.l0 k y0 y1 y2 y3 y4 y5 y6) (dragnetlaw10_IntsFinds.l0 (k + 1) y0 y1 y2 y3 y4 y5 y6)) ∧ (∀ y0 y1 y2 y3 y4 y5 y6 y7 y8, LeO (dragnetlaw10_IntsFinds.j1 k y0 y1 y2 y3 y4 y5 y6 y7 y8) (dragnetlaw10_IntsFinds.j1 (k + 1) y0 y1 y2 y3 y4 y5 y6 y7 y8))
 | 0 => ⟨fun _ _ _ _ _ _ _ r h => by simp [dragnetlaw10_IntsFinds.l0] at h, fun _ _ _ _ _ _ _ _ _ r h => by simp [dragnetlaw10_IntsFinds.j1] at h⟩
 | k + 1 => by
  obtain ⟨ih0, ih1⟩ := dragnetlaw10_IntsFinds.mono_l k
  refine ⟨?_, ?_⟩
  ·intro y0 y1 y2 y3 y4 y5 y6
   unfold dragnetlaw10_IntsFinds.l0
   repeat' first
   | (with_reducible exact ih0 _ _ _ _ _ _ _)
   | (with_reducible exact ih1 _ _ _ _ _ _ _ _ _)
   | (with_reducible exact dragnetlaw10_alive.mono _)
   | (with_reducible exact dragnetref09_Ints.mono _ _ _)
   | (with_reducible exact dragnetref10_Formed.mono _ _)
   | (with_reducible exact ints_Above.mono _ _ _)
   | (with_reducible exact ints_Below.mono _ _ _)
   | (with_reducible exact LeO.refl _)
   | (with_reducible exact LeO.none _)
   | (with_reducible refine LeO.ite ?_ ?_)
   | (with_reducible refine LeO.bind ?_ (fun _ => ?_))
   | exact ih0 _ _ _ _ _ _ _
   | exact ih1 _ _ _ _ _ _ _ _ _
   | exact dragnetlaw10_alive.mono _
   | exact dragnetref09_Ints.mono _ _ _
   | exact dragnetref10_Formed.mono _ _
   | exact ints_Above.mono _ _ _
   | exact ints_Below.mono _ _ _
   | exact LeO.none _
   | refine LeO.ite ?_ ?_
   | refine LeO.bind ?_ (fun _ => ?_)
  ·intro y0 y1 y2 y3 y4 y5 y6 y7 y8
   unfold dragnetlaw10_IntsFinds.j1
   repeat' first
   | (with_reducible exact ih0 _ _ _ _ _ _ _)
   | (with_reducible exact ih1 _ _ _ _ _ _ _ _ _)
   | (with_reducible exact dragnetlaw10_alive.mono _)
   | (with_reducible exact dragnetref09_Ints.mono _ _ _)
   | (with_reducible exact dragnetref10_Formed.mono _ _)
   | (with_reducible exact ints_Above.mono _ _ _)
   | (with_reducible exact ints_Below.mono _ _ _)
   | (with_reducible exact LeO.refl _)
   | (with_reducible exact LeO.none _)
   | (with_reducible refine LeO.ite ?_ ?_)
   | (with_reducible refine LeO.bind ?_ (fun _ => ?_))
   | exact ih0 _ _ _ _ _ _ _
   | exact ih1 _ _ _ _ _ _ _ _ _
   | exact dragnetlaw10_alive.mono _
   | exact dragnetref09_Ints.mono _ _ _
   | exact dragnetref10_Formed.mono _ _
   | exact ints_Above.mono _ _ _
   | exact ints_Below.mono _ _ _
   | exact LeO.none _
   | refine LeO.ite ?_ ?_
   | refine LeO.bind ?_ (fun _ => ?_)
theorem dragnetlaw10_IntsFinds.mono : ∀ a0 a1 k, LeO (dragnetlaw10_IntsFinds.f k a0 a1) (dragnetlaw10_IntsFinds.f (k + 1) a0 a1) := by
 intro a0 a1 k
 obtain ⟨ih0, ih1⟩ := dragnetlaw10_IntsFinds.mono_l k
 unfold dragnetlaw10_IntsFinds.f
 repeat' first
   | (with_reducible exact ih0 _ _ _ _ _ _ _)
   | (with_reducible exact ih1 _ _ _ _ _ _ _ _ _)
   | (with_reducible exact dragnetlaw10_alive.mono _)
   | (with_reducible exact dragnetref09_Ints.mono _ _ _)
   | (with_reducible exact dragnetref10_Formed.mono _ _)
   | (with_reducible exact ints_Above.mono _ _ _)
   | (with_reducible exact ints_Below.mono _ _ _)
   | (with_reducible exact LeO.refl _)
   | (with_reducible exact LeO.none _)
   | (with_reducible refine LeO.ite ?_ ?_)
   | (with_reducible refine LeO.bind ?_ (fun _ => ?_))
   | exact ih0 _ _ _ _ _ _ _
   | exact ih1 _ _ _ _ _ _ _ _ _
   | exact dragnetlaw10_alive.mono _
   | exact dragnetref09_Ints.mono _ _ _
   | exact dragnetref10_Formed.mono _ _
   | exact ints_Above.mono _ _ _
   | exact ints_Below.mono _ _ _
   | exact LeO.none _
   | refine LeO.ite ?_ ?_
   | refine LeO.bind ?_ (fun _ => ?_)
set_option maxHeartbeats 8000000 in
set_option maxRecDepth 100000 in
theorem dragnetlaw10_IntsFinds.calls (k : Nat) (A0 : Option Addr) (c0 : Nat) (l0 : List (S42)) (a1 : Int) (r : Bool) (w : World) (hr0 : Kd.C k42 w A0 l0.length l0) (hc0 : l0.length ≤ c0) (h : dragnetlaw10_IntsFinds.f k l0 a1 = some r) :
  Calls Try.prog 5 #[.slice A0 l0.length c0, .int .i64 a1] w fun e w' => e = .returned (.bool r) ∧ Below w.heap.size w w' := by
 have HR0 := Aside0.mk hr0
 have HC0 := Aside0.mk hc0
 clear hr0 hc0
 have HB := Aside0.mk (Below.refl w.heap.size w)
 have H : ((dragnetlaw10_alive.f k).bind fun t430 => (if t430 = true then ((ints_Below.f k l0 a1).bind fun t431 => ((ints_Above.f k l0 a1).bind fun t434 => ((dragnetref10_Formed.f k l0).bind fun t437 => (if t437 = true then (dragnetlaw10_IntsFinds.l0 k l0 a1 t431 t434 ([] : List Int) ([] : List Int) 0) else (some ((wrap64 ((t431.length : Int) + (t434.length : Int))) == 0)))))) else (some false))) = some r := h
 clear h
 replace H := Option.bind_eq_some_iff.mp H
 obtain ⟨t430, A30, H⟩ := H
 replace H : (if t430 = true then ((ints_Below.f k l0 a1).bind fun t431 => ((ints_Above.f k l0 a1).bind fun t434 => ((dragnetref10_Formed.f k l0).bind fun t437 => (if t437 = true then (dragnetlaw10_IntsFinds.l0 k l0 a1 t431 t434 ([] : List Int) ([] : List Int) 0) else (some ((wrap64 ((t431.length : Int) + (t434.length : Int))) == 0)))))) else (some false)) = some r := H
 have A3 := Aside0.mk A30
 clear A30
 by_cases c4 : t430 = true
 ·subst c4
  have H1 : ((ints_Below.f k l0 a1).bind fun t431 => ((ints_Above.f k l0 a1).bind fun t434 => ((dragnetref10_Formed.f k l0).bind fun t437 => (if t437 = true then (dragnetlaw10_IntsFinds.l0 k l0 a1 t431 t434 ([] : List Int) ([] : List Int) 0) else (some ((wrap64 ((t431.length : Int) + (t434.length : Int))) == 0)))))) = some r := by rw [if_pos rfl] at H; exact H
  clear H
  have H := H1
  clear H1
  replace H := Option.bind_eq_some_iff.mp H
  obtain ⟨t431, A50, H⟩ := H
  replace H : ((ints_Above.f k l0 a1).bind fun t434 => ((dragnetref10_Formed.f k l0).bind fun t437 => (if t437 = true then (dragnetlaw10_IntsFinds.l0 k l0 a1 t431 t434 ([] : List Int) ([] : List Int) 0) else (some ((wrap64 ((t431.length : Int) + (t434.length : Int))) == 0))))) = some r := H
  have A5 := Aside0.mk A50
  clear A50
  replace H := Option.bind_eq_some_iff.mp H
  obtain ⟨t434, A60, H⟩ := H
  replace H : ((dragnetref10_Formed.f k l0).bind fun t437 => (if t437 = true then (dragnetlaw10_IntsFinds.l0 k l0 a1 t431 t434 ([] : List Int) ([] : List Int) 0) else (some ((wrap64 ((t431.length : Int) + (t434.length : Int))) == 0)))) = some r := H
  have A6 := Aside0.mk A60
  clear A60
  replace H := Option.bind_eq_some_iff.mp H
  obtain ⟨t437, A70, H⟩ := H
  replace H : (if t437 = true then (dragnetlaw10_IntsFinds.l0 k l0 a1 t431 t434 ([] : List Int) ([] : List Int) 0) else (some ((wrap64 ((t431.length : Int) + (t434.length : Int))) == 0))) = some r := H
  have A7 := Aside0.mk A70
  clear A70
  by_cases c8 : t437 = true
  ·subst c8
   have H1 : (dragnetlaw10_IntsFinds.l0 k l0 a1 t431 t434 ([] : List Int) ([] : List Int) 0) = some r := by rw [if_pos rfl] at H; exact H
   clear H
   have H := H1
   clear H1
   have H' := Aside0.mk H
   clear H
   go_enter Try.func5, Try.ntmps5
   go_wp2_with (first | ((with_reducible refine gaC_ (f := 9) rfl ?_); refine goesL_ (some 11) rfl rfl Try.func9 (by kernel_rfl) rfl #[] rfl (by (try simp only [List.map_toArray, List.map_cons, List.map_nil]); first | done | rfl | (simp only [List.length_drop, List.length_take]; rfl)) ?_; (with_reducible refine (dragnetlaw10_alive.calls k  true _ A3.out).mono ?_); rintro e w9 ⟨rfl, hb⟩; refine ⟨_, rfl, ?_⟩; have n0_ := Aside0.mk (below_step (by repeat (first | (with_reducible first | exact HB.out | apply pbA_ | apply pbN_ | apply pb1_) | exact HB.out)) hb); clear HB; have HB := n0_; clear n0_; (try clear hb); (try clear hb2); (try clear hk); (try clear hi)) | ((with_reducible refine gaC_ (f := 20) rfl ?_); refine goesL_ (some 15) rfl rfl Try.func20 (by kernel_rfl) rfl #[.slice A0 l0.length c0, .int .i64 a1] rfl (by (try simp only [List.map_toArray, List.map_cons, List.map_nil]); first | done | rfl | (simp only [List.length_drop, List.length_take]; rfl)) ?_; (with_reducible refine (ints_Below.calls k _ _ l0 a1 t431 _ ?side1 ?side2 A5.out).mono ?_); (case side1 => repeat (first | exact (Kd.C_below HR0.out HB.out) | (with_reducible refine Kd.cA_ ?_ _) | (with_reducible refine Kd.cN_ ?_ _) | (with_reducible refine Kd.cD_ ?_))); (case side2 => exact HC0.out); rintro e w10 ⟨v432, rfl, ho0, hb⟩; refine ⟨_, rfl, ?_⟩; have n0_ := Aside0.mk (Kd.R_lower ho0 (pbS_ (by repeat (first | (with_reducible first | exact HB.out | apply pbA_ | apply pbN_ | apply pb1_) | exact HB.out)))); have n1_ := Aside0.mk (below_step (by repeat (first | (with_reducible first | exact HB.out | apply pbA_ | apply pbN_ | apply pb1_) | exact HB.out)) hb); clear HB; have HO433 := n0_; have HB := n1_; clear n0_ n1_; (try clear hb); (try clear hb2); (try clear hk); (try clear hi); (try clear ho0)) | ((with_reducible refine gaC_ (f := 21) rfl ?_); refine goesL_ (some 18) rfl rfl Try.func21 (by kernel_rfl) rfl #[.slice A0 l0.length c0, .int .i64 a1] rfl (by (try simp only [List.map_toArray, List.map_cons, List.map_nil]); first | done | rfl | (simp only [List.length_drop, List.length_take]; rfl)) ?_; (with_reducible refine (ints_Above.calls k _ _ l0 a1 t434 _ ?side1 ?side2 A6.out).mono ?_); (case side1 => repeat (first | exact (Kd.C_below HR0.out HB.out) | (with_reducible refine Kd.cA_ ?_ _) | (with_reducible refine Kd.cN_ ?_ _) | (with_reducible refine Kd.cD_ ?_))); (case side2 => exact HC0.out); rintro e w11 ⟨v435, rfl, ho0, hb⟩; refine ⟨_, rfl, ?_⟩; have n0_ := Aside0.mk (Kd.R_elder' (by (with_reducible repeat (first | apply Kd.rA_ | apply Kd.rN_ | apply Kd.rD_)); exact HO433.out) (Kd.R_base ho0) hb); have n1_ := Aside0.mk (Kd.R_lower (Kd.R_new' ho0 (Kd.R_lt (by (with_reducible repeat (first | apply Kd.rA_ | apply Kd.rN_ | apply Kd.rD_)); exact HO433.out))) (pbS_ (by repeat (first | (with_reducible first | exact HB.out | apply pbA_ | apply pbN_ | apply pb1_) | exact HB.out)))); have n2_ := Aside0.mk (below_step (by repeat (first | (with_reducible first | exact HB.out | apply pbA_ | apply pbN_ | apply pb1_) | exact HB.out)) hb); clear HO433; clear HB; have HO433 := n0_; have HO436 := n1_; have HB := n2_; clear n0_ n1_ n2_; (try clear hb); (try clear hb2); (try clear hk); (try clear hi); (try clear ho0)) | ((with_reducible refine gaC_ (f := 16) rfl ?_); refine goesL_ (some 20) rfl rfl Try.func16 (by kernel_rfl) rfl #[.slice A0 l0.length c0] rfl (by (try simp only [List.map_toArray, List.map_cons, List.map_nil]); first | done | rfl | (simp only [List.length_drop, List.length_take]; rfl)) ?_; (with_reducible refine (dragnetref10_Formed.calls k _ _ l0 true _ ?side1 ?side2 A7.out).mono ?_); (case side1 => repeat (first | exact (Kd.C_below HR0.out HB.out) | (with_reducible refine Kd.cA_ ?_ _) | (with_reducible refine Kd.cN_ ?_ _) | (with_reducible refine Kd.cD_ ?_))); (case side2 => exact HC0.out); rintro e w' ⟨rfl, ⟨nd, rfl⟩⟩; refine ⟨_, rfl, ?_⟩))
   go_loopg [7, 8, 9] k (fun kq v7 v8 v9 w' => ∃ (x7_1 : List Int) (x8_1 : List Int) (x9_1 : Int), v9 = .int .i64 x9_1 ∧ Aside0 (dragnetlaw10_IntsFinds.l0 kq l0 a1 t431 t434 x7_1 x8_1 x9_1 = some r) ∧ Aside0 (kq ≤ k) ∧ Aside0 (Kd.R (Kd.int .i64) 3 w' w.heap.size (fun k_ => some k_ ≠ (v435 : Value).ownBlock ∧ some k_ ≠ (v7 : Value).ownBlock ∧ some k_ ≠ (v8 : Value).ownBlock) v432 t431) ∧ Aside0 (Kd.R (Kd.int .i64) 3 w' w.heap.size (fun k_ => some k_ ≠ (v432 : Value).ownBlock ∧ some k_ ≠ (v7 : Value).ownBlock ∧ some k_ ≠ (v8 : Value).ownBlock) v435 t434) ∧ Aside0 (Kd.R (Kd.int .i64) 3 w' w.heap.size (fun k_ => some k_ ≠ (v432 : Value).ownBlock ∧ some k_ ≠ (v435 : Value).ownBlock ∧ some k_ ≠ (v8 : Value).ownBlock) v7 x7_1) ∧ Aside0 (Kd.R (Kd.int .i64) 3 w' w.heap.size (fun k_ => some k_ ≠ (v432 : Value).ownBlock ∧ some k_ ≠ (v435 : Value).ownBlock ∧ some k_ ≠ (v7 : Value).ownBlock) v8 x8_1) ∧ Aside0 (Below w.heap.size w w'))
   case atStart => exact ⟨(([] : List Int)), (([] : List Int)), (0), (by first | rfl | (simp; done) | (simp [*]; done)), H', ⟨Nat.le_refl _⟩, ⟨by (with_reducible repeat (first | apply Kd.rA_ | apply Kd.rN_ | apply Kd.rD_)); exact Kd.R_mono HO433.out (fun _ hk => ⟨hk.2, ⟨(by simp [Value.ownBlock]), (by simp [Value.ownBlock])⟩⟩)⟩, ⟨by (with_reducible repeat (first | apply Kd.rA_ | apply Kd.rN_ | apply Kd.rD_)); exact Kd.R_mono HO436.out (fun _ hk => ⟨hk.2, ⟨(by simp [Value.ownBlock]), (by simp [Value.ownBlock])⟩⟩)⟩, ⟨by first | exact Kd.R_nil _ _ _ _ _ | exact Kd.N_nil _ _ _ _ _ | exact Kd.V_nil _ _ _ _ _ | exact Kd.Q_nil _ _ _ _ _ | exact Kd.S_nil _ _ _ _ _⟩, ⟨by first | exact Kd.R_nil _ _ _ _ _ | exact Kd.N_nil _ _ _ _ _ | exact Kd.V_nil _ _ _ _ _ | exact Kd.Q_nil _ _ _ _ _ | exact Kd.S_nil _ _ _ _ _⟩, ⟨by repeat (first | (with_reducible first | exact HB.out | apply pbA_ | apply pbN_ | apply pb1_) | exact HB.out)⟩⟩
   case round =>
    clear H'
    try clear c1
    try clear c2
    try clear p2
    try clear c4
    try clear c5
    try clear p6
    try clear c8
    try clear c9
    obtain ⟨x7_1, x8_1, x9_1, rfl, HA, HK1, HO_5, HO_6, HO_7, HO_8, HB⟩ := hrel
    cases gk with
    | zero => exact absurd HA.out (by simp [dragnetlaw10_IntsFinds.l0])
    | succ k1 =>
     have H := HA.out
     clear HA
     simp only [dragnetlaw10_IntsFinds.l0] at H
     by_cases c12 : x9_1 < (l0.length : Int)
     ·rw [if_pos c12] at H
      have c12b0 : decide (x9_1 < (l0.length : Int)) = true := decide_eq_true c12
      clear c12
      have HC13 := Aside0.mk H
      clear H
      go_upto_region 11 with (fail)
      go_cut [64] (fun v64 wc => ∃ (kq : Nat) (x64_12 : Bool), v64 = .bool x64_12 ∧ Aside0 (dragnetlaw10_IntsFinds.j1 kq l0 a1 t431 t434 x7_1 x8_1 x9_1 (wrap64 (Int.tdiv x9_1 16)) x64_12 = some r) ∧ Aside0 (kq ≤ k1) ∧ Aside0 (Kd.R (Kd.int .i64) 3 wc w.heap.size (fun k_ => some k_ ≠ (v435 : Value).ownBlock ∧ some k_ ≠ (u7 : Value).ownBlock ∧ some k_ ≠ (u8 : Value).ownBlock) v432 t431) ∧ Aside0 (Kd.R (Kd.int .i64) 3 wc w.heap.size (fun k_ => some k_ ≠ (v432 : Value).ownBlock ∧ some k_ ≠ (u7 : Value).ownBlock ∧ some k_ ≠ (u8 : Value).ownBlock) v435 t434) ∧ Aside0 (Kd.R (Kd.int .i64) 3 wc w.heap.size (fun k_ => some k_ ≠ (v432 : Value).ownBlock ∧ some k_ ≠ (v435 : Value).ownBlock ∧ some k_ ≠ (u8 : Value).ownBlock) u7 x7_1) ∧ Aside0 (Kd.R (Kd.int .i64) 3 wc w.heap.size (fun k_ => some k_ ≠ (v432 : Value).ownBlock ∧ some k_ ≠ (v435 : Value).ownBlock ∧ some k_ ≠ (u7 : Value).ownBlock) u8 x8_1) ∧ Aside0 (Below w.heap.size w wc))
      case first =>
       have H := HC13.out
       clear HC13
       by_cases c14 : 0 ≤ x9_1
       ·rw [if_pos c14] at H
        have c14b0 : decide (0 ≤ x9_1) = true := decide_eq_true c14
        clear c14
        (first | rw [c14b0] | (simp only [i64_w, i32_w]; rw [c14b0]) | skip)
        obtain ⟨bq15, hbq15⟩ : ∃ b_ : Bool, b_ = ((rd_T42 l0 x9_1).f0) := ⟨_, rfl⟩
        replace H : (if bq15 = true then (if ((rd_T42 l0 x9_1).f1) < a1 then (if (x7_1.length : Int) = 0 then (dragnetlaw10_IntsFinds.j1 k1 l0 a1 t431 t434 x7_1 x8_1 x9_1 (wrap64 (Int.tdiv x9_1 16)) true) else (if 0 ≤ (wrap64 ((x7_1.length : Int) - 1)) then (if (wrap64 ((x7_1.length : Int) - 1)) < (x7_1.length : Int) then (dragnetlaw10_IntsFinds.j1 k1 l0 a1 t431 t434 x7_1 x8_1 x9_1 (wrap64 (Int.tdiv x9_1 16)) ((rd x7_1 (wrap64 ((x7_1.length : Int) - 1))) != (wrap64 (Int.tdiv x9_1 16)))) else (none)) else (none))) else (dragnetlaw10_IntsFinds.j1 k1 l0 a1 t431 t434 x7_1 x8_1 x9_1 (wrap64 (Int.tdiv x9_1 16)) false)) else (dragnetlaw10_IntsFinds.j1 k1 l0 a1 t431 t434 x7_1 x8_1 x9_1 (wrap64 (Int.tdiv x9_1 16)) false)) = some r := by rw [← hbq15] at H; exact H
        have Nbq15 := Aside0.mk hbq15
        clear hbq15
        by_cases c16 : bq15 = true
        ·subst c16
         have H1 : (if ((rd_T42 l0 x9_1).f1) < a1 then (if (x7_1.length : Int) = 0 then (dragnetlaw10_IntsFinds.j1 k1 l0 a1 t431 t434 x7_1 x8_1 x9_1 (wrap64 (Int.tdiv x9_1 16)) true) else (if 0 ≤ (wrap64 ((x7_1.length : Int) - 1)) then (if (wrap64 ((x7_1.length : Int) - 1)) < (x7_1.length : Int) then (dragnetlaw10_IntsFinds.j1 k1 l0 a1 t431 t434 x7_1 x8_1 x9_1 (wrap64 (Int.tdiv x9_1 16)) ((rd x7_1 (wrap64 ((x7_1.length : Int) - 1))) != (wrap64 (Int.tdiv x9_1 16)))) else (none)) else (none))) else (dragnetlaw10_IntsFinds.j1 k1 l0 a1 t431 t434 x7_1 x8_1 x9_1 (wrap64 (Int.tdiv x9_1 16)) false)) = some r := by rw [if_pos rfl] at H; exact H
         clear H
         have H := H1
         clear H1
         by_cases c17 : ((rd_T42 l0 x9_1).f1) < a1
         ·rw [if_pos c17] at H
          have c17b0 : decide (((rd_T42 l0 x9_1).f1) < a1) = true := decide_eq_true c17
          clear c17
          by_cases c18 : (x7_1.length : Int) = 0
          ·rw [if_pos c18] at H
           have c18b0 : ((x7_1.length : Int) == 0) = true := beq_iff_eq.mpr c18
           have c18b1 : ((x7_1.length : Int) != 0) = false := bne_eq_false_iff_eq.mpr c18
           clear c18
           have H' := Aside0.mk H
           clear H
           have p440 : 0 ≤ (x9_1 : Int) := of_decide_eq_true (by first | (with_reducible assumption) | assumption)
           have q440 : x9_1 < (l0.length : Int) := of_decide_eq_true (by first | (with_reducible assumption) | assumption)
           obtain ⟨ad440, e440, hx440_0, hx440_1⟩ := at_T42 HR0.out x9_1 p440 q440
           (try rw [← Nbq15.out] at hx440_0)
           cases e440
           replace hx440_0 := (HB.out.cell (World.block_lt_of_cell? w _ hx440_0)).trans hx440_0
           replace hx440_1 := (HB.out.cell (World.block_lt_of_cell? w _ hx440_1)).trans hx440_1
           replace p440 := eq_true p440
           replace q440 := eq_true q440
           have p441 : 0 ≤ (x9_1 : Int) := of_decide_eq_true (by first | (with_reducible assumption) | assumption)
           have q441 : x9_1 < (l0.length : Int) := of_decide_eq_true (by first | (with_reducible assumption) | assumption)
           obtain ⟨ad441, e441, hx441_0, hx441_1⟩ := at_T42 HR0.out x9_1 p441 q441
           (try rw [← Nbq15.out] at hx441_0)
           obtain rfl : ad440 = ad441 := (by injection e441)
           replace hx441_0 := (HB.out.cell (World.block_lt_of_cell? w _ hx441_0)).trans hx441_0
           replace hx441_1 := (HB.out.cell (World.block_lt_of_cell? w _ hx441_1)).trans hx441_1
           replace p441 := eq_true p441
           replace q441 := eq_true q441
           obtain ⟨Ao19, co19, eo19⟩ := Kd.R_slice HO_7.out
           subst eo19
           go_wp2
           go_meet
           case rel => exact ⟨_, (true), (by first | rfl | (simp; done) | (simp [*]; done)), H', ⟨by have := HK1.out; first | omega | exact Nat.le_refl _⟩, ⟨by (with_reducible repeat (first | apply Kd.rA_ | apply Kd.rN_ | apply Kd.rD_)); exact HO_5.out⟩, ⟨by (with_reducible repeat (first | apply Kd.rA_ | apply Kd.rN_ | apply Kd.rD_)); exact HO_6.out⟩, ⟨by (with_reducible repeat (first | apply Kd.rA_ | apply Kd.rN_ | apply Kd.rD_)); exact HO_7.out⟩, ⟨by (with_reducible repeat (first | apply Kd.rA_ | apply Kd.rN_ | apply Kd.rD_)); exact HO_8.out⟩, ⟨by repeat (first | (with_reducible first | exact HB.out | apply pbA_ | apply pbN_ | apply pb1_) | exact HB.out)⟩⟩
          ·rw [if_neg c18] at H
           have c18b0 : ((x7_1.length : Int) == 0) = false := beq_eq_false_iff_ne.mpr c18
           have c18b1 : ((x7_1.length : Int) != 0) = true := bne_iff_ne.mpr c18
           have c18b2 : ¬ (x7_1 = []) := fun h_ => c18 (by rw [h_]; rfl)
           obtain ⟨ji20, hji20⟩ : ∃ j_ : Int, (wrap64 ((x7_1.length : Int) - 1)) = j_ := ⟨_, rfl⟩
           replace H : (if 0 ≤ (ji20) then (if (ji20) < (x7_1.length : Int) then (dragnetlaw10_IntsFinds.j1 k1 l0 a1 t431 t434 x7_1 x8_1 x9_1 (wrap64 (Int.tdiv x9_1 16)) ((rd x7_1 (ji20)) != (wrap64 (Int.tdiv x9_1 16)))) else (none)) else (none)) = some r := by first | (rw [hji20] at H; exact H) | (simp only [hji20] at H ⊢; exact H)
           have hji20w : (IntKind.i64.wrap ((x7_1.length : Int) - 1)) = ji20 := (i64_w _).trans hji20
           by_cases c21 : 0 ≤ (ji20)
           ·rw [if_pos c21] at H
            have c21b0 : decide (0 ≤ (ji20)) = true := decide_eq_true c21
            clear c21
            by_cases c22 : (ji20) < (x7_1.length : Int)
            ·rw [if_pos c22] at H
             have c22b0 : decide ((ji20) < (x7_1.length : Int)) = true := decide_eq_true c22
             clear c22
             have H' := Aside0.mk H
             clear H
             have p440 : 0 ≤ (x9_1 : Int) := of_decide_eq_true (by first | (with_reducible assumption) | assumption)
             have q440 : x9_1 < (l0.length : Int) := of_decide_eq_true (by first | (with_reducible assumption) | assumption)
             obtain ⟨ad440, e440, hx440_0, hx440_1⟩ := at_T42 HR0.out x9_1 p440 q440
             (try rw [← Nbq15.out] at hx440_0)
             cases e440
             replace hx440_0 := (HB.out.cell (World.block_lt_of_cell? w _ hx440_0)).trans hx440_0
             replace hx440_1 := (HB.out.cell (World.block_lt_of_cell? w _ hx440_1)).trans hx440_1
             replace p440 := eq_true p440
             replace q440 := eq_true q440
             have p441 : 0 ≤ (x9_1 : Int) := of_decide_eq_true (by first | (with_reducible assumption) | assumption)
             have q441 : x9_1 < (l0.length : Int) := of_decide_eq_true (by first | (with_reducible assumption) | assumption)
             obtain ⟨ad441, e441, hx441_0, hx441_1⟩ := at_T42 HR0.out x9_1 p441 q441
             (try rw [← Nbq15.out] at hx441_0)
             obtain rfl : ad440 = ad441 := (by injection e441)
             replace hx441_0 := (HB.out.cell (World.block_lt_of_cell? w _ hx441_0)).trans hx441_0
             replace hx441_1 := (HB.out.cell (World.block_lt_of_cell? w _ hx441_1)).trans hx441_1
             replace p441 := eq_true p441
             replace q441 := eq_true q441
             obtain ⟨Ao23, co23, eo23⟩ := Kd.R_slice HO_7.out
             subst eo23
             have p442 : 0 ≤ ((ji20) : Int) := of_decide_eq_true (by first | (with_reducible assumption) | assumption)
             have q442 : (ji20) < (x7_1.length : Int) := of_decide_eq_true (by first | (with_reducible assumption) | assumption)
             obtain ⟨ad442, e442, hx442_0⟩ := Kd.at_int (Kd.R_reads' HO_7.out).2.2 (ji20) p442 q442
             cases e442
             replace p442 := eq_true p442
             replace q442 := eq_true q442
             go_wp2
             (try subst hji20)
             go_meet
             case rel => exact ⟨_, (((rd x7_1 ((wrap64 ((x7_1.length : Int) - 1)))) != (wrap64 (Int.tdiv x9_1 16)))), (by first | rfl | (simp; done) | (simp only [← hji20] <;> (first | rfl | simp)) | (simp [*]; done)), H', ⟨by have := HK1.out; first | omega | exact Nat.le_refl _⟩, ⟨by (with_reducible repeat (first | apply Kd.rA_ | apply Kd.rN_ | apply Kd.rD_)); exact HO_5.out⟩, ⟨by (with_reducible repeat (first | apply Kd.rA_ | apply Kd.rN_ | apply Kd.rD_)); exact HO_6.out⟩, ⟨by (with_reducible repeat (first | apply Kd.rA_ | apply Kd.rN_ | apply Kd.rD_)); exact HO_7.out⟩, ⟨by (with_reducible repeat (first | apply Kd.rA_ | apply Kd.rN_ | apply Kd.rD_)); exact HO_8.out⟩, ⟨by repeat (first | (with_reducible first | exact HB.out | apply pbA_ | apply pbN_ | apply pb1_) | exact HB.out)⟩⟩
            ·rw [if_neg c22] at H
             exact absurd H (by simp)
           ·rw [if_neg c21] at H
            exact absurd H (by simp)
         ·rw [if_neg c17] at H
          have c17b0 : decide (((rd_T42 l0 x9_1).f1) < a1) = false := decide_eq_false c17
          clear c17
          have H' := Aside0.mk H
          clear H
          have p440 : 0 ≤ (x9_1 : Int) := of_decide_eq_true (by first | (with_reducible assumption) | assumption)
          have q440 : x9_1 < (l0.length : Int) := of_decide_eq_true (by first | (with_reducible assumption) | assumption)
          obtain ⟨ad440, e440, hx440_0, hx440_1⟩ := at_T42 HR0.out x9_1 p440 q440
          (try rw [← Nbq15.out] at hx440_0)
          cases e440
          replace hx440_0 := (HB.out.cell (World.block_lt_of_cell? w _ hx440_0)).trans hx440_0
          replace hx440_1 := (HB.out.cell (World.block_lt_of_cell? w _ hx440_1)).trans hx440_1
          replace p440 := eq_true p440
          replace q440 := eq_true q440
          have p441 : 0 ≤ (x9_1 : Int) := of_decide_eq_true (by first | (with_reducible assumption) | assumption)
          have q441 : x9_1 < (l0.length : Int) := of_decide_eq_true (by first | (with_reducible assumption) | assumption)
          obtain ⟨ad441, e441, hx441_0, hx441_1⟩ := at_T42 HR0.out x9_1 p441 q441
          (try rw [← Nbq15.out] at hx441_0)
          obtain rfl : ad440 = ad441 := (by injection e441)
          replace hx441_0 := (HB.out.cell (World.block_lt_of_cell? w _ hx441_0)).trans hx441_0
          replace hx441_1 := (HB.out.cell (World.block_lt_of_cell? w _ hx441_1)).trans hx441_1
          replace p441 := eq_true p441
          replace q441 := eq_true q441
          go_wp2
          go_meet
          case rel => exact ⟨_, (false), (by first | rfl | (simp; done) | (simp [*]; done)), H', ⟨by have := HK1.out; first | omega | exact Nat.le_refl _⟩, ⟨by (with_reducible repeat (first | apply Kd.rA_ | apply Kd.rN_ | apply Kd.rD_)); exact HO_5.out⟩, ⟨by (with_reducible repeat (first | apply Kd.rA_ | apply Kd.rN_ | apply Kd.rD_)); exact HO_6.out⟩, ⟨by (with_reducible repeat (first | apply Kd.rA_ | apply Kd.rN_ | apply Kd.rD_)); exact HO_7.out⟩, ⟨by (with_reducible repeat (first | apply Kd.rA_ | apply Kd.rN_ | apply Kd.rD_)); exact HO_8.out⟩, ⟨by repeat (first | (with_reducible first | exact HB.out | apply pbA_ | apply pbN_ | apply pb1_) | exact HB.out)⟩⟩
        ·replace c16 := Bool.eq_false_iff.mpr c16
         subst c16
         have H1 : (dragnetlaw10_IntsFinds.j1 k1 l0 a1 t431 t434 x7_1 x8_1 x9_1 (wrap64 (Int.tdiv x9_1 16)) false) = some r := by rw [if_neg (show ¬ (false = true) by decide)] at H; exact H
         clear H
         have H := H1
         clear H1
         have H' := Aside0.mk H
         clear H
         have p440 : 0 ≤ (x9_1 : Int) := of_decide_eq_true (by first | (with_reducible assumption) | assumption)
         have q440 : x9_1 < (l0.length : Int) := of_decide_eq_true (by first | (with_reducible assumption) | assumption)
         obtain ⟨ad440, e440, hx440_0, hx440_1⟩ := at_T42 HR0.out x9_1 p440 q440
         (try rw [← Nbq15.out] at hx440_0)
         cases e440
         replace hx440_0 := (HB.out.cell (World.block_lt_of_cell? w _ hx440_0)).trans hx440_0
         replace hx440_1 := (HB.out.cell (World.block_lt_of_cell? w _ hx440_1)).trans hx440_1
         replace p440 := eq_true p440
         replace q440 := eq_true q440
         go_wp2
         go_meet
         case rel => exact ⟨_, (false), (by first | rfl | (simp; done) | (simp [*]; done)), H', ⟨by have := HK1.out; first | omega | exact Nat.le_refl _⟩, ⟨by (with_reducible repeat (first | apply Kd.rA_ | apply Kd.rN_ | apply Kd.rD_)); exact HO_5.out⟩, ⟨by (with_reducible repeat (first | apply Kd.rA_ | apply Kd.rN_ | apply Kd.rD_)); exact HO_6.out⟩, ⟨by (with_reducible repeat (first | apply Kd.rA_ | apply Kd.rN_ | apply Kd.rD_)); exact HO_7.out⟩, ⟨by (with_reducible repeat (first | apply Kd.rA_ | apply Kd.rN_ | apply Kd.rD_)); exact HO_8.out⟩, ⟨by repeat (first | (with_reducible first | exact HB.out | apply pbA_ | apply pbN_ | apply pb1_) | exact HB.out)⟩⟩
       ·rw [if_neg c14] at H
        exact absurd H (by simp)
      case rest =>
       clear HC13
       try clear c1
       try clear q1
       try clear c2
       try clear p2
       try clear c4
       try clear p4
       try clear q4
       try clear hx4
       try clear c5
       try clear p6
       try clear c8
       try clear c9
       try clear c12
       try clear c12b0
       try clear c14
       try clear c14b0
       try clear q15
       try clear c16
       try clear c17
       try clear c17b0
       try clear c18
       try clear c18b0
       try clear c18b1
       try clear c18b2
       try clear c20
       try clear c21
       try clear c21b0
       try clear c22
       try clear c22b0
       try clear hx440_0
       try clear hx440_1
       try clear hx441_0
       try clear hx441_1
       try clear hx442_0
       try clear p2
       try clear p440
       try clear p441
       try clear p442
       try clear p6
       try clear q440
       try clear q441
       try clear q442
       obtain ⟨kq, x64_12, rfl, HA, HJ12, HO_5, HO_6, HO_7, HO_8, HB⟩ := hcut
       cases kq with
       | zero => exact absurd HA.out (by simp [dragnetlaw10_IntsFinds.j1])
       | succ kj12 =>
        have H := HA.out
        clear HA
        simp only [dragnetlaw10_IntsFinds.j1] at H
        by_cases c24 : x64_12 = true
        ·subst c24
         have H1 : (if x7_1.length < 17592186044416 then ((some (x7_1 ++ [(wrap64 (Int.tdiv x9_1 16))] : List Int)).bind fun y443 => (if 0 ≤ x9_1 then (if x9_1 < (l0.length : Int) then (if (rd_T42 l0 x9_1).f0 = true then (if ((rd_T42 l0 x9_1).f1) > a1 then (if (x8_1.length : Int) = 0 then (if x8_1.length < 17592186044416 then (dragnetlaw10_IntsFinds.l0 kj12 l0 a1 t431 t434 y443 (x8_1 ++ [(wrap64 (Int.tdiv x9_1 16))]) (wrap64 (x9_1 + 1))) else (none)) else (if 0 ≤ (wrap64 ((x8_1.length : Int) - 1)) then (if (wrap64 ((x8_1.length : Int) - 1)) < (x8_1.length : Int) then (if (rd x8_1 (wrap64 ((x8_1.length : Int) - 1))) = (wrap64 (Int.tdiv x9_1 16)) then (dragnetlaw10_IntsFinds.l0 kj12 l0 a1 t431 t434 y443 x8_1 (wrap64 (x9_1 + 1))) else (if x8_1.length < 17592186044416 then (dragnetlaw10_IntsFinds.l0 kj12 l0 a1 t431 t434 y443 (x8_1 ++ [(wrap64 (Int.tdiv x9_1 16))]) (wrap64 (x9_1 + 1))) else (none))) else (none)) else (none))) else (dragnetlaw10_IntsFinds.l0 kj12 l0 a1 t431 t434 y443 x8_1 (wrap64 (x9_1 + 1)))) else (dragnetlaw10_IntsFinds.l0 kj12 l0 a1 t431 t434 y443 x8_1 (wrap64 (x9_1 + 1)))) else (none)) else (none))) else (none)) = some r := by rw [if_pos rfl] at H; exact H
         clear H
         have H := H1
         clear H1
         by_cases c25 : x7_1.length < 17592186044416
         ·rw [if_pos c25] at H
          have LMc25 := Aside0.mk c25
          clear c25
          obtain ⟨y443, hy443⟩ : ∃ y_ : List Int, y_ = (x7_1 ++ [(wrap64 (Int.tdiv x9_1 16))]) := ⟨_, rfl⟩
          replace H : (if 0 ≤ x9_1 then (if x9_1 < (l0.length : Int) then (if (rd_T42 l0 x9_1).f0 = true then (if ((rd_T42 l0 x9_1).f1) > a1 then (if (x8_1.length : Int) = 0 then (if x8_1.length < 17592186044416 then (dragnetlaw10_IntsFinds.l0 kj12 l0 a1 t431 t434 y443 (x8_1 ++ [(wrap64 (Int.tdiv x9_1 16))]) (wrap64 (x9_1 + 1))) else (none)) else (if 0 ≤ (wrap64 ((x8_1.length : Int) - 1)) then (if (wrap64 ((x8_1.length : Int) - 1)) < (x8_1.length : Int) then (if (rd x8_1 (wrap64 ((x8_1.length : Int) - 1))) = (wrap64 (Int.tdiv x9_1 16)) then (dragnetlaw10_IntsFinds.l0 kj12 l0 a1 t431 t434 y443 x8_1 (wrap64 (x9_1 + 1))) else (if x8_1.length < 17592186044416 then (dragnetlaw10_IntsFinds.l0 kj12 l0 a1 t431 t434 y443 (x8_1 ++ [(wrap64 (Int.tdiv x9_1 16))]) (wrap64 (x9_1 + 1))) else (none))) else (none)) else (none))) else (dragnetlaw10_IntsFinds.l0 kj12 l0 a1 t431 t434 y443 x8_1 (wrap64 (x9_1 + 1)))) else (dragnetlaw10_IntsFinds.l0 kj12 l0 a1 t431 t434 y443 x8_1 (wrap64 (x9_1 + 1)))) else (none)) else (none)) = some r := by first | (rw [hy443]; with_reducible exact H) | (have H2_ := (Option.bind_some _ _).symm.trans H; rw [hy443]; with_reducible exact H2_) | (have H2_ := (Option.bind_some _ _).symm.trans H; with_reducible exact H2_) | with_reducible exact H | (rw [hy443]; exact H) | exact H
          have Ny443 := Aside0.mk hy443
          clear hy443
          by_cases c26 : 0 ≤ x9_1
          ·rw [if_pos c26] at H
           have c26b0 : decide (0 ≤ x9_1) = true := decide_eq_true c26
           clear c26
           by_cases c27 : x9_1 < (l0.length : Int)
           ·rw [if_pos c27] at H
            have c27b0 : decide (x9_1 < (l0.length : Int)) = true := decide_eq_true c27
            clear c27
            obtain ⟨bq28, hbq28⟩ : ∃ b_ : Bool, b_ = ((rd_T42 l0 x9_1).f0) := ⟨_, rfl⟩
            replace H : (if bq28 = true then (if ((rd_T42 l0 x9_1).f1) > a1 then (if (x8_1.length : Int) = 0 then (if x8_1.length < 17592186044416 then (dragnetlaw10_IntsFinds.l0 kj12 l0 a1 t431 t434 y443 (x8_1 ++ [(wrap64 (Int.tdiv x9_1 16))]) (wrap64 (x9_1 + 1))) else (none)) else (if 0 ≤ (wrap64 ((x8_1.length : Int) - 1)) then (if (wrap64 ((x8_1.length : Int) - 1)) < (x8_1.length : Int) then (if (rd x8_1 (wrap64 ((x8_1.length : Int) - 1))) = (wrap64 (Int.tdiv x9_1 16)) then (dragnetlaw10_IntsFinds.l0 kj12 l0 a1 t431 t434 y443 x8_1 (wrap64 (x9_1 + 1))) else (if x8_1.length < 17592186044416 then (dragnetlaw10_IntsFinds.l0 kj12 l0 a1 t431 t434 y443 (x8_1 ++ [(wrap64 (Int.tdiv x9_1 16))]) (wrap64 (x9_1 + 1))) else (none))) else (none)) else (none))) else (dragnetlaw10_IntsFinds.l0 kj12 l0 a1 t431 t434 y443 x8_1 (wrap64 (x9_1 + 1)))) else (dragnetlaw10_IntsFinds.l0 kj12 l0 a1 t431 t434 y443 x8_1 (wrap64 (x9_1 + 1)))) = some r := by rw [← hbq28] at H; exact H
            have Nbq28 := Aside0.mk hbq28
            clear hbq28
            by_cases c29 : bq28 = true
            ·subst c29
             have H1 : (if ((rd_T42 l0 x9_1).f1) > a1 then (if (x8_1.length : Int) = 0 then (if x8_1.length < 17592186044416 then (dragnetlaw10_IntsFinds.l0 kj12 l0 a1 t431 t434 y443 (x8_1 ++ [(wrap64 (Int.tdiv x9_1 16))]) (wrap64 (x9_1 + 1))) else (none)) else (if 0 ≤ (wrap64 ((x8_1.length : Int) - 1)) then (if (wrap64 ((x8_1.length : Int) - 1)) < (x8_1.length : Int) then (if (rd x8_1 (wrap64 ((x8_1.length : Int) - 1))) = (wrap64 (Int.tdiv x9_1 16)) then (dragnetlaw10_IntsFinds.l0 kj12 l0 a1 t431 t434 y443 x8_1 (wrap64 (x9_1 + 1))) else (if x8_1.length < 17592186044416 then (dragnetlaw10_IntsFinds.l0 kj12 l0 a1 t431 t434 y443 (x8_1 ++ [(wrap64 (Int.tdiv x9_1 16))]) (wrap64 (x9_1 + 1))) else (none))) else (none)) else (none))) else (dragnetlaw10_IntsFinds.l0 kj12 l0 a1 t431 t434 y443 x8_1 (wrap64 (x9_1 + 1)))) = some r := by rw [if_pos rfl] at H; exact H
             clear H
             have H := H1
             clear H1
             by_cases c30 : ((rd_T42 l0 x9_1).f1) > a1
             ·rw [if_pos c30] at H
              have c30b0 : decide (a1 < ((rd_T42 l0 x9_1).f1)) = true := decide_eq_true c30
              clear c30
              by_cases c31 : (x8_1.length : Int) = 0
              ·rw [if_pos c31] at H
               have c31b0 : ((x8_1.length : Int) == 0) = true := beq_iff_eq.mpr c31
               have c31b1 : ((x8_1.length : Int) != 0) = false := bne_eq_false_iff_eq.mpr c31
               clear c31
               by_cases c32 : x8_1.length < 17592186044416
               ·rw [if_pos c32] at H
                have LMc32 := Aside0.mk c32
                clear c32
                obtain ⟨y448, hy448⟩ : ∃ y_ : List Int, y_ = (x8_1 ++ [(wrap64 (Int.tdiv x9_1 16))]) := ⟨_, rfl⟩
                replace H : (dragnetlaw10_IntsFinds.l0 kj12 l0 a1 t431 t434 y443 y448 (wrap64 (x9_1 + 1))) = some r := by first | (rw [hy448]; with_reducible exact H) | (have H2_ := (Option.bind_some _ _).symm.trans H; rw [hy448]; with_reducible exact H2_) | (have H2_ := (Option.bind_some _ _).symm.trans H; with_reducible exact H2_) | with_reducible exact H | (rw [hy448]; exact H) | exact H
                have Ny448 := Aside0.mk hy448
                clear hy448
                have H' := Aside0.mk H
                clear H
                go_wp2_with (first | ((with_reducible refine gate_builtin (b := .append) (xs := #[.tmp 65, .tmp 67]) rfl ?_); (try (refine gate_guard (by rfl) ?_; dsimp only)); at_builtin; refine Kd.R_append (Kd.int .i64) (w0 := w) w.heap.size rfl (.tmp 65) (.tmp 67) 39 3 (.int .i64 0) 8 rfl Try.underlying39 info3 rfl (by decide) (by omega) u7 x7_1 (wrap64 (Int.tdiv x9_1 16)) [.int .i64 (wrap64 (Int.tdiv x9_1 16))] (fun k_ => some k_ ≠ (v432 : Value).ownBlock ∧ some k_ ≠ (v435 : Value).ownBlock ∧ some k_ ≠ (u8 : Value).ownBlock) (fun _ => False) rfl rfl ?aP (fun _ hk => hk.elim) ?aF ?aO ?aB ?aS ?aL ?_; (case aP => exact rfl); (case aB => exact (by repeat (first | (with_reducible first | exact HB.out | apply pbA_ | apply pbN_ | apply pb1_) | exact HB.out))); (case aF => exact (fun k_ hk => ⟨Kd.fresh' (Kd.R_lt (by (with_reducible repeat (first | apply Kd.rA_ | apply Kd.rN_ | apply Kd.rD_)); exact HO_5.out)) k_ hk, Kd.fresh' (Kd.R_lt (by (with_reducible repeat (first | apply Kd.rA_ | apply Kd.rN_ | apply Kd.rD_)); exact HO_6.out)) k_ hk, Kd.fresh' (Kd.R_lt (by (with_reducible repeat (first | apply Kd.rA_ | apply Kd.rN_ | apply Kd.rD_)); exact HO_8.out)) k_ hk⟩)); (case aO => exact (by (with_reducible repeat (first | apply Kd.rA_ | apply Kd.rN_ | apply Kd.rD_)); exact HO_7.out)); (case aS => exact (pbS_ (by repeat (first | (with_reducible first | exact HB.out | apply pbA_ | apply pbN_ | apply pb1_) | exact HB.out)))); (case aL => have := LMc25.out; omega); intro v444 w33 ho hb hg hat; rw [← Ny443.out] at ho; have n0_ := Aside0.mk (Kd.R_after (ok := (fun k_ => some k_ ≠ (v435 : Value).ownBlock ∧ some k_ ≠ (u8 : Value).ownBlock)) (by (with_reducible repeat (first | apply Kd.rA_ | apply Kd.rN_ | apply Kd.rD_)); exact Kd.R_mono HO_5.out (fun _ hk => ⟨⟨hk.1, hk.2.2⟩, hk.2.1⟩)) hg hat); have n1_ := Aside0.mk (Kd.R_after (ok := (fun k_ => some k_ ≠ (v432 : Value).ownBlock ∧ some k_ ≠ (u8 : Value).ownBlock)) (by (with_reducible repeat (first | apply Kd.rA_ | apply Kd.rN_ | apply Kd.rD_)); exact Kd.R_mono HO_6.out (fun _ hk => ⟨⟨hk.1, hk.2.2⟩, hk.2.1⟩)) hg hat); have n2_ := Aside0.mk (Kd.R_after (ok := (fun k_ => some k_ ≠ (v432 : Value).ownBlock ∧ some k_ ≠ (v435 : Value).ownBlock)) (by (with_reducible repeat (first | apply Kd.rA_ | apply Kd.rN_ | apply Kd.rD_)); exact Kd.R_mono HO_8.out (fun _ hk => ⟨⟨hk.1, hk.2.1⟩, hk.2.2⟩)) hg hat); have n3_ := Aside0.mk (hb); have n4_ := Aside0.mk (ho); clear HO_5; clear HO_6; clear HO_8; clear HB; clear HO_7; have HO_5 := n0_; have HO_6 := n1_; have HO_8 := n2_; have HB := n3_; have HO445 := n4_; clear n0_ n1_ n2_ n3_ n4_; clear ho hb hg hat; have p446 : 0 ≤ (x9_1 : Int) := of_decide_eq_true (by first | (with_reducible assumption) | assumption); have q446 : x9_1 < (l0.length : Int) := of_decide_eq_true (by first | (with_reducible assumption) | assumption); obtain ⟨ad446, e446, hx446_0, hx446_1⟩ := at_T42 HR0.out x9_1 p446 q446; (try rw [← Nbq28.out] at hx446_0); cases e446; replace hx446_0 := (HB.out.cell (World.block_lt_of_cell? w _ hx446_0)).trans hx446_0; replace hx446_1 := (HB.out.cell (World.block_lt_of_cell? w _ hx446_1)).trans hx446_1; replace p446 := eq_true p446; replace q446 := eq_true q446; have p447 : 0 ≤ (x9_1 : Int) := of_decide_eq_true (by first | (with_reducible assumption) | assumption); have q447 : x9_1 < (l0.length : Int) := of_decide_eq_true (by first | (with_reducible assumption) | assumption); obtain ⟨ad447, e447, hx447_0, hx447_1⟩ := at_T42 HR0.out x9_1 p447 q447; (try rw [← Nbq28.out] at hx447_0); obtain rfl : ad446 = ad447 := (by injection e447); replace hx447_0 := (HB.out.cell (World.block_lt_of_cell? w _ hx447_0)).trans hx447_0; replace hx447_1 := (HB.out.cell (World.block_lt_of_cell? w _ hx447_1)).trans hx447_1; replace p447 := eq_true p447; replace q447 := eq_true q447; obtain ⟨Ao34, co34, eo34⟩ := Kd.R_slice HO_8.out; subst eo34) | ((with_reducible refine gate_builtin (b := .append) (xs := #[.tmp 98, .tmp 100]) rfl ?_); (try (refine gate_guard (by rfl) ?_; dsimp only)); at_builtin; refine Kd.R_append (Kd.int .i64) (w0 := w) w.heap.size rfl (.tmp 98) (.tmp 100) 39 3 (.int .i64 0) 8 rfl Try.underlying39 info3 rfl (by decide) (by omega) (.slice Ao34 x8_1.length co34) x8_1 (wrap64 (Int.tdiv x9_1 16)) [.int .i64 (wrap64 (Int.tdiv x9_1 16))] (fun k_ => some k_ ≠ (v432 : Value).ownBlock ∧ some k_ ≠ (v435 : Value).ownBlock ∧ some k_ ≠ (v444 : Value).ownBlock) (fun _ => False) rfl rfl ?aP (fun _ hk => hk.elim) ?aF ?aO ?aB ?aS ?aL ?_; (case aP => exact rfl); (case aB => exact (by repeat (first | (with_reducible first | exact HB.out | apply pbA_ | apply pbN_ | apply pb1_) | exact HB.out))); (case aF => exact (fun k_ hk => ⟨Kd.fresh' (Kd.R_lt (by (with_reducible repeat (first | apply Kd.rA_ | apply Kd.rN_ | apply Kd.rD_)); exact HO_5.out)) k_ hk, Kd.fresh' (Kd.R_lt (by (with_reducible repeat (first | apply Kd.rA_ | apply Kd.rN_ | apply Kd.rD_)); exact HO_6.out)) k_ hk, Kd.fresh' (Kd.R_lt (by (with_reducible repeat (first | apply Kd.rA_ | apply Kd.rN_ | apply Kd.rD_)); exact HO445.out)) k_ hk⟩)); (case aO => exact (by (with_reducible repeat (first | apply Kd.rA_ | apply Kd.rN_ | apply Kd.rD_)); exact Kd.R_mono HO_8.out (fun _ hk => ⟨hk.1.1, ⟨hk.1.2, hk.2⟩⟩))); (case aS => exact (pbS_ (by repeat (first | (with_reducible first | exact HB.out | apply pbA_ | apply pbN_ | apply pb1_) | exact HB.out)))); (case aL => have := LMc32.out; omega); intro v449 w35 ho hb hg hat; rw [← Ny448.out] at ho; have n0_ := Aside0.mk (Kd.R_after (ok := (fun k_ => some k_ ≠ (v435 : Value).ownBlock ∧ some k_ ≠ (v444 : Value).ownBlock)) (by (with_reducible repeat (first | apply Kd.rA_ | apply Kd.rN_ | apply Kd.rD_)); exact Kd.R_mono HO_5.out (fun _ hk => ⟨⟨hk.1.1, hk.2⟩, hk.1.2⟩)) hg hat); have n1_ := Aside0.mk (Kd.R_after (ok := (fun k_ => some k_ ≠ (v432 : Value).ownBlock ∧ some k_ ≠ (v444 : Value).ownBlock)) (by (with_reducible repeat (first | apply Kd.rA_ | apply Kd.rN_ | apply Kd.rD_)); exact Kd.R_mono HO_6.out (fun _ hk => ⟨⟨hk.1.1, hk.2⟩, hk.1.2⟩)) hg hat); have n2_ := Aside0.mk (Kd.R_after (ok := (fun k_ => some k_ ≠ (v432 : Value).ownBlock ∧ some k_ ≠ (v435 : Value).ownBlock)) (by (with_reducible repeat (first | apply Kd.rA_ | apply Kd.rN_ | apply Kd.rD_)); exact Kd.R_mono HO445.out (fun _ hk => ⟨⟨hk.1, hk.2.1⟩, hk.2.2⟩)) hg hat); have n3_ := Aside0.mk (hb); have n4_ := Aside0.mk (ho); clear HO_5; clear HO_6; clear HO445; clear HB; clear HO_8; have HO_5 := n0_; have HO_6 := n1_; have HO445 := n2_; have HB := n3_; have HO450 := n4_; clear n0_ n1_ n2_ n3_ n4_; clear ho hb hg hat))
                go_roundg kj12
                case measure => have := HK1.out; have := HJ12.out; omega
                case rel => exact ⟨(y443), (y448), (wrap64 (x9_1 + 1)), (by first | rfl | (simp; done) | (simp [*]; done)), H', ⟨by have := HK1.out; have := HJ12.out; omega⟩, ⟨by (with_reducible repeat (first | apply Kd.rA_ | apply Kd.rN_ | apply Kd.rD_)); exact Kd.R_mono HO_5.out (fun _ hk => ⟨hk.1.1, ⟨hk.1.2, hk.2⟩⟩)⟩, ⟨by (with_reducible repeat (first | apply Kd.rA_ | apply Kd.rN_ | apply Kd.rD_)); exact Kd.R_mono HO_6.out (fun _ hk => ⟨hk.1.1, ⟨hk.1.2, hk.2⟩⟩)⟩, ⟨by (with_reducible repeat (first | apply Kd.rA_ | apply Kd.rN_ | apply Kd.rD_)); exact Kd.R_mono HO445.out (fun _ hk => ⟨hk.1.1, ⟨hk.1.2, hk.2⟩⟩)⟩, ⟨by (with_reducible repeat (first | apply Kd.rA_ | apply Kd.rN_ | apply Kd.rD_)); exact HO450.out⟩, ⟨by repeat (first | (with_reducible first | exact HB.out | apply pbA_ | apply pbN_ | apply pb1_) | exact HB.out)⟩⟩
               ·rw [if_neg c32] at H
                exact absurd H (by simp)
              ·rw [if_neg c31] at H
               have c31b0 : ((x8_1.length : Int) == 0) = false := beq_eq_false_iff_ne.mpr c31
               have c31b1 : ((x8_1.length : Int) != 0) = true := bne_iff_ne.mpr c31
               have c31b2 : ¬ (x8_1 = []) := fun h_ => c31 (by rw [h_]; rfl)
               obtain ⟨ji36, hji36⟩ : ∃ j_ : Int, (wrap64 ((x8_1.length : Int) - 1)) = j_ := ⟨_, rfl⟩
               replace H : (if 0 ≤ (ji36) then (if (ji36) < (x8_1.length : Int) then (if (rd x8_1 (ji36)) = (wrap64 (Int.tdiv x9_1 16)) then (dragnetlaw10_IntsFinds.l0 kj12 l0 a1 t431 t434 y443 x8_1 (wrap64 (x9_1 + 1))) else (if x8_1.length < 17592186044416 then (dragnetlaw10_IntsFinds.l0 kj12 l0 a1 t431 t434 y443 (x8_1 ++ [(wrap64 (Int.tdiv x9_1 16))]) (wrap64 (x9_1 + 1))) else (none))) else (none)) else (none)) = some r := by first | (rw [hji36] at H; exact H) | (simp only [hji36] at H ⊢; exact H)
               have hji36w : (IntKind.i64.wrap ((x8_1.length : Int) - 1)) = ji36 := (i64_w _).trans hji36
               by_cases c37 : 0 ≤ (ji36)
               ·rw [if_pos c37] at H
                have c37b0 : decide (0 ≤ (ji36)) = true := decide_eq_true c37
                clear c37
                by_cases c38 : (ji36) < (x8_1.length : Int)
                ·rw [if_pos c38] at H
                 have c38b0 : decide ((ji36) < (x8_1.length : Int)) = true := decide_eq_true c38
                 clear c38
                 by_cases c39 : (rd x8_1 (ji36)) = (wrap64 (Int.tdiv x9_1 16))
                 ·rw [if_pos c39] at H
                  have c39b0 : ((rd x8_1 (ji36)) == (wrap64 (Int.tdiv x9_1 16))) = true := beq_iff_eq.mpr c39
                  have c39b1 : ((rd x8_1 (ji36)) != (wrap64 (Int.tdiv x9_1 16))) = false := bne_eq_false_iff_eq.mpr c39
                  clear c39
                  have H' := Aside0.mk H
                  clear H
                  go_wp2_with (first | ((with_reducible refine gate_builtin (b := .append) (xs := #[.tmp 65, .tmp 67]) rfl ?_); (try (refine gate_guard (by rfl) ?_; dsimp only)); at_builtin; refine Kd.R_append (Kd.int .i64) (w0 := w) w.heap.size rfl (.tmp 65) (.tmp 67) 39 3 (.int .i64 0) 8 rfl Try.underlying39 info3 rfl (by decide) (by omega) u7 x7_1 (wrap64 (Int.tdiv x9_1 16)) [.int .i64 (wrap64 (Int.tdiv x9_1 16))] (fun k_ => some k_ ≠ (v432 : Value).ownBlock ∧ some k_ ≠ (v435 : Value).ownBlock ∧ some k_ ≠ (u8 : Value).ownBlock) (fun _ => False) rfl rfl ?aP (fun _ hk => hk.elim) ?aF ?aO ?aB ?aS ?aL ?_; (case aP => exact rfl); (case aB => exact (by repeat (first | (with_reducible first | exact HB.out | apply pbA_ | apply pbN_ | apply pb1_) | exact HB.out))); (case aF => exact (fun k_ hk => ⟨Kd.fresh' (Kd.R_lt (by (with_reducible repeat (first | apply Kd.rA_ | apply Kd.rN_ | apply Kd.rD_)); exact HO_5.out)) k_ hk, Kd.fresh' (Kd.R_lt (by (with_reducible repeat (first | apply Kd.rA_ | apply Kd.rN_ | apply Kd.rD_)); exact HO_6.out)) k_ hk, Kd.fresh' (Kd.R_lt (by (with_reducible repeat (first | apply Kd.rA_ | apply Kd.rN_ | apply Kd.rD_)); exact HO_8.out)) k_ hk⟩)); (case aO => exact (by (with_reducible repeat (first | apply Kd.rA_ | apply Kd.rN_ | apply Kd.rD_)); exact HO_7.out)); (case aS => exact (pbS_ (by repeat (first | (with_reducible first | exact HB.out | apply pbA_ | apply pbN_ | apply pb1_) | exact HB.out)))); (case aL => have := LMc25.out; omega); intro v444 w40 ho hb hg hat; rw [← Ny443.out] at ho; have n0_ := Aside0.mk (Kd.R_after (ok := (fun k_ => some k_ ≠ (v435 : Value).ownBlock ∧ some k_ ≠ (u8 : Value).ownBlock)) (by (with_reducible repeat (first | apply Kd.rA_ | apply Kd.rN_ | apply Kd.rD_)); exact Kd.R_mono HO_5.out (fun _ hk => ⟨⟨hk.1, hk.2.2⟩, hk.2.1⟩)) hg hat); have n1_ := Aside0.mk (Kd.R_after (ok := (fun k_ => some k_ ≠ (v432 : Value).ownBlock ∧ some k_ ≠ (u8 : Value).ownBlock)) (by (with_reducible repeat (first | apply Kd.rA_ | apply Kd.rN_ | apply Kd.rD_)); exact Kd.R_mono HO_6.out (fun _ hk => ⟨⟨hk.1, hk.2.2⟩, hk.2.1⟩)) hg hat); have n2_ := Aside0.mk (Kd.R_after (ok := (fun k_ => some k_ ≠ (v432 : Value).ownBlock ∧ some k_ ≠ (v435 : Value).ownBlock)) (by (with_reducible repeat (first | apply Kd.rA_ | apply Kd.rN_ | apply Kd.rD_)); exact Kd.R_mono HO_8.out (fun _ hk => ⟨⟨hk.1, hk.2.1⟩, hk.2.2⟩)) hg hat); have n3_ := Aside0.mk (hb); have n4_ := Aside0.mk (ho); clear HO_5; clear HO_6; clear HO_8; clear HB; clear HO_7; have HO_5 := n0_; have HO_6 := n1_; have HO_8 := n2_; have HB := n3_; have HO445 := n4_; clear n0_ n1_ n2_ n3_ n4_; clear ho hb hg hat; have p446 : 0 ≤ (x9_1 : Int) := of_decide_eq_true (by first | (with_reducible assumption) | assumption); have q446 : x9_1 < (l0.length : Int) := of_decide_eq_true (by first | (with_reducible assumption) | assumption); obtain ⟨ad446, e446, hx446_0, hx446_1⟩ := at_T42 HR0.out x9_1 p446 q446; (try rw [← Nbq28.out] at hx446_0); cases e446; replace hx446_0 := (HB.out.cell (World.block_lt_of_cell? w _ hx446_0)).trans hx446_0; replace hx446_1 := (HB.out.cell (World.block_lt_of_cell? w _ hx446_1)).trans hx446_1; replace p446 := eq_true p446; replace q446 := eq_true q446; have p447 : 0 ≤ (x9_1 : Int) := of_decide_eq_true (by first | (with_reducible assumption) | assumption); have q447 : x9_1 < (l0.length : Int) := of_decide_eq_true (by first | (with_reducible assumption) | assumption); obtain ⟨ad447, e447, hx447_0, hx447_1⟩ := at_T42 HR0.out x9_1 p447 q447; (try rw [← Nbq28.out] at hx447_0); obtain rfl : ad446 = ad447 := (by injection e447); replace hx447_0 := (HB.out.cell (World.block_lt_of_cell? w _ hx447_0)).trans hx447_0; replace hx447_1 := (HB.out.cell (World.block_lt_of_cell? w _ hx447_1)).trans hx447_1; replace p447 := eq_true p447; replace q447 := eq_true q447; obtain ⟨Ao41, co41, eo41⟩ := Kd.R_slice HO_8.out; subst eo41; have p451 : 0 ≤ ((ji36) : Int) := of_decide_eq_true (by first | (with_reducible assumption) | assumption); have q451 : (ji36) < (x8_1.length : Int) := of_decide_eq_true (by first | (with_reducible assumption) | assumption); obtain ⟨ad451, e451, hx451_0⟩ := Kd.at_int (Kd.R_reads' HO_8.out).2.2 (ji36) p451 q451; cases e451; replace p451 := eq_true p451; replace q451 := eq_true q451))
                  (try subst hji36)
                  go_roundg kj12
                  case measure => have := HK1.out; have := HJ12.out; omega
                  case rel => exact ⟨(y443), (x8_1), (wrap64 (x9_1 + 1)), (by first | rfl | (simp; done) | (simp [*]; done)), H', ⟨by have := HK1.out; have := HJ12.out; omega⟩, ⟨by (with_reducible repeat (first | apply Kd.rA_ | apply Kd.rN_ | apply Kd.rD_)); exact Kd.R_mono HO_5.out (fun _ hk => ⟨hk.1.1, ⟨hk.2, hk.1.2⟩⟩)⟩, ⟨by (with_reducible repeat (first | apply Kd.rA_ | apply Kd.rN_ | apply Kd.rD_)); exact Kd.R_mono HO_6.out (fun _ hk => ⟨hk.1.1, ⟨hk.2, hk.1.2⟩⟩)⟩, ⟨by (with_reducible repeat (first | apply Kd.rA_ | apply Kd.rN_ | apply Kd.rD_)); exact HO445.out⟩, ⟨by (with_reducible repeat (first | apply Kd.rA_ | apply Kd.rN_ | apply Kd.rD_)); exact Kd.R_mono HO_8.out (fun _ hk => ⟨hk.1.1, ⟨hk.1.2, hk.2⟩⟩)⟩, ⟨by repeat (first | (with_reducible first | exact HB.out | apply pbA_ | apply pbN_ | apply pb1_) | exact HB.out)⟩⟩
                 ·rw [if_neg c39] at H
                  have c39b0 : ((rd x8_1 (ji36)) == (wrap64 (Int.tdiv x9_1 16))) = false := beq_eq_false_iff_ne.mpr c39
                  have c39b1 : ((rd x8_1 (ji36)) != (wrap64 (Int.tdiv x9_1 16))) = true := bne_iff_ne.mpr c39
                  by_cases c42 : x8_1.length < 17592186044416
                  ·rw [if_pos c42] at H
                   have LMc42 := Aside0.mk c42
                   clear c42
                   obtain ⟨y452, hy452⟩ : ∃ y_ : List Int, y_ = (x8_1 ++ [(wrap64 (Int.tdiv x9_1 16))]) := ⟨_, rfl⟩
                   replace H : (dragnetlaw10_IntsFinds.l0 kj12 l0 a1 t431 t434 y443 y452 (wrap64 (x9_1 + 1))) = some r := by first | (rw [hy452]; with_reducible exact H) | (have H2_ := (Option.bind_some _ _).symm.trans H; rw [hy452]; with_reducible exact H2_) | (have H2_ := (Option.bind_some _ _).symm.trans H; with_reducible exact H2_) | with_reducible exact H | (rw [hy452]; exact H) | exact H
                   have Ny452 := Aside0.mk hy452
                   clear hy452
                   have H' := Aside0.mk H
                   clear H
                   go_wp2_with (first | ((with_reducible refine gate_builtin (b := .append) (xs := #[.tmp 65, .tmp 67]) rfl ?_); (try (refine gate_guard (by rfl) ?_; dsimp only)); at_builtin; refine Kd.R_append (Kd.int .i64) (w0 := w) w.heap.size rfl (.tmp 65) (.tmp 67) 39 3 (.int .i64 0) 8 rfl Try.underlying39 info3 rfl (by decide) (by omega) u7 x7_1 (wrap64 (Int.tdiv x9_1 16)) [.int .i64 (wrap64 (Int.tdiv x9_1 16))] (fun k_ => some k_ ≠ (v432 : Value).ownBlock ∧ some k_ ≠ (v435 : Value).ownBlock ∧ some k_ ≠ (u8 : Value).ownBlock) (fun _ => False) rfl rfl ?aP (fun _ hk => hk.elim) ?aF ?aO ?aB ?aS ?aL ?_; (case aP => exact rfl); (case aB => exact (by repeat (first | (with_reducible first | exact HB.out | apply pbA_ | apply pbN_ | apply pb1_) | exact HB.out))); (case aF => exact (fun k_ hk => ⟨Kd.fresh' (Kd.R_lt (by (with_reducible repeat (first | apply Kd.rA_ | apply Kd.rN_ | apply Kd.rD_)); exact HO_5.out)) k_ hk, Kd.fresh' (Kd.R_lt (by (with_reducible repeat (first | apply Kd.rA_ | apply Kd.rN_ | apply Kd.rD_)); exact HO_6.out)) k_ hk, Kd.fresh' (Kd.R_lt (by (with_reducible repeat (first | apply Kd.rA_ | apply Kd.rN_ | apply Kd.rD_)); exact HO_8.out)) k_ hk⟩)); (case aO => exact (by (with_reducible repeat (first | apply Kd.rA_ | apply Kd.rN_ | apply Kd.rD_)); exact HO_7.out)); (case aS => exact (pbS_ (by repeat (first | (with_reducible first | exact HB.out | apply pbA_ | apply pbN_ | apply pb1_) | exact HB.out)))); (case aL => have := LMc25.out; omega); intro v444 w43 ho hb hg hat; rw [← Ny443.out] at ho; have n0_ := Aside0.mk (Kd.R_after (ok := (fun k_ => some k_ ≠ (v435 : Value).ownBlock ∧ some k_ ≠ (u8 : Value).ownBlock)) (by (with_reducible repeat (first | apply Kd.rA_ | apply Kd.rN_ | apply Kd.rD_)); exact Kd.R_mono HO_5.out (fun _ hk => ⟨⟨hk.1, hk.2.2⟩, hk.2.1⟩)) hg hat); have n1_ := Aside0.mk (Kd.R_after (ok := (fun k_ => some k_ ≠ (v432 : Value).ownBlock ∧ some k_ ≠ (u8 : Value).ownBlock)) (by (with_reducible repeat (first | apply Kd.rA_ | apply Kd.rN_ | apply Kd.rD_)); exact Kd.R_mono HO_6.out (fun _ hk => ⟨⟨hk.1, hk.2.2⟩, hk.2.1⟩)) hg hat); have n2_ := Aside0.mk (Kd.R_after (ok := (fun k_ => some k_ ≠ (v432 : Value).ownBlock ∧ some k_ ≠ (v435 : Value).ownBlock)) (by (with_reducible repeat (first | apply Kd.rA_ | apply Kd.rN_ | apply Kd.rD_)); exact Kd.R_mono HO_8.out (fun _ hk => ⟨⟨hk.1, hk.2.1⟩, hk.2.2⟩)) hg hat); have n3_ := Aside0.mk (hb); have n4_ := Aside0.mk (ho); clear HO_5; clear HO_6; clear HO_8; clear HB; clear HO_7; have HO_5 := n0_; have HO_6 := n1_; have HO_8 := n2_; have HB := n3_; have HO445 := n4_; clear n0_ n1_ n2_ n3_ n4_; clear ho hb hg hat; have p446 : 0 ≤ (x9_1 : Int) := of_decide_eq_true (by first | (with_reducible assumption) | assumption); have q446 : x9_1 < (l0.length : Int) := of_decide_eq_true (by first | (with_reducible assumption) | assumption); obtain ⟨ad446, e446, hx446_0, hx446_1⟩ := at_T42 HR0.out x9_1 p446 q446; (try rw [← Nbq28.out] at hx446_0); cases e446; replace hx446_0 := (HB.out.cell (World.block_lt_of_cell? w _ hx446_0)).trans hx446_0; replace hx446_1 := (HB.out.cell (World.block_lt_of_cell? w _ hx446_1)).trans hx446_1; replace p446 := eq_true p446; replace q446 := eq_true q446; have p447 : 0 ≤ (x9_1 : Int) := of_decide_eq_true (by first | (with_reducible assumption) | assumption); have q447 : x9_1 < (l0.length : Int) := of_decide_eq_true (by first | (with_reducible assumption) | assumption); obtain ⟨ad447, e447, hx447_0, hx447_1⟩ := at_T42 HR0.out x9_1 p447 q447; (try rw [← Nbq28.out] at hx447_0); obtain rfl : ad446 = ad447 := (by injection e447); replace hx447_0 := (HB.out.cell (World.block_lt_of_cell? w _ hx447_0)).trans hx447_0; replace hx447_1 := (HB.out.cell (World.block_lt_of_cell? w _ hx447_1)).trans hx447_1; replace p447 := eq_true p447; replace q447 := eq_true q447; obtain ⟨Ao44, co44, eo44⟩ := Kd.R_slice HO_8.out; subst eo44; have p451 : 0 ≤ ((ji36) : Int) := of_decide_eq_true (by first | (with_reducible assumption) | assumption); have q451 : (ji36) < (x8_1.length : Int) := of_decide_eq_true (by first | (with_reducible assumption) | assumption); obtain ⟨ad451, e451, hx451_0⟩ := Kd.at_int (Kd.R_reads' HO_8.out).2.2 (ji36) p451 q451; cases e451; replace p451 := eq_true p451; replace q451 := eq_true q451) | ((with_reducible refine gate_builtin (b := .append) (xs := #[.tmp 98, .tmp 100]) rfl ?_); (try (refine gate_guard (by rfl) ?_; dsimp only)); at_builtin; refine Kd.R_append (Kd.int .i64) (w0 := w) w.heap.size rfl (.tmp 98) (.tmp 100) 39 3 (.int .i64 0) 8 rfl Try.underlying39 info3 rfl (by decide) (by omega) (.slice (some ad451) x8_1.length co44) x8_1 (wrap64 (Int.tdiv x9_1 16)) [.int .i64 (wrap64 (Int.tdiv x9_1 16))] (fun k_ => some k_ ≠ (v432 : Value).ownBlock ∧ some k_ ≠ (v435 : Value).ownBlock ∧ some k_ ≠ (v444 : Value).ownBlock) (fun _ => False) rfl rfl ?aP (fun _ hk => hk.elim) ?aF ?aO ?aB ?aS ?aL ?_; (case aP => exact rfl); (case aB => exact (by repeat (first | (with_reducible first | exact HB.out | apply pbA_ | apply pbN_ | apply pb1_) | exact HB.out))); (case aF => exact (fun k_ hk => ⟨Kd.fresh' (Kd.R_lt (by (with_reducible repeat (first | apply Kd.rA_ | apply Kd.rN_ | apply Kd.rD_)); exact HO_5.out)) k_ hk, Kd.fresh' (Kd.R_lt (by (with_reducible repeat (first | apply Kd.rA_ | apply Kd.rN_ | apply Kd.rD_)); exact HO_6.out)) k_ hk, Kd.fresh' (Kd.R_lt (by (with_reducible repeat (first | apply Kd.rA_ | apply Kd.rN_ | apply Kd.rD_)); exact HO445.out)) k_ hk⟩)); (case aO => exact (by (with_reducible repeat (first | apply Kd.rA_ | apply Kd.rN_ | apply Kd.rD_)); exact Kd.R_mono HO_8.out (fun _ hk => ⟨hk.1.1, ⟨hk.1.2, hk.2⟩⟩))); (case aS => exact (pbS_ (by repeat (first | (with_reducible first | exact HB.out | apply pbA_ | apply pbN_ | apply pb1_) | exact HB.out)))); (case aL => have := LMc42.out; omega); intro v453 w45 ho hb hg hat; rw [← Ny452.out] at ho; have n0_ := Aside0.mk (Kd.R_after (ok := (fun k_ => some k_ ≠ (v435 : Value).ownBlock ∧ some k_ ≠ (v444 : Value).ownBlock)) (by (with_reducible repeat (first | apply Kd.rA_ | apply Kd.rN_ | apply Kd.rD_)); exact Kd.R_mono HO_5.out (fun _ hk => ⟨⟨hk.1.1, hk.2⟩, hk.1.2⟩)) hg hat); have n1_ := Aside0.mk (Kd.R_after (ok := (fun k_ => some k_ ≠ (v432 : Value).ownBlock ∧ some k_ ≠ (v444 : Value).ownBlock)) (by (with_reducible repeat (first | apply Kd.rA_ | apply Kd.rN_ | apply Kd.rD_)); exact Kd.R_mono HO_6.out (fun _ hk => ⟨⟨hk.1.1, hk.2⟩, hk.1.2⟩)) hg hat); have n2_ := Aside0.mk (Kd.R_after (ok := (fun k_ => some k_ ≠ (v432 : Value).ownBlock ∧ some k_ ≠ (v435 : Value).ownBlock)) (by (with_reducible repeat (first | apply Kd.rA_ | apply Kd.rN_ | apply Kd.rD_)); exact Kd.R_mono HO445.out (fun _ hk => ⟨⟨hk.1, hk.2.1⟩, hk.2.2⟩)) hg hat); have n3_ := Aside0.mk (hb); have n4_ := Aside0.mk (ho); clear HO_5; clear HO_6; clear HO445; clear HB; clear HO_8; have HO_5 := n0_; have HO_6 := n1_; have HO445 := n2_; have HB := n3_; have HO454 := n4_; clear n0_ n1_ n2_ n3_ n4_; clear ho hb hg hat))
                   (try subst hji36)
                   go_roundg kj12
                   case measure => have := HK1.out; have := HJ12.out; omega
                   case rel => exact ⟨(y443), (y452), (wrap64 (x9_1 + 1)), (by first | rfl | (simp; done) | (simp [*]; done)), H', ⟨by have := HK1.out; have := HJ12.out; omega⟩, ⟨by (with_reducible repeat (first | apply Kd.rA_ | apply Kd.rN_ | apply Kd.rD_)); exact Kd.R_mono HO_5.out (fun _ hk => ⟨hk.1.1, ⟨hk.1.2, hk.2⟩⟩)⟩, ⟨by (with_reducible repeat (first | apply Kd.rA_ | apply Kd.rN_ | apply Kd.rD_)); exact Kd.R_mono HO_6.out (fun _ hk => ⟨hk.1.1, ⟨hk.1.2, hk.2⟩⟩)⟩, ⟨by (with_reducible repeat (first | apply Kd.rA_ | apply Kd.rN_ | apply Kd.rD_)); exact Kd.R_mono HO445.out (fun _ hk => ⟨hk.1.1, ⟨hk.1.2, hk.2⟩⟩)⟩, ⟨by (with_reducible repeat (first | apply Kd.rA_ | apply Kd.rN_ | apply Kd.rD_)); exact HO454.out⟩, ⟨by repeat (first | (with_reducible first | exact HB.out | apply pbA_ | apply pbN_ | apply pb1_) | exact HB.out)⟩⟩
                  ·rw [if_neg c42] at H
                   exact absurd H (by simp)
                ·rw [if_neg c38] at H
                 exact absurd H (by simp)
               ·rw [if_neg c37] at H
                exact absurd H (by simp)
             ·rw [if_neg c30] at H
              have c30b0 : decide (a1 < ((rd_T42 l0 x9_1).f1)) = false := decide_eq_false c30
              clear c30
              have H' := Aside0.mk H
              clear H
              go_wp2_with (first | ((with_reducible refine gate_builtin (b := .append) (xs := #[.tmp 65, .tmp 67]) rfl ?_); (try (refine gate_guard (by rfl) ?_; dsimp only)); at_builtin; refine Kd.R_append (Kd.int .i64) (w0 := w) w.heap.size rfl (.tmp 65) (.tmp 67) 39 3 (.int .i64 0) 8 rfl Try.underlying39 info3 rfl (by decide) (by omega) u7 x7_1 (wrap64 (Int.tdiv x9_1 16)) [.int .i64 (wrap64 (Int.tdiv x9_1 16))] (fun k_ => some k_ ≠ (v432 : Value).ownBlock ∧ some k_ ≠ (v435 : Value).ownBlock ∧ some k_ ≠ (u8 : Value).ownBlock) (fun _ => False) rfl rfl ?aP (fun _ hk => hk.elim) ?aF ?aO ?aB ?aS ?aL ?_; (case aP => exact rfl); (case aB => exact (by repeat (first | (with_reducible first | exact HB.out | apply pbA_ | apply pbN_ | apply pb1_) | exact HB.out))); (case aF => exact (fun k_ hk => ⟨Kd.fresh' (Kd.R_lt (by (with_reducible repeat (first | apply Kd.rA_ | apply Kd.rN_ | apply Kd.rD_)); exact HO_5.out)) k_ hk, Kd.fresh' (Kd.R_lt (by (with_reducible repeat (first | apply Kd.rA_ | apply Kd.rN_ | apply Kd.rD_)); exact HO_6.out)) k_ hk, Kd.fresh' (Kd.R_lt (by (with_reducible repeat (first | apply Kd.rA_ | apply Kd.rN_ | apply Kd.rD_)); exact HO_8.out)) k_ hk⟩)); (case aO => exact (by (with_reducible repeat (first | apply Kd.rA_ | apply Kd.rN_ | apply Kd.rD_)); exact HO_7.out)); (case aS => exact (pbS_ (by repeat (first | (with_reducible first | exact HB.out | apply pbA_ | apply pbN_ | apply pb1_) | exact HB.out)))); (case aL => have := LMc25.out; omega); intro v444 w46 ho hb hg hat; rw [← Ny443.out] at ho; have n0_ := Aside0.mk (Kd.R_after (ok := (fun k_ => some k_ ≠ (v435 : Value).ownBlock ∧ some k_ ≠ (u8 : Value).ownBlock)) (by (with_reducible repeat (first | apply Kd.rA_ | apply Kd.rN_ | apply Kd.rD_)); exact Kd.R_mono HO_5.out (fun _ hk => ⟨⟨hk.1, hk.2.2⟩, hk.2.1⟩)) hg hat); have n1_ := Aside0.mk (Kd.R_after (ok := (fun k_ => some k_ ≠ (v432 : Value).ownBlock ∧ some k_ ≠ (u8 : Value).ownBlock)) (by (with_reducible repeat (first | apply Kd.rA_ | apply Kd.rN_ | apply Kd.rD_)); exact Kd.R_mono HO_6.out (fun _ hk => ⟨⟨hk.1, hk.2.2⟩, hk.2.1⟩)) hg hat); have n2_ := Aside0.mk (Kd.R_after (ok := (fun k_ => some k_ ≠ (v432 : Value).ownBlock ∧ some k_ ≠ (v435 : Value).ownBlock)) (by (with_reducible repeat (first | apply Kd.rA_ | apply Kd.rN_ | apply Kd.rD_)); exact Kd.R_mono HO_8.out (fun _ hk => ⟨⟨hk.1, hk.2.1⟩, hk.2.2⟩)) hg hat); have n3_ := Aside0.mk (hb); have n4_ := Aside0.mk (ho); clear HO_5; clear HO_6; clear HO_8; clear HB; clear HO_7; have HO_5 := n0_; have HO_6 := n1_; have HO_8 := n2_; have HB := n3_; have HO445 := n4_; clear n0_ n1_ n2_ n3_ n4_; clear ho hb hg hat; have p446 : 0 ≤ (x9_1 : Int) := of_decide_eq_true (by first | (with_reducible assumption) | assumption); have q446 : x9_1 < (l0.length : Int) := of_decide_eq_true (by first | (with_reducible assumption) | assumption); obtain ⟨ad446, e446, hx446_0, hx446_1⟩ := at_T42 HR0.out x9_1 p446 q446; (try rw [← Nbq28.out] at hx446_0); cases e446; replace hx446_0 := (HB.out.cell (World.block_lt_of_cell? w _ hx446_0)).trans hx446_0; replace hx446_1 := (HB.out.cell (World.block_lt_of_cell? w _ hx446_1)).trans hx446_1; replace p446 := eq_true p446; replace q446 := eq_true q446; have p447 : 0 ≤ (x9_1 : Int) := of_decide_eq_true (by first | (with_reducible assumption) | assumption); have q447 : x9_1 < (l0.length : Int) := of_decide_eq_true (by first | (with_reducible assumption) | assumption); obtain ⟨ad447, e447, hx447_0, hx447_1⟩ := at_T42 HR0.out x9_1 p447 q447; (try rw [← Nbq28.out] at hx447_0); obtain rfl : ad446 = ad447 := (by injection e447); replace hx447_0 := (HB.out.cell (World.block_lt_of_cell? w _ hx447_0)).trans hx447_0; replace hx447_1 := (HB.out.cell (World.block_lt_of_cell? w _ hx447_1)).trans hx447_1; replace p447 := eq_true p447; replace q447 := eq_true q447))
              go_roundg kj12
              case measure => have := HK1.out; have := HJ12.out; omega
              case rel => exact ⟨(y443), (x8_1), (wrap64 (x9_1 + 1)), (by first | rfl | (simp; done) | (simp [*]; done)), H', ⟨by have := HK1.out; have := HJ12.out; omega⟩, ⟨by (with_reducible repeat (first | apply Kd.rA_ | apply Kd.rN_ | apply Kd.rD_)); exact Kd.R_mono HO_5.out (fun _ hk => ⟨hk.1.1, ⟨hk.2, hk.1.2⟩⟩)⟩, ⟨by (with_reducible repeat (first | apply Kd.rA_ | apply Kd.rN_ | apply Kd.rD_)); exact Kd.R_mono HO_6.out (fun _ hk => ⟨hk.1.1, ⟨hk.2, hk.1.2⟩⟩)⟩, ⟨by (with_reducible repeat (first | apply Kd.rA_ | apply Kd.rN_ | apply Kd.rD_)); exact HO445.out⟩, ⟨by (with_reducible repeat (first | apply Kd.rA_ | apply Kd.rN_ | apply Kd.rD_)); exact Kd.R_mono HO_8.out (fun _ hk => ⟨hk.1.1, ⟨hk.1.2, hk.2⟩⟩)⟩, ⟨by repeat (first | (with_reducible first | exact HB.out | apply pbA_ | apply pbN_ | apply pb1_) | exact HB.out)⟩⟩
            ·replace c29 := Bool.eq_false_iff.mpr c29
             subst c29
             have H1 : (dragnetlaw10_IntsFinds.l0 kj12 l0 a1 t431 t434 y443 x8_1 (wrap64 (x9_1 + 1))) = some r := by rw [if_neg (show ¬ (false = true) by decide)] at H; exact H
             clear H
             have H := H1
             clear H1
             have H' := Aside0.mk H
             clear H
             go_wp2_with (first | ((with_reducible refine gate_builtin (b := .append) (xs := #[.tmp 65, .tmp 67]) rfl ?_); (try (refine gate_guard (by rfl) ?_; dsimp only)); at_builtin; refine Kd.R_append (Kd.int .i64) (w0 := w) w.heap.size rfl (.tmp 65) (.tmp 67) 39 3 (.int .i64 0) 8 rfl Try.underlying39 info3 rfl (by decide) (by omega) u7 x7_1 (wrap64 (Int.tdiv x9_1 16)) [.int .i64 (wrap64 (Int.tdiv x9_1 16))] (fun k_ => some k_ ≠ (v432 : Value).ownBlock ∧ some k_ ≠ (v435 : Value).ownBlock ∧ some k_ ≠ (u8 : Value).ownBlock) (fun _ => False) rfl rfl ?aP (fun _ hk => hk.elim) ?aF ?aO ?aB ?aS ?aL ?_; (case aP => exact rfl); (case aB => exact (by repeat (first | (with_reducible first | exact HB.out | apply pbA_ | apply pbN_ | apply pb1_) | exact HB.out))); (case aF => exact (fun k_ hk => ⟨Kd.fresh' (Kd.R_lt (by (with_reducible repeat (first | apply Kd.rA_ | apply Kd.rN_ | apply Kd.rD_)); exact HO_5.out)) k_ hk, Kd.fresh' (Kd.R_lt (by (with_reducible repeat (first | apply Kd.rA_ | apply Kd.rN_ | apply Kd.rD_)); exact HO_6.out)) k_ hk, Kd.fresh' (Kd.R_lt (by (with_reducible repeat (first | apply Kd.rA_ | apply Kd.rN_ | apply Kd.rD_)); exact HO_8.out)) k_ hk⟩)); (case aO => exact (by (with_reducible repeat (first | apply Kd.rA_ | apply Kd.rN_ | apply Kd.rD_)); exact HO_7.out)); (case aS => exact (pbS_ (by repeat (first | (with_reducible first | exact HB.out | apply pbA_ | apply pbN_ | apply pb1_) | exact HB.out)))); (case aL => have := LMc25.out; omega); intro v444 w47 ho hb hg hat; rw [← Ny443.out] at ho; have n0_ := Aside0.mk (Kd.R_after (ok := (fun k_ => some k_ ≠ (v435 : Value).ownBlock ∧ some k_ ≠ (u8 : Value).ownBlock)) (by (with_reducible repeat (first | apply Kd.rA_ | apply Kd.rN_ | apply Kd.rD_)); exact Kd.R_mono HO_5.out (fun _ hk => ⟨⟨hk.1, hk.2.2⟩, hk.2.1⟩)) hg hat); have n1_ := Aside0.mk (Kd.R_after (ok := (fun k_ => some k_ ≠ (v432 : Value).ownBlock ∧ some k_ ≠ (u8 : Value).ownBlock)) (by (with_reducible repeat (first | apply Kd.rA_ | apply Kd.rN_ | apply Kd.rD_)); exact Kd.R_mono HO_6.out (fun _ hk => ⟨⟨hk.1, hk.2.2⟩, hk.2.1⟩)) hg hat); have n2_ := Aside0.mk (Kd.R_after (ok := (fun k_ => some k_ ≠ (v432 : Value).ownBlock ∧ some k_ ≠ (v435 : Value).ownBlock)) (by (with_reducible repeat (first | apply Kd.rA_ | apply Kd.rN_ | apply Kd.rD_)); exact Kd.R_mono HO_8.out (fun _ hk => ⟨⟨hk.1, hk.2.1⟩, hk.2.2⟩)) hg hat); have n3_ := Aside0.mk (hb); have n4_ := Aside0.mk (ho); clear HO_5; clear HO_6; clear HO_8; clear HB; clear HO_7; have HO_5 := n0_; have HO_6 := n1_; have HO_8 := n2_; have HB := n3_; have HO445 := n4_; clear n0_ n1_ n2_ n3_ n4_; clear ho hb hg hat; have p446 : 0 ≤ (x9_1 : Int) := of_decide_eq_true (by first | (with_reducible assumption) | assumption); have q446 : x9_1 < (l0.length : Int) := of_decide_eq_true (by first | (with_reducible assumption) | assumption); obtain ⟨ad446, e446, hx446_0, hx446_1⟩ := at_T42 HR0.out x9_1 p446 q446; (try rw [← Nbq28.out] at hx446_0); cases e446; replace hx446_0 := (HB.out.cell (World.block_lt_of_cell? w _ hx446_0)).trans hx446_0; replace hx446_1 := (HB.out.cell (World.block_lt_of_cell? w _ hx446_1)).trans hx446_1; replace p446 := eq_true p446; replace q446 := eq_true q446))
             go_roundg kj12
             case measure => have := HK1.out; have := HJ12.out; omega
             case rel => exact ⟨(y443), (x8_1), (wrap64 (x9_1 + 1)), (by first | rfl | (simp; done) | (simp [*]; done)), H', ⟨by have := HK1.out; have := HJ12.out; omega⟩, ⟨by (with_reducible repeat (first | apply Kd.rA_ | apply Kd.rN_ | apply Kd.rD_)); exact Kd.R_mono HO_5.out (fun _ hk => ⟨hk.1.1, ⟨hk.2, hk.1.2⟩⟩)⟩, ⟨by (with_reducible repeat (first | apply Kd.rA_ | apply Kd.rN_ | apply Kd.rD_)); exact Kd.R_mono HO_6.out (fun _ hk => ⟨hk.1.1, ⟨hk.2, hk.1.2⟩⟩)⟩, ⟨by (with_reducible repeat (first | apply Kd.rA_ | apply Kd.rN_ | apply Kd.rD_)); exact HO445.out⟩, ⟨by (with_reducible repeat (first | apply Kd.rA_ | apply Kd.rN_ | apply Kd.rD_)); exact Kd.R_mono HO_8.out (fun _ hk => ⟨hk.1.1, ⟨hk.1.2, hk.2⟩⟩)⟩, ⟨by repeat (first | (with_reducible first | exact HB.out | apply pbA_ | apply pbN_ | apply pb1_) | exact HB.out)⟩⟩
           ·rw [if_neg c27] at H
            exact absurd H (by simp)
          ·rw [if_neg c26] at H
           exact absurd H (by simp)
         ·rw [if_neg c25] at H
          exact absurd H (by simp)
        ·replace c24 := Bool.eq_false_iff.mpr c24
         subst c24
         have H1 : (if 0 ≤ x9_1 then (if x9_1 < (l0.length : Int) then (if (rd_T42 l0 x9_1).f0 = true then (if ((rd_T42 l0 x9_1).f1) > a1 then (if (x8_1.length : Int) = 0 then (if x8_1.length < 17592186044416 then (dragnetlaw10_IntsFinds.l0 kj12 l0 a1 t431 t434 x7_1 (x8_1 ++ [(wrap64 (Int.tdiv x9_1 16))]) (wrap64 (x9_1 + 1))) else (none)) else (if 0 ≤ (wrap64 ((x8_1.length : Int) - 1)) then (if (wrap64 ((x8_1.length : Int) - 1)) < (x8_1.length : Int) then (if (rd x8_1 (wrap64 ((x8_1.length : Int) - 1))) = (wrap64 (Int.tdiv x9_1 16)) then (dragnetlaw10_IntsFinds.l0 kj12 l0 a1 t431 t434 x7_1 x8_1 (wrap64 (x9_1 + 1))) else (if x8_1.length < 17592186044416 then (dragnetlaw10_IntsFinds.l0 kj12 l0 a1 t431 t434 x7_1 (x8_1 ++ [(wrap64 (Int.tdiv x9_1 16))]) (wrap64 (x9_1 + 1))) else (none))) else (none)) else (none))) else (dragnetlaw10_IntsFinds.l0 kj12 l0 a1 t431 t434 x7_1 x8_1 (wrap64 (x9_1 + 1)))) else (dragnetlaw10_IntsFinds.l0 kj12 l0 a1 t431 t434 x7_1 x8_1 (wrap64 (x9_1 + 1)))) else (none)) else (none)) = some r := by rw [if_neg (show ¬ (false = true) by decide)] at H; exact H
         clear H
         have H := H1
         clear H1
         by_cases c48 : 0 ≤ x9_1
         ·rw [if_pos c48] at H
          have c48b0 : decide (0 ≤ x9_1) = true := decide_eq_true c48
          clear c48
          by_cases c49 : x9_1 < (l0.length : Int)
          ·rw [if_pos c49] at H
           have c49b0 : decide (x9_1 < (l0.length : Int)) = true := decide_eq_true c49
           clear c49
           obtain ⟨bq50, hbq50⟩ : ∃ b_ : Bool, b_ = ((rd_T42 l0 x9_1).f0) := ⟨_, rfl⟩
           replace H : (if bq50 = true then (if ((rd_T42 l0 x9_1).f1) > a1 then (if (x8_1.length : Int) = 0 then (if x8_1.length < 17592186044416 then (dragnetlaw10_IntsFinds.l0 kj12 l0 a1 t431 t434 x7_1 (x8_1 ++ [(wrap64 (Int.tdiv x9_1 16))]) (wrap64 (x9_1 + 1))) else (none)) else (if 0 ≤ (wrap64 ((x8_1.length : Int) - 1)) then (if (wrap64 ((x8_1.length : Int) - 1)) < (x8_1.length : Int) then (if (rd x8_1 (wrap64 ((x8_1.length : Int) - 1))) = (wrap64 (Int.tdiv x9_1 16)) then (dragnetlaw10_IntsFinds.l0 kj12 l0 a1 t431 t434 x7_1 x8_1 (wrap64 (x9_1 + 1))) else (if x8_1.length < 17592186044416 then (dragnetlaw10_IntsFinds.l0 kj12 l0 a1 t431 t434 x7_1 (x8_1 ++ [(wrap64 (Int.tdiv x9_1 16))]) (wrap64 (x9_1 + 1))) else (none))) else (none)) else (none))) else (dragnetlaw10_IntsFinds.l0 kj12 l0 a1 t431 t434 x7_1 x8_1 (wrap64 (x9_1 + 1)))) else (dragnetlaw10_IntsFinds.l0 kj12 l0 a1 t431 t434 x7_1 x8_1 (wrap64 (x9_1 + 1)))) = some r := by rw [← hbq50] at H; exact H
           have Nbq50 := Aside0.mk hbq50
           clear hbq50
           by_cases c51 : bq50 = true
           ·subst c51
            have H1 : (if ((rd_T42 l0 x9_1).f1) > a1 then (if (x8_1.length : Int) = 0 then (if x8_1.length < 17592186044416 then (dragnetlaw10_IntsFinds.l0 kj12 l0 a1 t431 t434 x7_1 (x8_1 ++ [(wrap64 (Int.tdiv x9_1 16))]) (wrap64 (x9_1 + 1))) else (none)) else (if 0 ≤ (wrap64 ((x8_1.length : Int) - 1)) then (if (wrap64 ((x8_1.length : Int) - 1)) < (x8_1.length : Int) then (if (rd x8_1 (wrap64 ((x8_1.length : Int) - 1))) = (wrap64 (Int.tdiv x9_1 16)) then (dragnetlaw10_IntsFinds.l0 kj12 l0 a1 t431 t434 x7_1 x8_1 (wrap64 (x9_1 + 1))) else (if x8_1.length < 17592186044416 then (dragnetlaw10_IntsFinds.l0 kj12 l0 a1 t431 t434 x7_1 (x8_1 ++ [(wrap64 (Int.tdiv x9_1 16))]) (wrap64 (x9_1 + 1))) else (none))) else (none)) else (none))) else (dragnetlaw10_IntsFinds.l0 kj12 l0 a1 t431 t434 x7_1 x8_1 (wrap64 (x9_1 + 1)))) = some r := by rw [if_pos rfl] at H; exact H
            clear H
            have H := H1
            clear H1
            by_cases c52 : ((rd_T42 l0 x9_1).f1) > a1
            ·rw [if_pos c52] at H
             have c52b0 : decide (a1 < ((rd_T42 l0 x9_1).f1)) = true := decide_eq_true c52
             clear c52
             by_cases c53 : (x8_1.length : Int) = 0
             ·rw [if_pos c53] at H
              have c53b0 : ((x8_1.length : Int) == 0) = true := beq_iff_eq.mpr c53
              have c53b1 : ((x8_1.length : Int) != 0) = false := bne_eq_false_iff_eq.mpr c53
              clear c53
              by_cases c54 : x8_1.length < 17592186044416
              ·rw [if_pos c54] at H
               have LMc54 := Aside0.mk c54
               clear c54
               obtain ⟨y457, hy457⟩ : ∃ y_ : List Int, y_ = (x8_1 ++ [(wrap64 (Int.tdiv x9_1 16))]) := ⟨_, rfl⟩
               replace H : (dragnetlaw10_IntsFinds.l0 kj12 l0 a1 t431 t434 x7_1 y457 (wrap64 (x9_1 + 1))) = some r := by first | (rw [hy457]; with_reducible exact H) | (have H2_ := (Option.bind_some _ _).symm.trans H; rw [hy457]; with_reducible exact H2_) | (have H2_ := (Option.bind_some _ _).symm.trans H; with_reducible exact H2_) | with_reducible exact H | (rw [hy457]; exact H) | exact H
               have Ny457 := Aside0.mk hy457
               clear hy457
               have H' := Aside0.mk H
               clear H
               have p455 : 0 ≤ (x9_1 : Int) := of_decide_eq_true (by first | (with_reducible assumption) | assumption)
               have q455 : x9_1 < (l0.length : Int) := of_decide_eq_true (by first | (with_reducible assumption) | assumption)
               obtain ⟨ad455, e455, hx455_0, hx455_1⟩ := at_T42 HR0.out x9_1 p455 q455
               (try rw [← Nbq50.out] at hx455_0)
               cases e455
               replace hx455_0 := (HB.out.cell (World.block_lt_of_cell? w _ hx455_0)).trans hx455_0
               replace hx455_1 := (HB.out.cell (World.block_lt_of_cell? w _ hx455_1)).trans hx455_1
               replace p455 := eq_true p455
               replace q455 := eq_true q455
               have p456 : 0 ≤ (x9_1 : Int) := of_decide_eq_true (by first | (with_reducible assumption) | assumption)
               have q456 : x9_1 < (l0.length : Int) := of_decide_eq_true (by first | (with_reducible assumption) | assumption)
               obtain ⟨ad456, e456, hx456_0, hx456_1⟩ := at_T42 HR0.out x9_1 p456 q456
               (try rw [← Nbq50.out] at hx456_0)
               obtain rfl : ad455 = ad456 := (by injection e456)
               replace hx456_0 := (HB.out.cell (World.block_lt_of_cell? w _ hx456_0)).trans hx456_0
               replace hx456_1 := (HB.out.cell (World.block_lt_of_cell? w _ hx456_1)).trans hx456_1
               replace p456 := eq_true p456
               replace q456 := eq_true q456
               obtain ⟨Ao55, co55, eo55⟩ := Kd.R_slice HO_8.out
               subst eo55
               go_wp2_with (first | ((with_reducible refine gate_builtin (b := .append) (xs := #[.tmp 98, .tmp 100]) rfl ?_); (try (refine gate_guard (by rfl) ?_; dsimp only)); at_builtin; refine Kd.R_append (Kd.int .i64) (w0 := w) w.heap.size rfl (.tmp 98) (.tmp 100) 39 3 (.int .i64 0) 8 rfl Try.underlying39 info3 rfl (by decide) (by omega) (.slice Ao55 x8_1.length co55) x8_1 (wrap64 (Int.tdiv x9_1 16)) [.int .i64 (wrap64 (Int.tdiv x9_1 16))] (fun k_ => some k_ ≠ (v432 : Value).ownBlock ∧ some k_ ≠ (v435 : Value).ownBlock ∧ some k_ ≠ (u7 : Value).ownBlock) (fun _ => False) rfl rfl ?aP (fun _ hk => hk.elim) ?aF ?aO ?aB ?aS ?aL ?_; (case aP => exact rfl); (case aB => exact (by repeat (first | (with_reducible first | exact HB.out | apply pbA_ | apply pbN_ | apply pb1_) | exact HB.out))); (case aF => exact (fun k_ hk => ⟨Kd.fresh' (Kd.R_lt (by (with_reducible repeat (first | apply Kd.rA_ | apply Kd.rN_ | apply Kd.rD_)); exact HO_5.out)) k_ hk, Kd.fresh' (Kd.R_lt (by (with_reducible repeat (first | apply Kd.rA_ | apply Kd.rN_ | apply Kd.rD_)); exact HO_6.out)) k_ hk, Kd.fresh' (Kd.R_lt (by (with_reducible repeat (first | apply Kd.rA_ | apply Kd.rN_ | apply Kd.rD_)); exact HO_7.out)) k_ hk⟩)); (case aO => exact (by (with_reducible repeat (first | apply Kd.rA_ | apply Kd.rN_ | apply Kd.rD_)); exact HO_8.out)); (case aS => exact (pbS_ (by repeat (first | (with_reducible first | exact HB.out | apply pbA_ | apply pbN_ | apply pb1_) | exact HB.out)))); (case aL => have := LMc54.out; omega); intro v458 w56 ho hb hg hat; rw [← Ny457.out] at ho; have n0_ := Aside0.mk (Kd.R_after (ok := (fun k_ => some k_ ≠ (v435 : Value).ownBlock ∧ some k_ ≠ (u7 : Value).ownBlock)) (by (with_reducible repeat (first | apply Kd.rA_ | apply Kd.rN_ | apply Kd.rD_)); exact Kd.R_mono HO_5.out (fun _ hk => ⟨⟨hk.1, hk.2.1⟩, hk.2.2⟩)) hg hat); have n1_ := Aside0.mk (Kd.R_after (ok := (fun k_ => some k_ ≠ (v432 : Value).ownBlock ∧ some k_ ≠ (u7 : Value).ownBlock)) (by (with_reducible repeat (first | apply Kd.rA_ | apply Kd.rN_ | apply Kd.rD_)); exact Kd.R_mono HO_6.out (fun _ hk => ⟨⟨hk.1, hk.2.1⟩, hk.2.2⟩)) hg hat); have n2_ := Aside0.mk (Kd.R_after (ok := (fun k_ => some k_ ≠ (v432 : Value).ownBlock ∧ some k_ ≠ (v435 : Value).ownBlock)) (by (with_reducible repeat (first | apply Kd.rA_ | apply Kd.rN_ | apply Kd.rD_)); exact Kd.R_mono HO_7.out (fun _ hk => ⟨⟨hk.1, hk.2.1⟩, hk.2.2⟩)) hg hat); have n3_ := Aside0.mk (hb); have n4_ := Aside0.mk (ho); clear HO_5; clear HO_6; clear HO_7; clear HB; clear HO_8; have HO_5 := n0_; have HO_6 := n1_; have HO_7 := n2_; have HB := n3_; have HO459 := n4_; clear n0_ n1_ n2_ n3_ n4_; clear ho hb hg hat))
               go_roundg kj12
               case measure => have := HK1.out; have := HJ12.out; omega
               case rel => exact ⟨(x7_1), (y457), (wrap64 (x9_1 + 1)), (by first | rfl | (simp; done) | (simp [*]; done)), H', ⟨by have := HK1.out; have := HJ12.out; omega⟩, ⟨by (with_reducible repeat (first | apply Kd.rA_ | apply Kd.rN_ | apply Kd.rD_)); exact Kd.R_mono HO_5.out (fun _ hk => ⟨hk.1.1, ⟨hk.1.2, hk.2⟩⟩)⟩, ⟨by (with_reducible repeat (first | apply Kd.rA_ | apply Kd.rN_ | apply Kd.rD_)); exact Kd.R_mono HO_6.out (fun _ hk => ⟨hk.1.1, ⟨hk.1.2, hk.2⟩⟩)⟩, ⟨by (with_reducible repeat (first | apply Kd.rA_ | apply Kd.rN_ | apply Kd.rD_)); exact Kd.R_mono HO_7.out (fun _ hk => ⟨hk.1.1, ⟨hk.1.2, hk.2⟩⟩)⟩, ⟨by (with_reducible repeat (first | apply Kd.rA_ | apply Kd.rN_ | apply Kd.rD_)); exact HO459.out⟩, ⟨by repeat (first | (with_reducible first | exact HB.out | apply pbA_ | apply pbN_ | apply pb1_) | exact HB.out)⟩⟩
              ·rw [if_neg c54] at H
               exact absurd H (by simp)
             ·rw [if_neg c53] at H
              have c53b0 : ((x8_1.length : Int) == 0) = false := beq_eq_false_iff_ne.mpr c53
              have c53b1 : ((x8_1.length : Int) != 0) = true := bne_iff_ne.mpr c53
              have c53b2 : ¬ (x8_1 = []) := fun h_ => c53 (by rw [h_]; rfl)
              obtain ⟨ji57, hji57⟩ : ∃ j_ : Int, (wrap64 ((x8_1.length : Int) - 1)) = j_ := ⟨_, rfl⟩
              replace H : (if 0 ≤ (ji57) then (if (ji57) < (x8_1.length : Int) then (if (rd x8_1 (ji57)) = (wrap64 (Int.tdiv x9_1 16)) then (dragnetlaw10_IntsFinds.l0 kj12 l0 a1 t431 t434 x7_1 x8_1 (wrap64 (x9_1 + 1))) else (if x8_1.length < 17592186044416 then (dragnetlaw10_IntsFinds.l0 kj12 l0 a1 t431 t434 x7_1 (x8_1 ++ [(wrap64 (Int.tdiv x9_1 16))]) (wrap64 (x9_1 + 1))) else (none))) else (none)) else (none)) = some r := by first | (rw [hji57] at H; exact H) | (simp only [hji57] at H ⊢; exact H)
              have hji57w : (IntKind.i64.wrap ((x8_1.length : Int) - 1)) = ji57 := (i64_w _).trans hji57
              by_cases c58 : 0 ≤ (ji57)
              ·rw [if_pos c58] at H
               have c58b0 : decide (0 ≤ (ji57)) = true := decide_eq_true c58
               clear c58
               by_cases c59 : (ji57) < (x8_1.length : Int)
               ·rw [if_pos c59] at H
                have c59b0 : decide ((ji57) < (x8_1.length : Int)) = true := decide_eq_true c59
                clear c59
                by_cases c60 : (rd x8_1 (ji57)) = (wrap64 (Int.tdiv x9_1 16))
                ·rw [if_pos c60] at H
                 have c60b0 : ((rd x8_1 (ji57)) == (wrap64 (Int.tdiv x9_1 16))) = true := beq_iff_eq.mpr c60
                 have c60b1 : ((rd x8_1 (ji57)) != (wrap64 (Int.tdiv x9_1 16))) = false := bne_eq_false_iff_eq.mpr c60
                 clear c60
                 have H' := Aside0.mk H
                 clear H
                 have p455 : 0 ≤ (x9_1 : Int) := of_decide_eq_true (by first | (with_reducible assumption) | assumption)
                 have q455 : x9_1 < (l0.length : Int) := of_decide_eq_true (by first | (with_reducible assumption) | assumption)
                 obtain ⟨ad455, e455, hx455_0, hx455_1⟩ := at_T42 HR0.out x9_1 p455 q455
                 (try rw [← Nbq50.out] at hx455_0)
                 cases e455
                 replace hx455_0 := (HB.out.cell (World.block_lt_of_cell? w _ hx455_0)).trans hx455_0
                 replace hx455_1 := (HB.out.cell (World.block_lt_of_cell? w _ hx455_1)).trans hx455_1
                 replace p455 := eq_true p455
                 replace q455 := eq_true q455
                 have p456 : 0 ≤ (x9_1 : Int) := of_decide_eq_true (by first | (with_reducible assumption) | assumption)
                 have q456 : x9_1 < (l0.length : Int) := of_decide_eq_true (by first | (with_reducible assumption) | assumption)
                 obtain ⟨ad456, e456, hx456_0, hx456_1⟩ := at_T42 HR0.out x9_1 p456 q456
                 (try rw [← Nbq50.out] at hx456_0)
                 obtain rfl : ad455 = ad456 := (by injection e456)
                 replace hx456_0 := (HB.out.cell (World.block_lt_of_cell? w _ hx456_0)).trans hx456_0
                 replace hx456_1 := (HB.out.cell (World.block_lt_of_cell? w _ hx456_1)).trans hx456_1
                 replace p456 := eq_true p456
                 replace q456 := eq_true q456
                 obtain ⟨Ao61, co61, eo61⟩ := Kd.R_slice HO_8.out
                 subst eo61
                 have p460 : 0 ≤ ((ji57) : Int) := of_decide_eq_true (by first | (with_reducible assumption) | assumption)
                 have q460 : (ji57) < (x8_1.length : Int) := of_decide_eq_true (by first | (with_reducible assumption) | assumption)
                 obtain ⟨ad460, e460, hx460_0⟩ := Kd.at_int (Kd.R_reads' HO_8.out).2.2 (ji57) p460 q460
                 cases e460
                 replace p460 := eq_true p460
                 replace q460 := eq_true q460
                 go_wp2
                 (try subst hji57)
                 go_roundg kj12
                 case measure => have := HK1.out; have := HJ12.out; omega
                 case rel => exact ⟨(x7_1), (x8_1), (wrap64 (x9_1 + 1)), (by first | rfl | (simp; done) | (simp [*]; done)), H', ⟨by have := HK1.out; have := HJ12.out; omega⟩, ⟨by (with_reducible repeat (first | apply Kd.rA_ | apply Kd.rN_ | apply Kd.rD_)); exact HO_5.out⟩, ⟨by (with_reducible repeat (first | apply Kd.rA_ | apply Kd.rN_ | apply Kd.rD_)); exact HO_6.out⟩, ⟨by (with_reducible repeat (first | apply Kd.rA_ | apply Kd.rN_ | apply Kd.rD_)); exact HO_7.out⟩, ⟨by (with_reducible repeat (first | apply Kd.rA_ | apply Kd.rN_ | apply Kd.rD_)); exact HO_8.out⟩, ⟨by repeat (first | (with_reducible first | exact HB.out | apply pbA_ | apply pbN_ | apply pb1_) | exact HB.out)⟩⟩
                ·rw [if_neg c60] at H
                 have c60b0 : ((rd x8_1 (ji57)) == (wrap64 (Int.tdiv x9_1 16))) = false := beq_eq_false_iff_ne.mpr c60
                 have c60b1 : ((rd x8_1 (ji57)) != (wrap64 (Int.tdiv x9_1 16))) = true := bne_iff_ne.mpr c60
                 by_cases c62 : x8_1.length < 17592186044416
                 ·rw [if_pos c62] at H
                  have LMc62 := Aside0.mk c62
                  clear c62
                  obtain ⟨y461, hy461⟩ : ∃ y_ : List Int, y_ = (x8_1 ++ [(wrap64 (Int.tdiv x9_1 16))]) := ⟨_, rfl⟩
                  replace H : (dragnetlaw10_IntsFinds.l0 kj12 l0 a1 t431 t434 x7_1 y461 (wrap64 (x9_1 + 1))) = some r := by first | (rw [hy461]; with_reducible exact H) | (have H2_ := (Option.bind_some _ _).symm.trans H; rw [hy461]; with_reducible exact H2_) | (have H2_ := (Option.bind_some _ _).symm.trans H; with_reducible exact H2_) | with_reducible exact H | (rw [hy461]; exact H) | exact H
                  have Ny461 := Aside0.mk hy461
                  clear hy461
                  have H' := Aside0.mk H
                  clear H
                  have p455 : 0 ≤ (x9_1 : Int) := of_decide_eq_true (by first | (with_reducible assumption) | assumption)
                  have q455 : x9_1 < (l0.length : Int) := of_decide_eq_true (by first | (with_reducible assumption) | assumption)
                  obtain ⟨ad455, e455, hx455_0, hx455_1⟩ := at_T42 HR0.out x9_1 p455 q455
                  (try rw [← Nbq50.out] at hx455_0)
                  cases e455
                  replace hx455_0 := (HB.out.cell (World.block_lt_of_cell? w _ hx455_0)).trans hx455_0
                  replace hx455_1 := (HB.out.cell (World.block_lt_of_cell? w _ hx455_1)).trans hx455_1
                  replace p455 := eq_true p455
                  replace q455 := eq_true q455
                  have p456 : 0 ≤ (x9_1 : Int) := of_decide_eq_true (by first | (with_reducible assumption) | assumption)
                  have q456 : x9_1 < (l0.length : Int) := of_decide_eq_true (by first | (with_reducible assumption) | assumption)
                  obtain ⟨ad456, e456, hx456_0, hx456_1⟩ := at_T42 HR0.out x9_1 p456 q456
                  (try rw [← Nbq50.out] at hx456_0)
                  obtain rfl : ad455 = ad456 := (by injection e456)
                  replace hx456_0 := (HB.out.cell (World.block_lt_of_cell? w _ hx456_0)).trans hx456_0
                  replace hx456_1 := (HB.out.cell (World.block_lt_of_cell? w _ hx456_1)).trans hx456_1
                  replace p456 := eq_true p456
                  replace q456 := eq_true q456
                  obtain ⟨Ao63, co63, eo63⟩ := Kd.R_slice HO_8.out
                  subst eo63
                  have p460 : 0 ≤ ((ji57) : Int) := of_decide_eq_true (by first | (with_reducible assumption) | assumption)
                  have q460 : (ji57) < (x8_1.length : Int) := of_decide_eq_true (by first | (with_reducible assumption) | assumption)
                  obtain ⟨ad460, e460, hx460_0⟩ := Kd.at_int (Kd.R_reads' HO_8.out).2.2 (ji57) p460 q460
                  cases e460
                  replace p460 := eq_true p460
                  replace q460 := eq_true q460
                  go_wp2_with (first | ((with_reducible refine gate_builtin (b := .append) (xs := #[.tmp 98, .tmp 100]) rfl ?_); (try (refine gate_guard (by rfl) ?_; dsimp only)); at_builtin; refine Kd.R_append (Kd.int .i64) (w0 := w) w.heap.size rfl (.tmp 98) (.tmp 100) 39 3 (.int .i64 0) 8 rfl Try.underlying39 info3 rfl (by decide) (by omega) (.slice (some ad460) x8_1.length co63) x8_1 (wrap64 (Int.tdiv x9_1 16)) [.int .i64 (wrap64 (Int.tdiv x9_1 16))] (fun k_ => some k_ ≠ (v432 : Value).ownBlock ∧ some k_ ≠ (v435 : Value).ownBlock ∧ some k_ ≠ (u7 : Value).ownBlock) (fun _ => False) rfl rfl ?aP (fun _ hk => hk.elim) ?aF ?aO ?aB ?aS ?aL ?_; (case aP => exact rfl); (case aB => exact (by repeat (first | (with_reducible first | exact HB.out | apply pbA_ | apply pbN_ | apply pb1_) | exact HB.out))); (case aF => exact (fun k_ hk => ⟨Kd.fresh' (Kd.R_lt (by (with_reducible repeat (first | apply Kd.rA_ | apply Kd.rN_ | apply Kd.rD_)); exact HO_5.out)) k_ hk, Kd.fresh' (Kd.R_lt (by (with_reducible repeat (first | apply Kd.rA_ | apply Kd.rN_ | apply Kd.rD_)); exact HO_6.out)) k_ hk, Kd.fresh' (Kd.R_lt (by (with_reducible repeat (first | apply Kd.rA_ | apply Kd.rN_ | apply Kd.rD_)); exact HO_7.out)) k_ hk⟩)); (case aO => exact (by (with_reducible repeat (first | apply Kd.rA_ | apply Kd.rN_ | apply Kd.rD_)); exact HO_8.out)); (case aS => exact (pbS_ (by repeat (first | (with_reducible first | exact HB.out | apply pbA_ | apply pbN_ | apply pb1_) | exact HB.out)))); (case aL => have := LMc62.out; omega); intro v462 w64 ho hb hg hat; rw [← Ny461.out] at ho; have n0_ := Aside0.mk (Kd.R_after (ok := (fun k_ => some k_ ≠ (v435 : Value).ownBlock ∧ some k_ ≠ (u7 : Value).ownBlock)) (by (with_reducible repeat (first | apply Kd.rA_ | apply Kd.rN_ | apply Kd.rD_)); exact Kd.R_mono HO_5.out (fun _ hk => ⟨⟨hk.1, hk.2.1⟩, hk.2.2⟩)) hg hat); have n1_ := Aside0.mk (Kd.R_after (ok := (fun k_ => some k_ ≠ (v432 : Value).ownBlock ∧ some k_ ≠ (u7 : Value).ownBlock)) (by (with_reducible repeat (first | apply Kd.rA_ | apply Kd.rN_ | apply Kd.rD_)); exact Kd.R_mono HO_6.out (fun _ hk => ⟨⟨hk.1, hk.2.1⟩, hk.2.2⟩)) hg hat); have n2_ := Aside0.mk (Kd.R_after (ok := (fun k_ => some k_ ≠ (v432 : Value).ownBlock ∧ some k_ ≠ (v435 : Value).ownBlock)) (by (with_reducible repeat (first | apply Kd.rA_ | apply Kd.rN_ | apply Kd.rD_)); exact Kd.R_mono HO_7.out (fun _ hk => ⟨⟨hk.1, hk.2.1⟩, hk.2.2⟩)) hg hat); have n3_ := Aside0.mk (hb); have n4_ := Aside0.mk (ho); clear HO_5; clear HO_6; clear HO_7; clear HB; clear HO_8; have HO_5 := n0_; have HO_6 := n1_; have HO_7 := n2_; have HB := n3_; have HO463 := n4_; clear n0_ n1_ n2_ n3_ n4_; clear ho hb hg hat))
                  (try subst hji57)
                  go_roundg kj12
                  case measure => have := HK1.out; have := HJ12.out; omega
                  case rel => exact ⟨(x7_1), (y461), (wrap64 (x9_1 + 1)), (by first | rfl | (simp; done) | (simp [*]; done)), H', ⟨by have := HK1.out; have := HJ12.out; omega⟩, ⟨by (with_reducible repeat (first | apply Kd.rA_ | apply Kd.rN_ | apply Kd.rD_)); exact Kd.R_mono HO_5.out (fun _ hk => ⟨hk.1.1, ⟨hk.1.2, hk.2⟩⟩)⟩, ⟨by (with_reducible repeat (first | apply Kd.rA_ | apply Kd.rN_ | apply Kd.rD_)); exact Kd.R_mono HO_6.out (fun _ hk => ⟨hk.1.1, ⟨hk.1.2, hk.2⟩⟩)⟩, ⟨by (with_reducible repeat (first | apply Kd.rA_ | apply Kd.rN_ | apply Kd.rD_)); exact Kd.R_mono HO_7.out (fun _ hk => ⟨hk.1.1, ⟨hk.1.2, hk.2⟩⟩)⟩, ⟨by (with_reducible repeat (first | apply Kd.rA_ | apply Kd.rN_ | apply Kd.rD_)); exact HO463.out⟩, ⟨by repeat (first | (with_reducible first | exact HB.out | apply pbA_ | apply pbN_ | apply pb1_) | exact HB.out)⟩⟩
                 ·rw [if_neg c62] at H
                  exact absurd H (by simp)
               ·rw [if_neg c59] at H
                exact absurd H (by simp)
              ·rw [if_neg c58] at H
               exact absurd H (by simp)
            ·rw [if_neg c52] at H
             have c52b0 : decide (a1 < ((rd_T42 l0 x9_1).f1)) = false := decide_eq_false c52
             clear c52
             have H' := Aside0.mk H
             clear H
             have p455 : 0 ≤ (x9_1 : Int) := of_decide_eq_true (by first | (with_reducible assumption) | assumption)
             have q455 : x9_1 < (l0.length : Int) := of_decide_eq_true (by first | (with_reducible assumption) | assumption)
             obtain ⟨ad455, e455, hx455_0, hx455_1⟩ := at_T42 HR0.out x9_1 p455 q455
             (try rw [← Nbq50.out] at hx455_0)
             cases e455
             replace hx455_0 := (HB.out.cell (World.block_lt_of_cell? w _ hx455_0)).trans hx455_0
             replace hx455_1 := (HB.out.cell (World.block_lt_of_cell? w _ hx455_1)).trans hx455_1
             replace p455 := eq_true p455
             replace q455 := eq_true q455
             have p456 : 0 ≤ (x9_1 : Int) := of_decide_eq_true (by first | (with_reducible assumption) | assumption)
             have q456 : x9_1 < (l0.length : Int) := of_decide_eq_true (by first | (with_reducible assumption) | assumption)
             obtain ⟨ad456, e456, hx456_0, hx456_1⟩ := at_T42 HR0.out x9_1 p456 q456
             (try rw [← Nbq50.out] at hx456_0)
             obtain rfl : ad455 = ad456 := (by injection e456)
             replace hx456_0 := (HB.out.cell (World.block_lt_of_cell? w _ hx456_0)).trans hx456_0
             replace hx456_1 := (HB.out.cell (World.block_lt_of_cell? w _ hx456_1)).trans hx456_1
             replace p456 := eq_true p456
             replace q456 := eq_true q456
             go_wp2
             go_roundg kj12
             case measure => have := HK1.out; have := HJ12.out; omega
             case rel => exact ⟨(x7_1), (x8_1), (wrap64 (x9_1 + 1)), (by first | rfl | (simp; done) | (simp [*]; done)), H', ⟨by have := HK1.out; have := HJ12.out; omega⟩, ⟨by (with_reducible repeat (first | apply Kd.rA_ | apply Kd.rN_ | apply Kd.rD_)); exact HO_5.out⟩, ⟨by (with_reducible repeat (first | apply Kd.rA_ | apply Kd.rN_ | apply Kd.rD_)); exact HO_6.out⟩, ⟨by (with_reducible repeat (first | apply Kd.rA_ | apply Kd.rN_ | apply Kd.rD_)); exact HO_7.out⟩, ⟨by (with_reducible repeat (first | apply Kd.rA_ | apply Kd.rN_ | apply Kd.rD_)); exact HO_8.out⟩, ⟨by repeat (first | (with_reducible first | exact HB.out | apply pbA_ | apply pbN_ | apply pb1_) | exact HB.out)⟩⟩
           ·replace c51 := Bool.eq_false_iff.mpr c51
            subst c51
            have H1 : (dragnetlaw10_IntsFinds.l0 kj12 l0 a1 t431 t434 x7_1 x8_1 (wrap64 (x9_1 + 1))) = some r := by rw [if_neg (show ¬ (false = true) by decide)] at H; exact H
            clear H
            have H := H1
            clear H1
            have H' := Aside0.mk H
            clear H
            have p455 : 0 ≤ (x9_1 : Int) := of_decide_eq_true (by first | (with_reducible assumption) | assumption)
            have q455 : x9_1 < (l0.length : Int) := of_decide_eq_true (by first | (with_reducible assumption) | assumption)
            obtain ⟨ad455, e455, hx455_0, hx455_1⟩ := at_T42 HR0.out x9_1 p455 q455
            (try rw [← Nbq50.out] at hx455_0)
            cases e455
            replace hx455_0 := (HB.out.cell (World.block_lt_of_cell? w _ hx455_0)).trans hx455_0
            replace hx455_1 := (HB.out.cell (World.block_lt_of_cell? w _ hx455_1)).trans hx455_1
            replace p455 := eq_true p455
            replace q455 := eq_true q455
            go_wp2
            go_roundg kj12
            case measure => have := HK1.out; have := HJ12.out; omega
            case rel => exact ⟨(x7_1), (x8_1), (wrap64 (x9_1 + 1)), (by first | rfl | (simp; done) | (simp [*]; done)), H', ⟨by have := HK1.out; have := HJ12.out; omega⟩, ⟨by (with_reducible repeat (first | apply Kd.rA_ | apply Kd.rN_ | apply Kd.rD_)); exact HO_5.out⟩, ⟨by (with_reducible repeat (first | apply Kd.rA_ | apply Kd.rN_ | apply Kd.rD_)); exact HO_6.out⟩, ⟨by (with_reducible repeat (first | apply Kd.rA_ | apply Kd.rN_ | apply Kd.rD_)); exact HO_7.out⟩, ⟨by (with_reducible repeat (first | apply Kd.rA_ | apply Kd.rN_ | apply Kd.rD_)); exact HO_8.out⟩, ⟨by repeat (first | (with_reducible first | exact HB.out | apply pbA_ | apply pbN_ | apply pb1_) | exact HB.out)⟩⟩
          ·rw [if_neg c49] at H
           exact absurd H (by simp)
         ·rw [if_neg c48] at H
          exact absurd H (by simp)
     ·rw [if_neg c12] at H
      have c12b0 : decide (x9_1 < (l0.length : Int)) = false := decide_eq_false c12
      clear c12
      replace H := Option.bind_eq_some_iff.mp H
      obtain ⟨t438, A650, H⟩ := H
      replace H : (if t438 = true then ((dragnetref09_Ints.f k1 t434 x8_1).bind fun t439 => (some t439)) else (some false)) = some r := H
      have A65 := Aside0.mk A650
      clear A650
      by_cases c66 : t438 = true
      ·subst c66
       have H1 : ((dragnetref09_Ints.f k1 t434 x8_1).bind fun t439 => (some t439)) = some r := by rw [if_pos rfl] at H; exact H
       clear H
       have H := H1
       clear H1
       replace H := Option.bind_eq_some_iff.mp H
       obtain ⟨t439, A670, H⟩ := H
       replace H : (some t439) = some r := H
       have A67 := Aside0.mk A670
       clear A670
       obtain rfl := Option.some.inj H
       obtain ⟨Ao68, co68, eo68⟩ := Kd.R_slice HO_5.out
       subst eo68
       obtain ⟨Ao69, co69, eo69⟩ := Kd.R_slice HO_7.out
       subst eo69
       go_wp2_with (first | ((with_reducible refine gaC_ (f := 22) rfl ?_); refine goesL_ (some 104) rfl rfl Try.func22 (by kernel_rfl) rfl #[.slice Ao68 t431.length co68, .slice Ao69 x7_1.length co69] rfl (by (try simp only [List.map_toArray, List.map_cons, List.map_nil]); first | done | rfl | (simp only [List.length_drop, List.length_take]; rfl)) ?_; (with_reducible refine (dragnetref09_Ints.calls k1 _ _ t431 _ _ x7_1 true _ ?side1 ?side2 ?side3 ?side4 A65.out).mono ?_); (case side1 => repeat (first | exact (Kd.R_reads' HO_5.out).2.2 | (with_reducible refine Kd.cA_ ?_ _) | (with_reducible refine Kd.cN_ ?_ _) | (with_reducible refine Kd.cD_ ?_))); (case side2 => exact (Kd.R_reads' HO_5.out).2.1); (case side3 => repeat (first | exact (Kd.R_reads' HO_7.out).2.2 | (with_reducible refine Kd.cA_ ?_ _) | (with_reducible refine Kd.cN_ ?_ _) | (with_reducible refine Kd.cD_ ?_))); (case side4 => exact (Kd.R_reads' HO_7.out).2.1); rintro e w' ⟨rfl, ⟨nd, rfl⟩⟩; refine ⟨_, rfl, ?_⟩; obtain ⟨Ao70, co70, eo70⟩ := Kd.R_slice HO_6.out; subst eo70; obtain ⟨Ao71, co71, eo71⟩ := Kd.R_slice HO_8.out; subst eo71) | (go_at_call 22; (with_reducible refine (dragnetref09_Ints.calls k1 _ _ t434 _ _ x8_1 t439 _ ?side1 ?side2 ?side3 ?side4 A67.out).mono ?_); (case side1 => repeat (first | exact (Kd.R_reads' HO_6.out).2.2 | (with_reducible refine Kd.cA_ ?_ _) | (with_reducible refine Kd.cN_ ?_ _) | (with_reducible refine Kd.cD_ ?_))); (case side2 => exact (Kd.R_reads' HO_6.out).2.1); (case side3 => repeat (first | exact (Kd.R_reads' HO_8.out).2.2 | (with_reducible refine Kd.cA_ ?_ _) | (with_reducible refine Kd.cN_ ?_ _) | (with_reducible refine Kd.cD_ ?_))); (case side4 => exact (Kd.R_reads' HO_8.out).2.1); rintro e w' ⟨rfl, ⟨nd, rfl⟩⟩))
       go_ret
       exact ⟨by first | rfl | (simp [eWn_, eWs_] <;> rfl) | (simp [*, eWn_, eWs_] <;> rfl), by repeat (first | (with_reducible first | exact HB.out | apply pbA_ | apply pbN_ | apply pb1_) | exact HB.out)⟩
      ·replace c66 := Bool.eq_false_iff.mpr c66
       subst c66
       have H1 : (some false) = some r := by rw [if_neg (show ¬ (false = true) by decide)] at H; exact H
       clear H
       have H := H1
       clear H1
       obtain rfl := Option.some.inj H
       obtain ⟨Ao72, co72, eo72⟩ := Kd.R_slice HO_5.out
       subst eo72
       obtain ⟨Ao73, co73, eo73⟩ := Kd.R_slice HO_7.out
       subst eo73
       go_wp2_with (first | ((with_reducible refine gaC_ (f := 22) rfl ?_); refine goesL_ (some 104) rfl rfl Try.func22 (by kernel_rfl) rfl #[.slice Ao72 t431.length co72, .slice Ao73 x7_1.length co73] rfl (by (try simp only [List.map_toArray, List.map_cons, List.map_nil]); first | done | rfl | (simp only [List.length_drop, List.length_take]; rfl)) ?_; (with_reducible refine (dragnetref09_Ints.calls k1 _ _ t431 _ _ x7_1 false _ ?side1 ?side2 ?side3 ?side4 A65.out).mono ?_); (case side1 => repeat (first | exact (Kd.R_reads' HO_5.out).2.2 | (with_reducible refine Kd.cA_ ?_ _) | (with_reducible refine Kd.cN_ ?_ _) | (with_reducible refine Kd.cD_ ?_))); (case side2 => exact (Kd.R_reads' HO_5.out).2.1); (case side3 => repeat (first | exact (Kd.R_reads' HO_7.out).2.2 | (with_reducible refine Kd.cA_ ?_ _) | (with_reducible refine Kd.cN_ ?_ _) | (with_reducible refine Kd.cD_ ?_))); (case side4 => exact (Kd.R_reads' HO_7.out).2.1); rintro e w' ⟨rfl, ⟨nd, rfl⟩⟩; refine ⟨_, rfl, ?_⟩))
       go_ret
       exact ⟨by first | rfl | (simp [eWn_, eWs_] <;> rfl) | (simp [*, eWn_, eWs_] <;> rfl), by repeat (first | (with_reducible first | exact HB.out | apply pbA_ | apply pbN_ | apply pb1_) | exact HB.out)⟩
  ·replace c8 := Bool.eq_false_iff.mpr c8
   subst c8
   have H1 : (some ((wrap64 ((t431.length : Int) + (t434.length : Int))) == 0)) = some r := by rw [if_neg (show ¬ (false = true) by decide)] at H; exact H
   clear H
   have H := H1
   clear H1
   obtain rfl := Option.some.inj H
   go_enter Try.func5, Try.ntmps5
   go_wp2_with (first | ((with_reducible refine gaC_ (f := 9) rfl ?_); refine goesL_ (some 11) rfl rfl Try.func9 (by kernel_rfl) rfl #[] rfl (by (try simp only [List.map_toArray, List.map_cons, List.map_nil]); first | done | rfl | (simp only [List.length_drop, List.length_take]; rfl)) ?_; (with_reducible refine (dragnetlaw10_alive.calls k  true _ A3.out).mono ?_); rintro e w74 ⟨rfl, hb⟩; refine ⟨_, rfl, ?_⟩; have n0_ := Aside0.mk (below_step (by repeat (first | (with_reducible first | exact HB.out | apply pbA_ | apply pbN_ | apply pb1_) | exact HB.out)) hb); clear HB; have HB := n0_; clear n0_; (try clear hb); (try clear hb2); (try clear hk); (try clear hi)) | ((with_reducible refine gaC_ (f := 20) rfl ?_); refine goesL_ (some 15) rfl rfl Try.func20 (by kernel_rfl) rfl #[.slice A0 l0.length c0, .int .i64 a1] rfl (by (try simp only [List.map_toArray, List.map_cons, List.map_nil]); first | done | rfl | (simp only [List.length_drop, List.length_take]; rfl)) ?_; (with_reducible refine (ints_Below.calls k _ _ l0 a1 t431 _ ?side1 ?side2 A5.out).mono ?_); (case side1 => repeat (first | exact (Kd.C_below HR0.out HB.out) | (with_reducible refine Kd.cA_ ?_ _) | (with_reducible refine Kd.cN_ ?_ _) | (with_reducible refine Kd.cD_ ?_))); (case side2 => exact HC0.out); rintro e w75 ⟨v432, rfl, ho0, hb⟩; refine ⟨_, rfl, ?_⟩; have n0_ := Aside0.mk (Kd.R_lower ho0 (pbS_ (by repeat (first | (with_reducible first | exact HB.out | apply pbA_ | apply pbN_ | apply pb1_) | exact HB.out)))); have n1_ := Aside0.mk (below_step (by repeat (first | (with_reducible first | exact HB.out | apply pbA_ | apply pbN_ | apply pb1_) | exact HB.out)) hb); clear HB; have HO433 := n0_; have HB := n1_; clear n0_ n1_; (try clear hb); (try clear hb2); (try clear hk); (try clear hi); (try clear ho0)) | ((with_reducible refine gaC_ (f := 21) rfl ?_); refine goesL_ (some 18) rfl rfl Try.func21 (by kernel_rfl) rfl #[.slice A0 l0.length c0, .int .i64 a1] rfl (by (try simp only [List.map_toArray, List.map_cons, List.map_nil]); first | done | rfl | (simp only [List.length_drop, List.length_take]; rfl)) ?_; (with_reducible refine (ints_Above.calls k _ _ l0 a1 t434 _ ?side1 ?side2 A6.out).mono ?_); (case side1 => repeat (first | exact (Kd.C_below HR0.out HB.out) | (with_reducible refine Kd.cA_ ?_ _) | (with_reducible refine Kd.cN_ ?_ _) | (with_reducible refine Kd.cD_ ?_))); (case side2 => exact HC0.out); rintro e w76 ⟨v435, rfl, ho0, hb⟩; refine ⟨_, rfl, ?_⟩; have n0_ := Aside0.mk (Kd.R_elder' (by (with_reducible repeat (first | apply Kd.rA_ | apply Kd.rN_ | apply Kd.rD_)); exact HO433.out) (Kd.R_base ho0) hb); have n1_ := Aside0.mk (Kd.R_lower (Kd.R_new' ho0 (Kd.R_lt (by (with_reducible repeat (first | apply Kd.rA_ | apply Kd.rN_ | apply Kd.rD_)); exact HO433.out))) (pbS_ (by repeat (first | (with_reducible first | exact HB.out | apply pbA_ | apply pbN_ | apply pb1_) | exact HB.out)))); have n2_ := Aside0.mk (below_step (by repeat (first | (with_reducible first | exact HB.out | apply pbA_ | apply pbN_ | apply pb1_) | exact HB.out)) hb); clear HO433; clear HB; have HO433 := n0_; have HO436 := n1_; have HB := n2_; clear n0_ n1_ n2_; (try clear hb); (try clear hb2); (try clear hk); (try clear hi); (try clear ho0)) | ((with_reducible refine gaC_ (f := 16) rfl ?_); refine goesL_ (some 20) rfl rfl Try.func16 (by kernel_rfl) rfl #[.slice A0 l0.length c0] rfl (by (try simp only [List.map_toArray, List.map_cons, List.map_nil]); first | done | rfl | (simp only [List.length_drop, List.length_take]; rfl)) ?_; (with_reducible refine (dragnetref10_Formed.calls k _ _ l0 false _ ?side1 ?side2 A7.out).mono ?_); (case side1 => repeat (first | exact (Kd.C_below HR0.out HB.out) | (with_reducible refine Kd.cA_ ?_ _) | (with_reducible refine Kd.cN_ ?_ _) | (with_reducible refine Kd.cD_ ?_))); (case side2 => exact HC0.out); rintro e w' ⟨rfl, ⟨nd, rfl⟩⟩; refine ⟨_, rfl, ?_⟩; obtain ⟨Ao77, co77, eo77⟩ := Kd.R_slice HO433.out; subst eo77; obtain ⟨Ao78, co78, eo78⟩ := Kd.R_slice HO436.out; subst eo78))
   go_ret
   exact ⟨by first | rfl | (simp [eWn_, eWs_] <;> rfl) | (simp [*, eWn_, eWs_] <;> rfl), by repeat (first | (with_reducible first | exact HB.out | apply pbA_ | apply pbN_ | apply pb1_) | exact HB.out)⟩
 ·replace c4 := Bool.eq_false_iff.mpr c4
  subst c4
  have H1 : (some false) = some r := by rw [if_neg (show ¬ (false = true) by decide)] at H; exact H
  clear H
  have H := H1
  clear H1
  obtain rfl := Option.some.inj H
  go_enter Try.func5, Try.ntmps5
  go_wp2_with (first | ((with_reducible refine gaC_ (f := 9) rfl ?_); refine goesL_ (some 11) rfl rfl Try.func9 (by kernel_rfl) rfl #[] rfl (by (try simp only [List.map_toArray, List.map_cons, List.map_nil]); first | done | rfl | (simp only [List.length_drop, List.length_take]; rfl)) ?_; (with_reducible refine (dragnetlaw10_alive.calls k  false _ A3.out).mono ?_); rintro e w79 ⟨rfl, hb⟩; refine ⟨_, rfl, ?_⟩; have n0_ := Aside0.mk (below_step (by repeat (first | (with_reducible first | exact HB.out | apply pbA_ | apply pbN_ | apply pb1_) | exact HB.out)) hb); clear HB; have HB := n0_; clear n0_; (try clear hb); (try clear hb2); (try clear hk); (try clear hi)))
  go_ret
  exact ⟨by first | rfl | (simp [eWn_, eWs_] <;> rfl) | (simp [*, eWn_, eWs_] <;> rfl), by repeat (first | (with_reducible first | exact HB.out | apply pbA_ | apply pbN_ | apply pb1_) | exact HB.out)⟩
end Go.Proofs.Ytcjkmmajokkkfaa.P
end
section
namespace Go.Proofs.Ytcjkmmajokkkfaa.P
open Go.RowKit Go.Proofs.YtcjkmmajokkkfaaW.PrintWords Go.Proofs.YtcjkmmajokkkfaaW.PrintLast Go.Proofs.YtcjkmmajokkkfaaW.PrintMore
attribute [local go_sem] max2_int min2_int max_two min_two max_three min_three max_four min_four
set_option linter.unusedVariables false
set_option linter.unusedSimpArgs false
end Go.Proofs.Ytcjkmmajokkkfaa.P
end
section
namespace Go.Proofs.Ytcjkmmajokkkfaa.P
open Go.RowKit Go.Proofs.YtcjkmmajokkkfaaW.PrintWords Go.Proofs.YtcjkmmajokkkfaaW.PrintLast Go.Proofs.YtcjkmmajokkkfaaW.PrintMore
attribute [local go_sem] max2_int min2_int max_two min_two max_three min_three max_four min_four
set_option linter.unusedVariables false
set_option linter.unusedSimpArgs false
end Go.Proofs.Ytcjkmmajokkkfaa.P
end
section
namespace Go.Proofs.Ytcjkmmajokkkfaa.P
open Go.RowKit Go.Proofs.YtcjkmmajokkkfaaW.PrintWords Go.Proofs.YtcjkmmajokkkfaaW.PrintLast Go.Proofs.YtcjkmmajokkkfaaW.PrintMore
attribute [local go_sem] max2_int min2_int max_two min_two max_three min_three max_four min_four
set_option linter.unusedVariables false
set_option linter.unusedSimpArgs false
end Go.Proofs.Ytcjkmmajokkkfaa.P
end
section
namespace Go.Proofs.Ytcjkmmajokkkfaa.P
open Go.RowKit Go.Proofs.YtcjkmmajokkkfaaW.PrintWords Go.Proofs.YtcjkmmajokkkfaaW.PrintLast Go.Proofs.YtcjkmmajokkkfaaW.PrintMore
attribute [local go_sem] max2_int min2_int max_two min_two max_three min_three max_four min_four
set_option linter.unusedVariables false
set_option linter.unusedSimpArgs false
end Go.Proofs.Ytcjkmmajokkkfaa.P
end
section
namespace Go.Proofs.Ytcjkmmajokkkfaa.P
open Go.RowKit Go.Proofs.YtcjkmmajokkkfaaW.PrintWords Go.Proofs.YtcjkmmajokkkfaaW.PrintLast Go.Proofs.YtcjkmmajokkkfaaW.PrintMore
attribute [local go_sem] max2_int min2_int max_two min_two max_three min_three max_four min_four
set_option linter.unusedVariables false
set_option linter.unusedSimpArgs false
end Go.Proofs.Ytcjkmmajokkkfaa.P
end
section
namespace Go.Proofs.Ytcjkmmajokkkfaa.P
open Go.RowKit Go.Proofs.YtcjkmmajokkkfaaW.PrintWords Go.Proofs.YtcjkmmajokkkfaaW.PrintLast Go.Proofs.YtcjkmmajokkkfaaW.PrintMore
attribute [local go_sem] max2_int min2_int max_two min_two max_three min_three max_four min_four
set_option linter.unusedVariables false
set_option linter.unusedSimpArgs false
end Go.Proofs.Ytcjkmmajokkkfaa.P
end
section
namespace Go.Proofs.Ytcjkmmajokkkfaa.P
open Go.RowKit Go.Proofs.YtcjkmmajokkkfaaW.PrintWords Go.Proofs.YtcjkmmajokkkfaaW.PrintLast Go.Proofs.YtcjkmmajokkkfaaW.PrintMore
attribute [local go_sem] max2_int min2_int max_two min_two max_three min_three max_four min_four
set_option linter.unusedVariables false
set_option linter.unusedSimpArgs false
end Go.Proofs.Ytcjkmmajokkkfaa.P
end
section
namespace Go.Proofs.Ytcjkmmajokkkfaa.P
open Go.RowKit Go.Proofs.YtcjkmmajokkkfaaW.PrintWords Go.Proofs.YtcjkmmajokkkfaaW.PrintLast Go.Proofs.YtcjkmmajokkkfaaW.PrintMore
attribute [local go_sem] max2_int min2_int max_two min_two max_three min_three max_four min_four
set_option linter.unusedVariables false
set_option linter.unusedSimpArgs false
end Go.Proofs.Ytcjkmmajokkkfaa.P
end
section
namespace Go.Proofs.Ytcjkmmajokkkfaa.P
open Go.RowKit Go.Proofs.YtcjkmmajokkkfaaW.PrintWords Go.Proofs.YtcjkmmajokkkfaaW.PrintLast Go.Proofs.YtcjkmmajokkkfaaW.PrintMore
attribute [local go_sem] max2_int min2_int max_two min_two max_three min_three max_four min_four
set_option linter.unusedVariables false
set_option linter.unusedSimpArgs false
end Go.Proofs.Ytcjkmmajokkkfaa.P
end
