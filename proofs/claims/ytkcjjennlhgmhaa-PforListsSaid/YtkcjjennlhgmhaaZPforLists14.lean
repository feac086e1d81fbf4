/- Words and proofs that PforLists leans on; put together by wip/tools/shake.py. -/
import Derived.Test.YtkcjjennlhgmhaaZPforLists11
import Derived.Test.YtkcjjennlhgmhaaZPforLists12
import Derived.Test.YtkcjjennlhgmhaaZPforLists13
import Derived.ArgAppend
import Derived.Below
import Derived.BigQuiet
import Derived.Deep.AppendLies
import Derived.Deep.CutBlock
import Derived.Deep.DeepCutAuto
import Derived.Deep.Draws
import Derived.Deep.LoopGhost
import Derived.Deep.OwnRows
import Derived.Deep.QuietTactic
import Derived.Deep.RegionHeld3
import Derived.KernelRfl
import Derived.Laws.BitsLemmas
import Derived.Laws.BytesArg
import Derived.Laws.Cover1
import Derived.Laws.IdiomCopy
import Derived.Laws.MakeOwn
import Derived.Laws.OwnMore
import Derived.Laws.Rows
import Derived.Laws.Slices
import Derived.Laws.StructEq
import Derived.Lib.AppendStr
import Derived.Lib.BitFns
import Derived.Lib.ConvBytes
import Derived.Lib.Slices
import Derived.Lib.Small
import Derived.Lib.Strings
import Derived.Lib.Walk
import Derived.LoopIn
import Derived.LoopNIn
import Derived.Maps.AppendAt
import Derived.OrdersHeld
import Derived.OwnWalk
import Derived.OwnWalkIn
import Derived.RangeFuncBound
import Derived.RangeFuncBox
import Derived.RangeFuncCalls
import Derived.RangeFuncFrom
import Derived.RangeFuncLeaves
import Derived.RangeFuncNested
import Derived.RowKit
import Derived.RowKit3
import Derived.ScopeJumps
import Derived.Shelf.Abstract
import Derived.Sort.QuietIn
import Derived.Tactics
import Derived.TacticsInMore
import Derived.Test.YtkcjjennlhgmhaaChecked
import Derived.Test.YtkcjjennlhgmhaaProg
import Derived.WalkKit
import Derived.WalkMore
import Derived.WalkSpells
import Derived.WideLaws
section
namespace Go.Proofs.Ytkcjjennlhgmhaa.P
open Go.RowKit Go.Proofs.YtkcjjennlhgmhaaW.PrintWords Go.Proofs.YtkcjjennlhgmhaaW.PrintLast Go.Proofs.YtkcjjennlhgmhaaW.PrintMore
attribute [local go_sem] max2_int min2_int max_two min_two max_three min_three max_four min_four
set_option linter.unusedVariables false
set_option linter.unusedSimpArgs false
mutual
def dragnetref03_Unpack.j0 : Nat → List Int → Int → Int → Bool → Option (List Int × Int)
 | 0, _, _, _, _ => none
 | k + 1, x0, x1, x2, x26 => if x26 = true then (some (([] : List Int), 1)) else ((dragnetref03_Size.f x1 x2).bind fun t376 => (if (x0.length : Int) < t376 then (some (([] : List Int), 3)) else ((dragnetref03_Size.f x1 x2).bind fun t377 => (if (x0.length : Int) > t377 then (some (([] : List Int), 2)) else (dragnetref03_Unpack.l0 k x0 x1 x2 ([] : List Int) 0)))))
def dragnetref03_Unpack.l0 : Nat → List Int → Int → Int → List Int → Int → Option (List Int × Int)
 | 0, _, _, _, _, _ => none
 | k + 1, x0, x1, x2, x8, x9 => if x9 < x1 then (dragnetref03_Unpack.l1 k x0 x1 x2 x8 x9 0 0) else (dragnetref03_Unpack.l2 k x0 x8 (wrap64 (x1 * x2)))
def dragnetref03_Unpack.l1 : Nat → List Int → Int → Int → List Int → Int → Int → Int → Option (List Int × Int)
 | 0, _, _, _, _, _, _, _ => none
 | k + 1, x0, x1, x2, x8, x9, x10, x11 => if x11 < x2 then (if 0 ≤ (wrap64 (Int.tdiv (wrap64 ((wrap64 (x9 * x2)) + x11)) 8)) then (if (wrap64 (Int.tdiv (wrap64 ((wrap64 (x9 * x2)) + x11)) 8)) < (x0.length : Int) then (if 0 ≤ (Int.tmod (wrap64 ((wrap64 (x9 * x2)) + x11)) 8) then (if (Int.tmod (shr .u8 (rd x0 (wrap64 (Int.tdiv (wrap64 ((wrap64 (x9 * x2)) + x11)) 8))) (Int.tmod (wrap64 ((wrap64 (x9 * x2)) + x11)) 8)) 2) = 1 then (if 0 ≤ x11 then (dragnetref03_Unpack.l1 k x0 x1 x2 x8 x9 (IntKind.u64.wrap (x10 + (shl .u64 1 x11))) (wrap64 (x11 + 1))) else (none)) else (dragnetref03_Unpack.l1 k x0 x1 x2 x8 x9 x10 (wrap64 (x11 + 1)))) else (none)) else (none)) else (none)) else (if x8.length < 17592186044416 then (dragnetref03_Unpack.l0 k x0 x1 x2 (x8 ++ [x10]) (wrap64 (x9 + 1))) else (none))
def dragnetref03_Unpack.l2 : Nat → List Int → List Int → Int → Option (List Int × Int)
 | 0, _, _, _ => none
 | k + 1, x0, x8, x12 => if x12 < (wrap64 (8 * (x0.length : Int))) then (if 0 ≤ (wrap64 (Int.tdiv x12 8)) then (if (wrap64 (Int.tdiv x12 8)) < (x0.length : Int) then (if 0 ≤ (Int.tmod x12 8) then (if (Int.tmod (shr .u8 (rd x0 (wrap64 (Int.tdiv x12 8))) (Int.tmod x12 8)) 2) = 1 then (some (([] : List Int), 2)) else (dragnetref03_Unpack.l2 k x0 x8 (wrap64 (x12 + 1)))) else (none)) else (none)) else (none)) else (some (x8, 0))
end
def dragnetref03_Unpack.f (k : Nat) (l0 : List Int) (a1 : Int) (a2 : Int) : Option (List Int × Int) := if a2 < 0 then (dragnetref03_Unpack.j0 k l0 a1 a2 true) else (if a2 > 64 then (dragnetref03_Unpack.j0 k l0 a1 a2 true) else (if a1 < 0 then (dragnetref03_Unpack.j0 k l0 a1 a2 true) else (dragnetref03_Unpack.j0 k l0 a1 a2 (decide (a1 > 4096)))))
theorem dragnetref03_Unpack.mono_l : ∀ k, (∀ y0 y1 y2 y3, LeO (dragnetref03_Unpack.j0 k y0 y1 y2 y3) (dragnetref03_Unpack.j0 (k + 1) y0 y1 y2 y3)) ∧ (∀ y0 y1 y2 y3 y4, LeO (dragnetref03_Unpack.l0 k y0 y1 y2 y3 y4) (dragnetref03_Unpack.l0 (k + 1) y0 y1 y2 y3 y4)) ∧ (∀ y0 y1 y2 y3 y4 y5 y6, LeO (dragnetref03_Unpack.l1 k y0 y1 y2 y3 y4 y5 y6) (dragnetref03_Unpack.l1 (k + 1) y0 y1 y2 y3 y4 y5 y6)) ∧ (∀ y0 y1 y2, LeO (dragnetref03_Unpack.l2 k y0 y1 y2) (dragnetref03_Unpack.l2 (k + 1) y0 y1 y2))
 | 0 => ⟨fun _ _ _ _ r h => by simp [dragnetref03_Unpack.j0] at h, fun _ _ _ _ _ r h => by simp [dragnetref03_Unpack.l0] at h, fun _ _ _ _ _ _ _ r h => by simp [dragnetref03_Unpack.l1] at h, fun _ _ _ r h => by simp [dragnetref03_Unpack.l2] at h⟩
 | k + 1 => by
  obtain ⟨ih0, ih1, ih2, ih3⟩ := dragnetref03_Unpack.mono_l k
  refine ⟨?_, ?_, ?_, ?_⟩
  ·intro y0 y1 y2 y3
   unfold dragnetref03_Unpack.j0
   repeat' first
   | (with_reducible exact ih0 _ _ _ _)
   | (with_reducible exact ih1 _ _ _ _ _)
   | (with_reducible exact ih2 _ _ _ _ _ _ _)
   | (with_reducible exact ih3 _ _ _)
   | (with_reducible exact LeO.refl _)
   | (with_reducible exact LeO.none _)
   | (with_reducible refine LeO.ite ?_ ?_)
   | (with_reducible refine LeO.bind ?_ (fun _ => ?_))
   | exact ih0 _ _ _ _
   | exact ih1 _ _ _ _ _
   | exact ih2 _ _ _ _ _ _ _
   | exact ih3 _ _ _
   | exact LeO.none _
   | refine LeO.ite ?_ ?_
   | refine LeO.bind ?_ (fun _ => ?_)
  ·intro y0 y1 y2 y3 y4
   unfold dragnetref03_Unpack.l0
   repeat' first
   | (with_reducible exact ih0 _ _ _ _)
   | (with_reducible exact ih1 _ _ _ _ _)
   | (with_reducible exact ih2 _ _ _ _ _ _ _)
   | (with_reducible exact ih3 _ _ _)
   | (with_reducible exact LeO.refl _)
   | (with_reducible exact LeO.none _)
   | (with_reducible refine LeO.ite ?_ ?_)
   | (with_reducible refine LeO.bind ?_ (fun _ => ?_))
   | exact ih0 _ _ _ _
   | exact ih1 _ _ _ _ _
   | exact ih2 _ _ _ _ _ _ _
   | exact ih3 _ _ _
   | exact LeO.none _
   | refine LeO.ite ?_ ?_
   | refine LeO.bind ?_ (fun _ => ?_)
  ·intro y0 y1 y2 y3 y4 y5 y6
   unfold dragnetref03_Unpack.l1
   repeat' first
   | (with_reducible exact ih0 _ _ _ _)
   | (with_reducible exact ih1 _ _ _ _ _)
   | (with_reducible exact ih2 _ _ _ _ _ _ _)
   | (with_reducible exact ih3 _ _ _)
   | (with_reducible exact LeO.refl _)
   | (with_reducible exact LeO.none _)
   | (with_reducible refine LeO.ite ?_ ?_)
   | (with_reducible refine LeO.bind ?_ (fun _ => ?_))
   | exact ih0 _ _ _ _
   | exact ih1 _ _ _ _ _
   | exact ih2 _ _ _ _ _ _ _
   | exact ih3 _ _ _
   | exact LeO.none _
   | refine LeO.ite ?_ ?_
   | refine LeO.bind ?_ (fun _ => ?_)
  ·intro y0 y1 y2
   unfold dragnetref03_Unpack.l2
   repeat' first
   | (with_reducible exact ih0 _ _ _ _)
   | (with_reducible exact ih1 _ _ _ _ _)
   | (with_reducible exact ih2 _ _ _ _ _ _ _)
   | (with_reducible exact ih3 _ _ _)
   | (with_reducible exact LeO.refl _)
   | (with_reducible exact LeO.none _)
   | (with_reducible refine LeO.ite ?_ ?_)
   | (with_reducible refine LeO.bind ?_ (fun _ => ?_))
   | exact ih0 _ _ _ _
   | exact ih1 _ _ _ _ _
   | exact ih2 _ _ _ _ _ _ _
   | exact ih3 _ _ _
   | exact LeO.none _
   | refine LeO.ite ?_ ?_
   | refine LeO.bind ?_ (fun _ => ?_)
theorem dragnetref03_Unpack.mono : ∀ a0 a1 a2 k, LeO (dragnetref03_Unpack.f k a0 a1 a2) (dragnetref03_Unpack.f (k + 1) a0 a1 a2) := by
 intro a0 a1 a2 k
 obtain ⟨ih0, ih1, ih2, ih3⟩ := dragnetref03_Unpack.mono_l k
 unfold dragnetref03_Unpack.f
 repeat' first
   | (with_reducible exact ih0 _ _ _ _)
   | (with_reducible exact ih1 _ _ _ _ _)
   | (with_reducible exact ih2 _ _ _ _ _ _ _)
   | (with_reducible exact ih3 _ _ _)
   | (with_reducible exact LeO.refl _)
   | (with_reducible exact LeO.none _)
   | (with_reducible refine LeO.ite ?_ ?_)
   | (with_reducible refine LeO.bind ?_ (fun _ => ?_))
   | exact ih0 _ _ _ _
   | exact ih1 _ _ _ _ _
   | exact ih2 _ _ _ _ _ _ _
   | exact ih3 _ _ _
   | exact LeO.none _
   | refine LeO.ite ?_ ?_
   | refine LeO.bind ?_ (fun _ => ?_)
set_option maxHeartbeats 8000000 in
set_option maxRecDepth 100000 in
theorem dragnetref03_Unpack.calls (k : Nat) (A0 : Option Addr) (c0 : Nat) (l0 : List Int) (a1 : Int) (a2 : Int) (r1 : List Int) (r2 : Int) (w : World) (hr0 : Kd.C (Kd.int .u8) w A0 l0.length l0) (hc0 : l0.length ≤ c0) (h : dragnetref03_Unpack.f k l0 a1 a2 = some (r1, r2)) :
  Calls Try.prog 40 #[.slice A0 l0.length c0, .int .i64 a1, .int .i64 a2] w fun e w' => ∃ v0_ : Value, e = .returned (.tuple #[v0_, .int .i64 r2]) ∧ Kd.R (Kd.int .u64) 50 w' w.heap.size (fun _ => True) v0_ r1 ∧ Below w.heap.size w w' := by
 have HR0 := Aside0.mk hr0
 have HC0 := Aside0.mk hc0
 clear hr0 hc0
 have HB := Aside0.mk (Below.refl w.heap.size w)
 have H : (if a2 < 0 then (dragnetref03_Unpack.j0 k l0 a1 a2 true) else (if a2 > 64 then (dragnetref03_Unpack.j0 k l0 a1 a2 true) else (if a1 < 0 then (dragnetref03_Unpack.j0 k l0 a1 a2 true) else (dragnetref03_Unpack.j0 k l0 a1 a2 (decide (a1 > 4096)))))) = some (r1, r2) := h
 clear h
 have HC4 := Aside0.mk H
 clear H
 go_enter Try.func40, Try.ntmps40
 go_upto_region 1 with (fail)
 go_cut [26] (fun v26 wc => ∃ (kq : Nat) (x26_3 : Bool), v26 = .bool x26_3 ∧ Aside0 (dragnetref03_Unpack.j0 kq l0 a1 a2 x26_3 = some (r1, r2)) ∧ Aside0 (kq ≤ k) ∧ Aside0 (Below w.heap.size w wc))
 case first =>
  have H := HC4.out
  clear HC4
  by_cases c5 : a2 < 0
  ·rw [if_pos c5] at H
   have c5b0 : decide (a2 < 0) = true := decide_eq_true c5
   clear c5
   (first | rw [c5b0] | (simp only [i64_w, i32_w]; rw [c5b0]) | skip)
   have H' := Aside0.mk H
   clear H
   go_wp2
   go_meet
   case rel => exact ⟨_, (true), (by first | rfl | (simp; done) | (simp [*]; done)), H', ⟨by first | omega | exact Nat.le_refl _⟩, ⟨by repeat (first | (with_reducible first | exact HB.out | apply pbA_ | apply pbN_ | apply pb1_) | exact HB.out)⟩⟩
  ·rw [if_neg c5] at H
   have c5b0 : decide (a2 < 0) = false := decide_eq_false c5
   clear c5
   (first | rw [c5b0] | (simp only [i64_w, i32_w]; rw [c5b0]) | skip)
   by_cases c6 : a2 > 64
   ·rw [if_pos c6] at H
    have c6b0 : decide (64 < a2) = true := decide_eq_true c6
    clear c6
    have H' := Aside0.mk H
    clear H
    go_wp2
    go_meet
    case rel => exact ⟨_, (true), (by first | rfl | (simp; done) | (simp [*]; done)), H', ⟨by first | omega | exact Nat.le_refl _⟩, ⟨by repeat (first | (with_reducible first | exact HB.out | apply pbA_ | apply pbN_ | apply pb1_) | exact HB.out)⟩⟩
   ·rw [if_neg c6] at H
    have c6b0 : decide (64 < a2) = false := decide_eq_false c6
    clear c6
    by_cases c7 : a1 < 0
    ·rw [if_pos c7] at H
     have c7b0 : decide (a1 < 0) = true := decide_eq_true c7
     clear c7
     have H' := Aside0.mk H
     clear H
     go_wp2
     go_meet
     case rel => exact ⟨_, (true), (by first | rfl | (simp; done) | (simp [*]; done)), H', ⟨by first | omega | exact Nat.le_refl _⟩, ⟨by repeat (first | (with_reducible first | exact HB.out | apply pbA_ | apply pbN_ | apply pb1_) | exact HB.out)⟩⟩
    ·rw [if_neg c7] at H
     have c7b0 : decide (a1 < 0) = false := decide_eq_false c7
     clear c7
     have H' := Aside0.mk H
     clear H
     go_wp2
     go_meet
     case rel => exact ⟨_, (decide (a1 > 4096)), (by first | rfl | (simp; done) | (simp [*]; done)), H', ⟨by first | omega | exact Nat.le_refl _⟩, ⟨by repeat (first | (with_reducible first | exact HB.out | apply pbA_ | apply pbN_ | apply pb1_) | exact HB.out)⟩⟩
 case rest =>
  clear HC4
  try clear p2
  try clear c4
  try clear c5
  try clear c5b0
  try clear c6
  try clear c6b0
  try clear c7
  try clear c7b0
  obtain ⟨kq, x26_3, rfl, HA, HJ3, HB⟩ := hcut
  cases kq with
  | zero => exact absurd HA.out (by simp [dragnetref03_Unpack.j0])
  | succ kj3 =>
   have H := HA.out
   clear HA
   simp only [dragnetref03_Unpack.j0] at H
   by_cases c8 : x26_3 = true
   ·subst c8
    have H1 : (some (([] : List Int), 1)) = some (r1, r2) := by rw [if_pos rfl] at H; exact H
    clear H
    have H := H1
    clear H1
    simp only [Option.some.injEq, Prod.mk.injEq] at H
    obtain ⟨rfl, rfl⟩ := H
    go_wp2
    go_ret2
    exact ⟨_, by first | rfl | (simp [eWn_, eWs_] <;> rfl) | (simp [*, eWn_, eWs_] <;> rfl), by first | exact Kd.R_nil _ _ _ _ _ | exact Kd.N_nil _ _ _ _ _ | exact Kd.V_nil _ _ _ _ _ | exact Kd.Q_nil _ _ _ _ _ | exact Kd.S_nil _ _ _ _ _, by repeat (first | (with_reducible first | exact HB.out | apply pbA_ | apply pbN_ | apply pb1_) | exact HB.out)⟩
   ·replace c8 := Bool.eq_false_iff.mpr c8
    subst c8
    have H1 : ((dragnetref03_Size.f a1 a2).bind fun t376 => (if (l0.length : Int) < t376 then (some (([] : List Int), 3)) else ((dragnetref03_Size.f a1 a2).bind fun t377 => (if (l0.length : Int) > t377 then (some (([] : List Int), 2)) else (dragnetref03_Unpack.l0 kj3 l0 a1 a2 ([] : List Int) 0))))) = some (r1, r2) := by rw [if_neg (show ¬ (false = true) by decide)] at H; exact H
    clear H
    have H := H1
    clear H1
    replace H := Option.bind_eq_some_iff.mp H
    obtain ⟨t376, A90, H⟩ := H
    replace H : (if (l0.length : Int) < t376 then (some (([] : List Int), 3)) else ((dragnetref03_Size.f a1 a2).bind fun t377 => (if (l0.length : Int) > t377 then (some (([] : List Int), 2)) else (dragnetref03_Unpack.l0 kj3 l0 a1 a2 ([] : List Int) 0)))) = some (r1, r2) := H
    have A9 := Aside0.mk A90
    clear A90
    by_cases c10 : (l0.length : Int) < t376
    ·rw [if_pos c10] at H
     have c10b0 : decide ((l0.length : Int) < t376) = true := decide_eq_true c10
     clear c10
     simp only [Option.some.injEq, Prod.mk.injEq] at H
     obtain ⟨rfl, rfl⟩ := H
     go_wp2_with (first | ((with_reducible refine gaC_ (f := 39) rfl ?_); refine goesL_ (some 31) rfl rfl Try.func39 (by kernel_rfl) rfl #[.int .i64 a1, .int .i64 a2] rfl (by (try simp only [List.map_toArray, List.map_cons, List.map_nil]); first | done | rfl | (simp only [List.length_drop, List.length_take]; rfl)) ?_; (with_reducible refine (dragnetref03_Size.calls a1 a2 t376 _ A9.out).mono ?_); rintro e w' ⟨rfl, ⟨nd, rfl⟩⟩; refine ⟨_, rfl, ?_⟩))
     go_ret2
     exact ⟨_, by first | rfl | (simp [eWn_, eWs_] <;> rfl) | (simp [*, eWn_, eWs_] <;> rfl), by first | exact Kd.R_nil _ _ _ _ _ | exact Kd.N_nil _ _ _ _ _ | exact Kd.V_nil _ _ _ _ _ | exact Kd.Q_nil _ _ _ _ _ | exact Kd.S_nil _ _ _ _ _, by repeat (first | (with_reducible first | exact HB.out | apply pbA_ | apply pbN_ | apply pb1_) | exact HB.out)⟩
    ·rw [if_neg c10] at H
     have c10b0 : decide ((l0.length : Int) < t376) = false := decide_eq_false c10
     clear c10
     replace H := Option.bind_eq_some_iff.mp H
     obtain ⟨t377, A110, H⟩ := H
     replace H : (if (l0.length : Int) > t377 then (some (([] : List Int), 2)) else (dragnetref03_Unpack.l0 kj3 l0 a1 a2 ([] : List Int) 0)) = some (r1, r2) := H
     have A11 := Aside0.mk A110
     clear A110
     by_cases c12 : (l0.length : Int) > t377
     ·rw [if_pos c12] at H
      have c12b0 : decide (t377 < (l0.length : Int)) = true := decide_eq_true c12
      clear c12
      simp only [Option.some.injEq, Prod.mk.injEq] at H
      obtain ⟨rfl, rfl⟩ := H
      go_wp2_with (first | ((with_reducible refine gaC_ (f := 39) rfl ?_); refine goesL_ (some 31) rfl rfl Try.func39 (by kernel_rfl) rfl #[.int .i64 a1, .int .i64 a2] rfl (by (try simp only [List.map_toArray, List.map_cons, List.map_nil]); first | done | rfl | (simp only [List.length_drop, List.length_take]; rfl)) ?_; (with_reducible refine (dragnetref03_Size.calls a1 a2 t376 _ A9.out).mono ?_); rintro e w' ⟨rfl, ⟨nd, rfl⟩⟩; refine ⟨_, rfl, ?_⟩) | ((with_reducible refine gaC_ (f := 39) rfl ?_); refine goesL_ (some 37) rfl rfl Try.func39 (by kernel_rfl) rfl #[.int .i64 a1, .int .i64 a2] rfl (by (try simp only [List.map_toArray, List.map_cons, List.map_nil]); first | done | rfl | (simp only [List.length_drop, List.length_take]; rfl)) ?_; (with_reducible refine (dragnetref03_Size.calls a1 a2 t377 _ A11.out).mono ?_); rintro e w' ⟨rfl, ⟨nd, rfl⟩⟩; refine ⟨_, rfl, ?_⟩))
      go_ret2
      exact ⟨_, by first | rfl | (simp [eWn_, eWs_] <;> rfl) | (simp [*, eWn_, eWs_] <;> rfl), by first | exact Kd.R_nil _ _ _ _ _ | exact Kd.N_nil _ _ _ _ _ | exact Kd.V_nil _ _ _ _ _ | exact Kd.Q_nil _ _ _ _ _ | exact Kd.S_nil _ _ _ _ _, by repeat (first | (with_reducible first | exact HB.out | apply pbA_ | apply pbN_ | apply pb1_) | exact HB.out)⟩
     ·rw [if_neg c12] at H
      have c12b0 : decide (t377 < (l0.length : Int)) = false := decide_eq_false c12
      clear c12
      have H' := Aside0.mk H
      clear H
      go_wp2_with (first | ((with_reducible refine gaC_ (f := 39) rfl ?_); refine goesL_ (some 31) rfl rfl Try.func39 (by kernel_rfl) rfl #[.int .i64 a1, .int .i64 a2] rfl (by (try simp only [List.map_toArray, List.map_cons, List.map_nil]); first | done | rfl | (simp only [List.length_drop, List.length_take]; rfl)) ?_; (with_reducible refine (dragnetref03_Size.calls a1 a2 t376 _ A9.out).mono ?_); rintro e w' ⟨rfl, ⟨nd, rfl⟩⟩; refine ⟨_, rfl, ?_⟩) | ((with_reducible refine gaC_ (f := 39) rfl ?_); refine goesL_ (some 37) rfl rfl Try.func39 (by kernel_rfl) rfl #[.int .i64 a1, .int .i64 a2] rfl (by (try simp only [List.map_toArray, List.map_cons, List.map_nil]); first | done | rfl | (simp only [List.length_drop, List.length_take]; rfl)) ?_; (with_reducible refine (dragnetref03_Size.calls a1 a2 t377 _ A11.out).mono ?_); rintro e w' ⟨rfl, ⟨nd, rfl⟩⟩; refine ⟨_, rfl, ?_⟩))
      go_loopg [8, 9] kj3 (fun kq v8 v9 w' => ∃ (x8_2 : List Int) (x9_2 : Int), v9 = .int .i64 x9_2 ∧ Aside0 (dragnetref03_Unpack.l0 kq l0 a1 a2 x8_2 x9_2 = some (r1, r2)) ∧ Aside0 (kq ≤ kj3) ∧ Aside0 (Kd.R (Kd.int .u64) 50 w' w.heap.size (fun _ => True) v8 x8_2) ∧ Aside0 (Below w.heap.size w w'))
      case atStart => exact ⟨(([] : List Int)), (0), (by first | rfl | (simp; done) | (simp [*]; done)), H', ⟨Nat.le_refl _⟩, ⟨by first | exact Kd.R_nil _ _ _ _ _ | exact Kd.N_nil _ _ _ _ _ | exact Kd.V_nil _ _ _ _ _ | exact Kd.Q_nil _ _ _ _ _ | exact Kd.S_nil _ _ _ _ _⟩, ⟨by repeat (first | (with_reducible first | exact HB.out | apply pbA_ | apply pbN_ | apply pb1_) | exact HB.out)⟩⟩
      case round =>
       clear H'
       try clear c1
       try clear p2
       try clear c3
       try clear c4
       try clear c5
       try clear c5b0
       try clear c6
       try clear c6b0
       try clear c7
       try clear c7b0
       try clear c8
       try clear c10
       try clear c10b0
       try clear c12
       try clear c12b0
       try clear p2
       obtain ⟨x8_2, x9_2, rfl, HA, HK2, HO_8, HB⟩ := hrel
       cases gk with
       | zero => exact absurd HA.out (by simp [dragnetref03_Unpack.l0])
       | succ k2 =>
        have H := HA.out
        clear HA
        simp only [dragnetref03_Unpack.l0] at H
        by_cases c13 : x9_2 < a1
        ·rw [if_pos c13] at H
         have c13b0 : decide (x9_2 < a1) = true := decide_eq_true c13
         clear c13
         have H' := Aside0.mk H
         clear H
         go_wp2
         go_loopg [10, 11] k2 (fun kq v10 v11 w' => ∃ (x10_3 : Int) (x11_3 : Int), v10 = .int .u64 x10_3 ∧ v11 = .int .i64 x11_3 ∧ Aside0 (dragnetref03_Unpack.l1 kq l0 a1 a2 x8_2 x9_2 x10_3 x11_3 = some (r1, r2)) ∧ Aside0 (kq ≤ k2) ∧ Aside0 (Kd.R (Kd.int .u64) 50 w' w.heap.size (fun _ => True) u8 x8_2) ∧ Aside0 (Below w.heap.size w w'))
         case atStart => exact ⟨(0), (0), (by first | rfl | (simp; done) | (simp [*]; done)), (by first | rfl | (simp; done) | (simp [*]; done)), H', ⟨Nat.le_refl _⟩, ⟨by (with_reducible repeat (first | apply Kd.rA_ | apply Kd.rN_ | apply Kd.rD_)); exact HO_8.out⟩, ⟨by repeat (first | (with_reducible first | exact HB.out | apply pbA_ | apply pbN_ | apply pb1_) | exact HB.out)⟩⟩
         case round =>
          clear H'
          try clear c1
          try clear p2
          try clear c3
          try clear c4
          try clear c5
          try clear c5b0
          try clear c6
          try clear c6b0
          try clear c7
          try clear c7b0
          try clear c8
          try clear c10
          try clear c10b0
          try clear c12
          try clear c12b0
          try clear c13
          try clear c13b0
          try clear p2
          obtain ⟨x10_3, x11_3, rfl, rfl, HA, HK3, HO_8, HB⟩ := hrel
          cases gk with
          | zero => exact absurd HA.out (by simp [dragnetref03_Unpack.l1])
          | succ k3 =>
           have H := HA.out
           clear HA
           simp only [dragnetref03_Unpack.l1] at H
           by_cases c14 : x11_3 < a2
           ·rw [if_pos c14] at H
            have c14b0 : decide (x11_3 < a2) = true := decide_eq_true c14
            clear c14
            obtain ⟨ji15, hji15⟩ : ∃ j_ : Int, (wrap64 (Int.tdiv (wrap64 ((wrap64 (x9_2 * a2)) + x11_3)) 8)) = j_ := ⟨_, rfl⟩
            replace H : (if 0 ≤ (ji15) then (if (ji15) < (l0.length : Int) then (if 0 ≤ (Int.tmod (wrap64 ((wrap64 (x9_2 * a2)) + x11_3)) 8) then (if (Int.tmod (shr .u8 (rd l0 (ji15)) (Int.tmod (wrap64 ((wrap64 (x9_2 * a2)) + x11_3)) 8)) 2) = 1 then (if 0 ≤ x11_3 then (dragnetref03_Unpack.l1 k3 l0 a1 a2 x8_2 x9_2 (IntKind.u64.wrap (x10_3 + (shl .u64 1 x11_3))) (wrap64 (x11_3 + 1))) else (none)) else (dragnetref03_Unpack.l1 k3 l0 a1 a2 x8_2 x9_2 x10_3 (wrap64 (x11_3 + 1)))) else (none)) else (none)) else (none)) = some (r1, r2) := by first | (rw [hji15] at H; exact H) | (simp only [hji15] at H ⊢; exact H)
            have hji15w : (IntKind.i64.wrap (Int.tdiv (wrap64 ((wrap64 (x9_2 * a2)) + x11_3)) 8)) = ji15 := (i64_w _).trans hji15
            by_cases c16 : 0 ≤ (ji15)
            ·rw [if_pos c16] at H
             have c16b0 : decide (0 ≤ (ji15)) = true := decide_eq_true c16
             clear c16
             by_cases c17 : (ji15) < (l0.length : Int)
             ·rw [if_pos c17] at H
              have c17b0 : decide ((ji15) < (l0.length : Int)) = true := decide_eq_true c17
              clear c17
              obtain ⟨ji18, hji18⟩ : ∃ j_ : Int, (Int.tmod (wrap64 ((wrap64 (x9_2 * a2)) + x11_3)) 8) = j_ := ⟨_, rfl⟩
              replace H : (if 0 ≤ (ji18) then (if (Int.tmod (shr .u8 (rd l0 (ji15)) (ji18)) 2) = 1 then (if 0 ≤ x11_3 then (dragnetref03_Unpack.l1 k3 l0 a1 a2 x8_2 x9_2 (IntKind.u64.wrap (x10_3 + (shl .u64 1 x11_3))) (wrap64 (x11_3 + 1))) else (none)) else (dragnetref03_Unpack.l1 k3 l0 a1 a2 x8_2 x9_2 x10_3 (wrap64 (x11_3 + 1)))) else (none)) = some (r1, r2) := by first | (rw [hji18] at H; exact H) | (simp only [hji18] at H ⊢; exact H)
              by_cases c19 : 0 ≤ (ji18)
              ·rw [if_pos c19] at H
               have c19b0 := eq_true c19
               have c19b1 : decide (0 ≤ (ji18)) = true := decide_eq_true c19
               clear c19
               obtain ⟨ji20, hji20⟩ : ∃ j_ : Int, (shr .u8 (rd l0 (ji15)) (ji18)) = j_ := ⟨_, rfl⟩
               replace H : (if (Int.tmod (ji20) 2) = 1 then (if 0 ≤ x11_3 then (dragnetref03_Unpack.l1 k3 l0 a1 a2 x8_2 x9_2 (IntKind.u64.wrap (x10_3 + (shl .u64 1 x11_3))) (wrap64 (x11_3 + 1))) else (none)) else (dragnetref03_Unpack.l1 k3 l0 a1 a2 x8_2 x9_2 x10_3 (wrap64 (x11_3 + 1)))) = some (r1, r2) := by first | (rw [hji20] at H; exact H) | (simp only [hji20] at H ⊢; exact H)
               have hji20_ : ((rd l0 (ji15)) / 2 ^ min (ji18).toNat 8) = ji20 := hji20
               have hji20z : (ji18) ≤ 8 → ((rd l0 (ji15)) / 2 ^ (ji18).toNat) = ji20 := shr_small hji20
               by_cases c21 : (Int.tmod (ji20) 2) = 1
               ·rw [if_pos c21] at H
                have c21b0 : ((Int.tmod (ji20) 2) == 1) = true := beq_iff_eq.mpr c21
                have c21b1 : ((Int.tmod (ji20) 2) != 1) = false := bne_eq_false_iff_eq.mpr c21
                clear c21
                by_cases c22 : 0 ≤ x11_3
                ·rw [if_pos c22] at H
                 have c22b0 := eq_true c22
                 have c22b1 : decide (0 ≤ x11_3) = true := decide_eq_true c22
                 clear c22
                 obtain ⟨ji23, hji23⟩ : ∃ j_ : Int, (shl .u64 1 x11_3) = j_ := ⟨_, rfl⟩
                 replace H : (dragnetref03_Unpack.l1 k3 l0 a1 a2 x8_2 x9_2 (IntKind.u64.wrap (x10_3 + (ji23))) (wrap64 (x11_3 + 1))) = some (r1, r2) := by first | (rw [hji23] at H; exact H) | (simp only [hji23] at H ⊢; exact H)
                 have hji23_ : (IntKind.u64.wrap (1 * 2 ^ min x11_3.toNat 64)) = ji23 := hji23
                 have hji23z : x11_3 ≤ 64 → (IntKind.u64.wrap (1 * 2 ^ x11_3.toNat)) = ji23 := shl_small hji23
                 have hji23u : (IntKind.u64.wrap (2 ^ min x11_3.toNat 64)) = ji23 := by have h_ := hji23_; rw [Int.one_mul] at h_; exact h_
                 have hji23v : x11_3 ≤ 64 → (IntKind.u64.wrap (2 ^ x11_3.toNat)) = ji23 := fun hle_ => by have h_ := hji23z hle_; rw [Int.one_mul] at h_; exact h_
                 have H' := Aside0.mk H
                 clear H
                 have p378 : 0 ≤ ((ji15) : Int) := of_decide_eq_true (by first | (with_reducible assumption) | assumption)
                 have q378 : (ji15) < (l0.length : Int) := of_decide_eq_true (by first | (with_reducible assumption) | assumption)
                 obtain ⟨ad378, e378, hx378_0⟩ := Kd.at_int HR0.out (ji15) p378 q378
                 cases e378
                 replace hx378_0 := (HB.out.cell (World.block_lt_of_cell? w _ hx378_0)).trans hx378_0
                 replace p378 := eq_true p378
                 replace q378 := eq_true q378
                 go_wp2
                 (try subst hji23 hji20 hji18 hji15)
                 go_roundg k3
                 case measure => have := HJ3.out; have := HK2.out; have := HK3.out; omega
                 case rel => exact ⟨(IntKind.u64.wrap (x10_3 + ((shl .u64 1 x11_3)))), (wrap64 (x11_3 + 1)), (by first | rfl | (simp; done) | (simp only [← hji23] <;> (first | rfl | simp)) | (simp [*]; done)), (by first | rfl | (simp; done) | (simp [*]; done)), H', ⟨by have := HJ3.out; have := HK2.out; have := HK3.out; omega⟩, ⟨by (with_reducible repeat (first | apply Kd.rA_ | apply Kd.rN_ | apply Kd.rD_)); exact HO_8.out⟩, ⟨by repeat (first | (with_reducible first | exact HB.out | apply pbA_ | apply pbN_ | apply pb1_) | exact HB.out)⟩⟩
                ·rw [if_neg c22] at H
                 exact absurd H (by simp)
               ·rw [if_neg c21] at H
                have c21b0 : ((Int.tmod (ji20) 2) == 1) = false := beq_eq_false_iff_ne.mpr c21
                have c21b1 : ((Int.tmod (ji20) 2) != 1) = true := bne_iff_ne.mpr c21
                have H' := Aside0.mk H
                clear H
                have p378 : 0 ≤ ((ji15) : Int) := of_decide_eq_true (by first | (with_reducible assumption) | assumption)
                have q378 : (ji15) < (l0.length : Int) := of_decide_eq_true (by first | (with_reducible assumption) | assumption)
                obtain ⟨ad378, e378, hx378_0⟩ := Kd.at_int HR0.out (ji15) p378 q378
                cases e378
                replace hx378_0 := (HB.out.cell (World.block_lt_of_cell? w _ hx378_0)).trans hx378_0
                replace p378 := eq_true p378
                replace q378 := eq_true q378
                go_wp2
                (try subst hji20 hji18 hji15)
                go_roundg k3
                case measure => have := HJ3.out; have := HK2.out; have := HK3.out; omega
                case rel => exact ⟨(x10_3), (wrap64 (x11_3 + 1)), (by first | rfl | (simp; done) | (simp [*]; done)), (by first | rfl | (simp; done) | (simp [*]; done)), H', ⟨by have := HJ3.out; have := HK2.out; have := HK3.out; omega⟩, ⟨by (with_reducible repeat (first | apply Kd.rA_ | apply Kd.rN_ | apply Kd.rD_)); exact HO_8.out⟩, ⟨by repeat (first | (with_reducible first | exact HB.out | apply pbA_ | apply pbN_ | apply pb1_) | exact HB.out)⟩⟩
              ·rw [if_neg c19] at H
               exact absurd H (by simp)
             ·rw [if_neg c17] at H
              exact absurd H (by simp)
            ·rw [if_neg c16] at H
             exact absurd H (by simp)
           ·rw [if_neg c14] at H
            have c14b0 : decide (x11_3 < a2) = false := decide_eq_false c14
            clear c14
            by_cases c24 : x8_2.length < 17592186044416
            ·rw [if_pos c24] at H
             have LMc24 := Aside0.mk c24
             clear c24
             obtain ⟨y379, hy379⟩ : ∃ y_ : List Int, y_ = (x8_2 ++ [x10_3]) := ⟨_, rfl⟩
             replace H : (dragnetref03_Unpack.l0 k3 l0 a1 a2 y379 (wrap64 (x9_2 + 1))) = some (r1, r2) := by first | (rw [hy379]; with_reducible exact H) | (have H2_ := (Option.bind_some _ _).symm.trans H; rw [hy379]; with_reducible exact H2_) | (have H2_ := (Option.bind_some _ _).symm.trans H; with_reducible exact H2_) | with_reducible exact H | (rw [hy379]; exact H) | exact H
             have Ny379 := Aside0.mk hy379
             clear hy379
             have H' := Aside0.mk H
             clear H
             go_wp2_with (first | ((with_reducible refine gate_builtin (b := .append) (xs := #[.tmp 71, .tmp 73]) rfl ?_); at_builtin; refine Kd.R_append (Kd.int .u64) (w0 := w) w.heap.size rfl (.tmp 71) (.tmp 73) 23 50 (.int .u64 0) 8 rfl Try.underlying23 info50 rfl (by decide) (by omega) u8 x8_2 x10_3 [.int .u64 x10_3] (fun _ => True) (fun _ => False) rfl rfl ?aP (fun _ hk => hk.elim) ?aF ?aO ?aB ?aS ?aL ?_; (case aP => exact rfl); (case aB => exact (by repeat (first | (with_reducible first | exact HB.out | apply pbA_ | apply pbN_ | apply pb1_) | exact HB.out))); (case aF => exact (fun _ _ => trivial)); (case aO => exact (by (with_reducible repeat (first | apply Kd.rA_ | apply Kd.rN_ | apply Kd.rD_)); exact HO_8.out)); (case aS => exact (pbS_ (by repeat (first | (with_reducible first | exact HB.out | apply pbA_ | apply pbN_ | apply pb1_) | exact HB.out)))); (case aL => have := LMc24.out; omega); intro v380 w25 ho hb hg hat; rw [← Ny379.out] at ho; have n0_ := Aside0.mk (hb); have n1_ := Aside0.mk (ho); clear HB; clear HO_8; have HB := n0_; have HO381 := n1_; clear n0_ n1_; clear ho hb hg hat))
             go_roundg k3
             case measure => have := HJ3.out; have := HK2.out; have := HK3.out; omega
             case rel => exact ⟨(y379), (wrap64 (x9_2 + 1)), (by first | rfl | (simp; done) | (simp [*]; done)), H', ⟨by have := HJ3.out; have := HK2.out; have := HK3.out; omega⟩, ⟨by (with_reducible repeat (first | apply Kd.rA_ | apply Kd.rN_ | apply Kd.rD_)); exact HO381.out⟩, ⟨by repeat (first | (with_reducible first | exact HB.out | apply pbA_ | apply pbN_ | apply pb1_) | exact HB.out)⟩⟩
            ·rw [if_neg c24] at H
             exact absurd H (by simp)
        ·rw [if_neg c13] at H
         have c13b0 : decide (x9_2 < a1) = false := decide_eq_false c13
         clear c13
         have H' := Aside0.mk H
         clear H
         go_wp2
         go_loopg [12] k2 (fun kq v12 w' => ∃ (x12_3 : Int), v12 = .int .i64 x12_3 ∧ Aside0 (dragnetref03_Unpack.l2 kq l0 x8_2 x12_3 = some (r1, r2)) ∧ Aside0 (kq ≤ k2) ∧ Aside0 (Kd.R (Kd.int .u64) 50 w' w.heap.size (fun _ => True) u8 x8_2) ∧ Aside0 (Below w.heap.size w w'))
         case atStart => exact ⟨(wrap64 (a1 * a2)), (by first | rfl | (simp; done) | (simp [*]; done)), H', ⟨Nat.le_refl _⟩, ⟨by (with_reducible repeat (first | apply Kd.rA_ | apply Kd.rN_ | apply Kd.rD_)); exact HO_8.out⟩, ⟨by repeat (first | (with_reducible first | exact HB.out | apply pbA_ | apply pbN_ | apply pb1_) | exact HB.out)⟩⟩
         case round =>
          clear H'
          try clear c1
          try clear c2
          try clear p2
          try clear c3
          try clear p3
          try clear q3
          try clear hx3
          try clear c4
          try clear c5
          try clear c5b0
          try clear c6
          try clear c6b0
          try clear p6
          try clear c7
          try clear c7b0
          try clear c8
          try clear c10
          try clear c10b0
          try clear c12
          try clear c12b0
          try clear c13
          try clear c13b0
          try clear c14
          try clear c14b0
          try clear c16
          try clear c16b0
          try clear c17
          try clear c17b0
          try clear c19
          try clear c19b0
          try clear c19b1
          try clear c21
          try clear c21b0
          try clear c21b1
          try clear c22
          try clear c22b0
          try clear c22b1
          try clear c24
          try clear hx378_0
          try clear p2
          try clear p378
          try clear q378
          obtain ⟨x12_3, rfl, HA, HK3, HO_8, HB⟩ := hrel
          cases gk with
          | zero => exact absurd HA.out (by simp [dragnetref03_Unpack.l2])
          | succ k3 =>
           have H := HA.out
           clear HA
           simp only [dragnetref03_Unpack.l2] at H
           by_cases c26 : x12_3 < (wrap64 (8 * (l0.length : Int)))
           ·rw [if_pos c26] at H
            have c26b0 : decide (x12_3 < (wrap64 (8 * (l0.length : Int)))) = true := decide_eq_true c26
            clear c26
            obtain ⟨ji27, hji27⟩ : ∃ j_ : Int, (wrap64 (Int.tdiv x12_3 8)) = j_ := ⟨_, rfl⟩
            replace H : (if 0 ≤ (ji27) then (if (ji27) < (l0.length : Int) then (if 0 ≤ (Int.tmod x12_3 8) then (if (Int.tmod (shr .u8 (rd l0 (ji27)) (Int.tmod x12_3 8)) 2) = 1 then (some (([] : List Int), 2)) else (dragnetref03_Unpack.l2 k3 l0 x8_2 (wrap64 (x12_3 + 1)))) else (none)) else (none)) else (none)) = some (r1, r2) := by first | (rw [hji27] at H; exact H) | (simp only [hji27] at H ⊢; exact H)
            have hji27w : (IntKind.i64.wrap (Int.tdiv x12_3 8)) = ji27 := (i64_w _).trans hji27
            by_cases c28 : 0 ≤ (ji27)
            ·rw [if_pos c28] at H
             have c28b0 : decide (0 ≤ (ji27)) = true := decide_eq_true c28
             clear c28
             by_cases c29 : (ji27) < (l0.length : Int)
             ·rw [if_pos c29] at H
              have c29b0 : decide ((ji27) < (l0.length : Int)) = true := decide_eq_true c29
              clear c29
              obtain ⟨ji30, hji30⟩ : ∃ j_ : Int, (Int.tmod x12_3 8) = j_ := ⟨_, rfl⟩
              replace H : (if 0 ≤ (ji30) then (if (Int.tmod (shr .u8 (rd l0 (ji27)) (ji30)) 2) = 1 then (some (([] : List Int), 2)) else (dragnetref03_Unpack.l2 k3 l0 x8_2 (wrap64 (x12_3 + 1)))) else (none)) = some (r1, r2) := by first | (rw [hji30] at H; exact H) | (simp only [hji30] at H ⊢; exact H)
              by_cases c31 : 0 ≤ (ji30)
              ·rw [if_pos c31] at H
               have c31b0 := eq_true c31
               have c31b1 : decide (0 ≤ (ji30)) = true := decide_eq_true c31
               clear c31
               obtain ⟨ji32, hji32⟩ : ∃ j_ : Int, (shr .u8 (rd l0 (ji27)) (ji30)) = j_ := ⟨_, rfl⟩
               replace H : (if (Int.tmod (ji32) 2) = 1 then (some (([] : List Int), 2)) else (dragnetref03_Unpack.l2 k3 l0 x8_2 (wrap64 (x12_3 + 1)))) = some (r1, r2) := by first | (rw [hji32] at H; exact H) | (simp only [hji32] at H ⊢; exact H)
               have hji32_ : ((rd l0 (ji27)) / 2 ^ min (ji30).toNat 8) = ji32 := hji32
               have hji32z : (ji30) ≤ 8 → ((rd l0 (ji27)) / 2 ^ (ji30).toNat) = ji32 := shr_small hji32
               by_cases c33 : (Int.tmod (ji32) 2) = 1
               ·rw [if_pos c33] at H
                have c33b0 : ((Int.tmod (ji32) 2) == 1) = true := beq_iff_eq.mpr c33
                have c33b1 : ((Int.tmod (ji32) 2) != 1) = false := bne_eq_false_iff_eq.mpr c33
                clear c33
                simp only [Option.some.injEq, Prod.mk.injEq] at H
                obtain ⟨rfl, rfl⟩ := H
                have p382 : 0 ≤ ((ji27) : Int) := of_decide_eq_true (by first | (with_reducible assumption) | assumption)
                have q382 : (ji27) < (l0.length : Int) := of_decide_eq_true (by first | (with_reducible assumption) | assumption)
                obtain ⟨ad382, e382, hx382_0⟩ := Kd.at_int HR0.out (ji27) p382 q382
                cases e382
                replace hx382_0 := (HB.out.cell (World.block_lt_of_cell? w _ hx382_0)).trans hx382_0
                replace p382 := eq_true p382
                replace q382 := eq_true q382
                go_wp2
                go_ret2
                exact ⟨_, by first | rfl | (simp [eWn_, eWs_] <;> rfl) | (simp only [← hji27, ← hji30, ← hji32]; first | rfl | (simp [eWn_, eWs_] <;> rfl)) | (simp [*, eWn_, eWs_] <;> rfl), by first | exact Kd.R_nil _ _ _ _ _ | exact Kd.N_nil _ _ _ _ _ | exact Kd.V_nil _ _ _ _ _ | exact Kd.Q_nil _ _ _ _ _ | exact Kd.S_nil _ _ _ _ _, by repeat (first | (with_reducible first | exact HB.out | apply pbA_ | apply pbN_ | apply pb1_) | exact HB.out)⟩
               ·rw [if_neg c33] at H
                have c33b0 : ((Int.tmod (ji32) 2) == 1) = false := beq_eq_false_iff_ne.mpr c33
                have c33b1 : ((Int.tmod (ji32) 2) != 1) = true := bne_iff_ne.mpr c33
                have H' := Aside0.mk H
                clear H
                have p382 : 0 ≤ ((ji27) : Int) := of_decide_eq_true (by first | (with_reducible assumption) | assumption)
                have q382 : (ji27) < (l0.length : Int) := of_decide_eq_true (by first | (with_reducible assumption) | assumption)
                obtain ⟨ad382, e382, hx382_0⟩ := Kd.at_int HR0.out (ji27) p382 q382
                cases e382
                replace hx382_0 := (HB.out.cell (World.block_lt_of_cell? w _ hx382_0)).trans hx382_0
                replace p382 := eq_true p382
                replace q382 := eq_true q382
                go_wp2
                (try subst hji32 hji30 hji27)
                go_roundg k3
                case measure => have := HJ3.out; have := HK2.out; have := HK3.out; omega
                case rel => exact ⟨(wrap64 (x12_3 + 1)), (by first | rfl | (simp; done) | (simp [*]; done)), H', ⟨by have := HJ3.out; have := HK2.out; have := HK3.out; omega⟩, ⟨by (with_reducible repeat (first | apply Kd.rA_ | apply Kd.rN_ | apply Kd.rD_)); exact HO_8.out⟩, ⟨by repeat (first | (with_reducible first | exact HB.out | apply pbA_ | apply pbN_ | apply pb1_) | exact HB.out)⟩⟩
              ·rw [if_neg c31] at H
               exact absurd H (by simp)
             ·rw [if_neg c29] at H
              exact absurd H (by simp)
            ·rw [if_neg c28] at H
             exact absurd H (by simp)
           ·rw [if_neg c26] at H
            have c26b0 : decide (x12_3 < (wrap64 (8 * (l0.length : Int)))) = false := decide_eq_false c26
            clear c26
            simp only [Option.some.injEq, Prod.mk.injEq] at H
            obtain ⟨rfl, rfl⟩ := H
            go_wp2
            go_ret2
            exact ⟨_, by first | rfl | (simp [eWn_, eWs_] <;> rfl) | (simp [*, eWn_, eWs_] <;> rfl), by (with_reducible repeat (first | apply Kd.rA_ | apply Kd.rN_ | apply Kd.rD_)); exact HO_8.out, by repeat (first | (with_reducible first | exact HB.out | apply pbA_ | apply pbN_ | apply pb1_) | exact HB.out)⟩
end Go.Proofs.Ytkcjjennlhgmhaa.P
end
section
namespace Go.Proofs.Ytkcjjennlhgmhaa.P
open Go.RowKit Go.Proofs.YtkcjjennlhgmhaaW.PrintWords Go.Proofs.YtkcjjennlhgmhaaW.PrintLast Go.Proofs.YtkcjjennlhgmhaaW.PrintMore
attribute [local go_sem] max2_int min2_int max_two min_two max_three min_three max_four min_four
set_option linter.unusedVariables false
set_option linter.unusedSimpArgs false
mutual
def dragnetref04_TakeBlock.j0 : Nat → List Int → Int → Int → Int → Int → Bool → List Int → Int → Bool → Option (List Int × Int × Int)
 | 0, _, _, _, _, _, _, _, _, _ => none
 | k + 1, x0, x6, x7, x8, x9, x47, x384000, x384001, x384002 => if x47 = true then (some (([] : List Int), 0, 2)) else ((dragnetref03_Size.f x6 x8).bind fun t397 => (if 0 ≤ x384001 then (if x384001 ≤ (wrap64 (x384001 + t397)) then (if (wrap64 (x384001 + t397)) ≤ (x0.length : Int) then ((dragnetref03_Unpack.f k ((x0.take ((wrap64 (x384001 + t397)) : Int).toNat).drop (x384001 : Int).toNat) x6 x8).bind fun bt399 => (if bt399.2 = 0 then (dragnetref04_TakeBlock.l0 k x0 x6 x7 x8 x9 bt399.1 x384000 (wrap64 (x384001 + t397)) x384002) else (some (([] : List Int), 0, 2)))) else (none)) else (none)) else (none)))
def dragnetref04_TakeBlock.l0 : Nat → List Int → Int → Int → Int → Int → List Int → List Int → Int → Bool → Option (List Int × Int × Int)
 | 0, _, _, _, _, _, _, _, _, _ => none
 | k + 1, x0, x6, x7, x8, x9, x11, x384000, x384001, x384002 => if x9 > 0 then ((dragnetref02_Reader_Count.f k x384000 x384001 x384002 31).bind fun bt403 => ((dragnetref02_Reader_Number.f k x384000 bt403.2.1 bt403.2.2 18446744073709551615).bind fun bt406 => (if bt406.2.2 = true then (some (([] : List Int), 0, 2)) else (if bt403.1 ≥ x6 then (some (([] : List Int), 0, 2)) else (if x8 = 64 then (some (([] : List Int), 0, 2)) else (if 0 ≤ bt403.1 then (if bt403.1 < (x11.length : Int) then (if 0 ≤ x8 then (dragnetref04_TakeBlock.l0 k x0 x6 x7 x8 (wrap64 (x9 - 1)) (x11.set (bt403.1 : Int).toNat (IntKind.u64.wrap ((rd x11 bt403.1) + (shl .u64 bt406.1 x8)))) x384000 bt406.2.1 bt406.2.2) else (none)) else (none)) else (none))))))) else (dragnetref04_TakeBlock.l1 k x0 x6 x7 x11 0 x384000 x384001 x384002)
def dragnetref04_TakeBlock.l1 : Nat → List Int → Int → Int → List Int → Int → List Int → Int → Bool → Option (List Int × Int × Int)
 | 0, _, _, _, _, _, _, _, _ => none
 | k + 1, x0, x6, x7, x11, x15, x384000, x384001, x384002 => if x15 < x6 then (if 0 ≤ x15 then (if x15 < (x11.length : Int) then (dragnetref04_TakeBlock.l1 k x0 x6 x7 (x11.set (x15 : Int).toNat (IntKind.u64.wrap ((rd x11 x15) + x7))) (wrap64 (x15 + 1)) x384000 x384001 x384002) else (none)) else (none)) else ((dragnetref04_Block.f k x11).bind fun t413 => (if 0 ≤ x384001 then (if x384001 ≤ (x0.length : Int) then ((dragnetref01_Same.f t413 (x0.take (x384001 : Int).toNat)).bind fun t417 => (if t417 = true then (some (x11, x384001, 0)) else (some (([] : List Int), 0, 2)))) else (none)) else (none)))
end
def dragnetref04_TakeBlock.f (k : Nat) (l0 : List Int) : Option (List Int × Int × Int) := (dragnetref02_Reader_Count.f k l0 0 false 32).bind fun bt384 => ((dragnetref02_Reader_Number.f k l0 bt384.2.1 bt384.2.2 18446744073709551615).bind fun bt387 => ((dragnetref02_Reader_Count.f k l0 bt387.2.1 bt387.2.2 64).bind fun bt390 => ((dragnetref02_Reader_Count.f k l0 bt390.2.1 bt390.2.2 32).bind fun bt393 => (if bt393.2.2 = true then (dragnetref04_TakeBlock.j0 k l0 bt384.1 bt387.1 bt390.1 bt393.1 true l0 bt393.2.1 bt393.2.2) else (if bt384.1 = 0 then (dragnetref04_TakeBlock.j0 k l0 bt384.1 bt387.1 bt390.1 bt393.1 true l0 bt393.2.1 bt393.2.2) else ((dragnetref03_Size.f bt384.1 bt390.1).bind fun t396 => (dragnetref04_TakeBlock.j0 k l0 bt384.1 bt387.1 bt390.1 bt393.1 (decide (t396 > (wrap64 ((l0.length : Int) - bt393.2.1)))) l0 bt393.2.1 bt393.2.2)))))))
theorem dragnetref04_TakeBlock.mono_l : ∀ k, (∀ y0 y1 y2 y3 y4 y5 y6 y7 y8, LeO (dragnetref04_TakeBlock.j0 k y0 y1 y2 y3 y4 y5 y6 y7 y8) (dragnetref04_TakeBlock.j0 (k + 1) y0 y1 y2 y3 y4 y5 y6 y7 y8)) ∧ (∀ y0 y1 y2 y3 y4 y5 y6 y7 y8, LeO (dragnetref04_TakeBlock.l0 k y0 y1 y2 y3 y4 y5 y6 y7 y8) (dragnetref04_TakeBlock.l0 (k + 1) y0 y1 y2 y3 y4 y5 y6 y7 y8)) ∧ (∀ y0 y1 y2 y3 y4 y5 y6 y7, LeO (dragnetref04_TakeBlock.l1 k y0 y1 y2 y3 y4 y5 y6 y7) (dragnetref04_TakeBlock.l1 (k + 1) y0 y1 y2 y3 y4 y5 y6 y7))
 | 0 => ⟨fun _ _ _ _ _ _ _ _ _ r h => by simp [dragnetref04_TakeBlock.j0] at h, fun _ _ _ _ _ _ _ _ _ r h => by simp [dragnetref04_TakeBlock.l0] at h, fun _ _ _ _ _ _ _ _ r h => by simp [dragnetref04_TakeBlock.l1] at h⟩
 | k + 1 => by
  obtain ⟨ih0, ih1, ih2⟩ := dragnetref04_TakeBlock.mono_l k
  refine ⟨?_, ?_, ?_⟩
  ·intro y0 y1 y2 y3 y4 y5 y6 y7 y8
   unfold dragnetref04_TakeBlock.j0
   repeat' first
   | (with_reducible exact ih0 _ _ _ _ _ _ _ _ _)
   | (with_reducible exact ih1 _ _ _ _ _ _ _ _ _)
   | (with_reducible exact ih2 _ _ _ _ _ _ _ _)
   | (with_reducible exact dragnetref02_Reader_Count.mono _ _ _ _ _)
   | (with_reducible exact dragnetref02_Reader_Number.mono _ _ _ _ _)
   | (with_reducible exact dragnetref03_Unpack.mono _ _ _ _)
   | (with_reducible exact dragnetref04_Block.mono _ _)
   | (with_reducible exact LeO.refl _)
   | (with_reducible exact LeO.none _)
   | (with_reducible refine LeO.ite ?_ ?_)
   | (with_reducible refine LeO.bind ?_ (fun _ => ?_))
   | exact ih0 _ _ _ _ _ _ _ _ _
   | exact ih1 _ _ _ _ _ _ _ _ _
   | exact ih2 _ _ _ _ _ _ _ _
   | exact dragnetref02_Reader_Count.mono _ _ _ _ _
   | exact dragnetref02_Reader_Number.mono _ _ _ _ _
   | exact dragnetref03_Unpack.mono _ _ _ _
   | exact dragnetref04_Block.mono _ _
   | exact LeO.none _
   | refine LeO.ite ?_ ?_
   | refine LeO.bind ?_ (fun _ => ?_)
  ·intro y0 y1 y2 y3 y4 y5 y6 y7 y8
   unfold dragnetref04_TakeBlock.l0
   repeat' first
   | (with_reducible exact ih0 _ _ _ _ _ _ _ _ _)
   | (with_reducible exact ih1 _ _ _ _ _ _ _ _ _)
   | (with_reducible exact ih2 _ _ _ _ _ _ _ _)
   | (with_reducible exact dragnetref02_Reader_Count.mono _ _ _ _ _)
   | (with_reducible exact dragnetref02_Reader_Number.mono _ _ _ _ _)
   | (with_reducible exact dragnetref03_Unpack.mono _ _ _ _)
   | (with_reducible exact dragnetref04_Block.mono _ _)
   | (with_reducible exact LeO.refl _)
   | (with_reducible exact LeO.none _)
   | (with_reducible refine LeO.ite ?_ ?_)
   | (with_reducible refine LeO.bind ?_ (fun _ => ?_))
   | exact ih0 _ _ _ _ _ _ _ _ _
   | exact ih1 _ _ _ _ _ _ _ _ _
   | exact ih2 _ _ _ _ _ _ _ _
   | exact dragnetref02_Reader_Count.mono _ _ _ _ _
   | exact dragnetref02_Reader_Number.mono _ _ _ _ _
   | exact dragnetref03_Unpack.mono _ _ _ _
   | exact dragnetref04_Block.mono _ _
   | exact LeO.none _
   | refine LeO.ite ?_ ?_
   | refine LeO.bind ?_ (fun _ => ?_)
  ·intro y0 y1 y2 y3 y4 y5 y6 y7
   unfold dragnetref04_TakeBlock.l1
   repeat' first
   | (with_reducible exact ih0 _ _ _ _ _ _ _ _ _)
   | (with_reducible exact ih1 _ _ _ _ _ _ _ _ _)
   | (with_reducible exact ih2 _ _ _ _ _ _ _ _)
   | (with_reducible exact dragnetref02_Reader_Count.mono _ _ _ _ _)
   | (with_reducible exact dragnetref02_Reader_Number.mono _ _ _ _ _)
   | (with_reducible exact dragnetref03_Unpack.mono _ _ _ _)
   | (with_reducible exact dragnetref04_Block.mono _ _)
   | (with_reducible exact LeO.refl _)
   | (with_reducible exact LeO.none _)
   | (with_reducible refine LeO.ite ?_ ?_)
   | (with_reducible refine LeO.bind ?_ (fun _ => ?_))
   | exact ih0 _ _ _ _ _ _ _ _ _
   | exact ih1 _ _ _ _ _ _ _ _ _
   | exact ih2 _ _ _ _ _ _ _ _
   | exact dragnetref02_Reader_Count.mono _ _ _ _ _
   | exact dragnetref02_Reader_Number.mono _ _ _ _ _
   | exact dragnetref03_Unpack.mono _ _ _ _
   | exact dragnetref04_Block.mono _ _
   | exact LeO.none _
   | refine LeO.ite ?_ ?_
   | refine LeO.bind ?_ (fun _ => ?_)
theorem dragnetref04_TakeBlock.mono : ∀ a0 k, LeO (dragnetref04_TakeBlock.f k a0) (dragnetref04_TakeBlock.f (k + 1) a0) := by
 intro a0 k
 obtain ⟨ih0, ih1, ih2⟩ := dragnetref04_TakeBlock.mono_l k
 unfold dragnetref04_TakeBlock.f
 repeat' first
   | (with_reducible exact ih0 _ _ _ _ _ _ _ _ _)
   | (with_reducible exact ih1 _ _ _ _ _ _ _ _ _)
   | (with_reducible exact ih2 _ _ _ _ _ _ _ _)
   | (with_reducible exact dragnetref02_Reader_Count.mono _ _ _ _ _)
   | (with_reducible exact dragnetref02_Reader_Number.mono _ _ _ _ _)
   | (with_reducible exact dragnetref03_Unpack.mono _ _ _ _)
   | (with_reducible exact dragnetref04_Block.mono _ _)
   | (with_reducible exact LeO.refl _)
   | (with_reducible exact LeO.none _)
   | (with_reducible refine LeO.ite ?_ ?_)
   | (with_reducible refine LeO.bind ?_ (fun _ => ?_))
   | exact ih0 _ _ _ _ _ _ _ _ _
   | exact ih1 _ _ _ _ _ _ _ _ _
   | exact ih2 _ _ _ _ _ _ _ _
   | exact dragnetref02_Reader_Count.mono _ _ _ _ _
   | exact dragnetref02_Reader_Number.mono _ _ _ _ _
   | exact dragnetref03_Unpack.mono _ _ _ _
   | exact dragnetref04_Block.mono _ _
   | exact LeO.none _
   | refine LeO.ite ?_ ?_
   | refine LeO.bind ?_ (fun _ => ?_)
def dragnetref04_TakeBlock.T6 : Bool × List (List Nat × List Nat) := (true, [([], []), ([0], [0]), ([1], [1]), ([2], [2]), ([3], [3]), ([4], [4]), ([5, 4], [4, 5]), ([4, 6], [4, 6]), ([7, 4], [7]), ([8], [8]), ([8], [8]), ([9, 10, 8, 8], [8, 9, 10]), ([8], [8]), ([12, 8], [8, 12]), ([8], [8]), ([14, 8], [8, 14]), ([15, 8], [8, 15]), ([16, 8], [8, 16]), ([13, 17, 8], [8, 13, 17]), ([11, 18, 8], [8, 11, 18]), ([8, 19], [8, 19])])
def dragnetref04_TakeBlock.B6 : List Nat := [0, 1, 3, 7, 15, 31, 63, 127, 255, 511, 511, 2047, 511, 4607, 511, 16895, 49663, 115199, 258559, 524287, 1048575]
theorem dragnetref04_TakeBlock.tab6 : rtab .any (opsOf Try.f17 6) = dragnetref04_TakeBlock.T6 := by kernel_rfl
theorem dragnetref04_TakeBlock.bits6 : waitsOk dragnetref04_TakeBlock.T6.2 dragnetref04_TakeBlock.B6 = true := by kernel_rfl
def dragnetref04_TakeBlock.T8 : Bool × List (List Nat × List Nat) := (true, [([], []), ([0], [0]), ([1], [1]), ([2], [2]), ([], []), ([], []), ([4, 5], [4, 5]), ([3, 6], [3, 6]), ([7, 6, 0, 1, 2, 3, 4, 5, 6, 7], [7])])
def dragnetref04_TakeBlock.B8 : List Nat := [0, 1, 3, 7, 0, 0, 48, 127, 255]
theorem dragnetref04_TakeBlock.tab8 : rtab .any (opsOf Try.f17 8) = dragnetref04_TakeBlock.T8 := by kernel_rfl
theorem dragnetref04_TakeBlock.bits8 : waitsOk dragnetref04_TakeBlock.T8.2 dragnetref04_TakeBlock.B8 = true := by kernel_rfl
def dragnetref04_TakeBlock.T19 : Bool × List (List Nat × List Nat) := (true, [([], []), ([], []), ([0, 1], [0, 1]), ([2], [2]), ([], []), ([], []), ([4, 5], [4, 5]), ([3, 6], [3, 6]), ([0, 1, 0, 1, 2, 3, 4, 5, 6, 7], [0, 1]), ([8, 7, 0, 1, 2, 3, 4, 5, 6, 7], [7, 8])])
def dragnetref04_TakeBlock.B19 : List Nat := [0, 0, 3, 7, 0, 0, 48, 127, 255, 511]
theorem dragnetref04_TakeBlock.tab19 : rtab .any (opsOf Try.f17 19) = dragnetref04_TakeBlock.T19 := by kernel_rfl
theorem dragnetref04_TakeBlock.bits19 : waitsOk dragnetref04_TakeBlock.T19.2 dragnetref04_TakeBlock.B19 = true := by kernel_rfl
def dragnetref04_TakeBlock.T24 : Bool × List (List Nat × List Nat) := (true, [([], []), ([0], [0]), ([], []), ([], []), ([3], [3]), ([4], [4]), ([5], [5]), ([2, 6], [2, 6]), ([1, 7, 1], [1, 7]), ([8], [8])])
def dragnetref04_TakeBlock.B24 : List Nat := [0, 1, 0, 0, 8, 24, 56, 124, 255, 511]
theorem dragnetref04_TakeBlock.tab24 : rtab .any (opsOf Try.f17 24) = dragnetref04_TakeBlock.T24 := by kernel_rfl
theorem dragnetref04_TakeBlock.bits24 : waitsOk dragnetref04_TakeBlock.T24.2 dragnetref04_TakeBlock.B24 = true := by kernel_rfl
def dragnetref04_TakeBlock.T26 : Bool × List (List Nat × List Nat) := (true, [([], []), ([], []), ([1], [1]), ([2], [2]), ([3], [3]), ([0, 0], [0]), ([4, 5, 0, 1, 2, 3, 4, 5], [4]), ([6, 0, 1, 2, 3, 4, 5, 6], [])])
def dragnetref04_TakeBlock.B26 : List Nat := [0, 0, 2, 6, 14, 1, 63, 127]
theorem dragnetref04_TakeBlock.tab26 : rtab .any (opsOf Try.f17 26) = dragnetref04_TakeBlock.T26 := by kernel_rfl
theorem dragnetref04_TakeBlock.bits26 : waitsOk dragnetref04_TakeBlock.T26.2 dragnetref04_TakeBlock.B26 = true := by kernel_rfl
set_option maxHeartbeats 8000000 in
set_option maxRecDepth 100000 in
theorem dragnetref04_TakeBlock.calls (k : Nat) (A0 : Option Addr) (c0 : Nat) (l0 : List Int) (r1 : List Int) (r2 : Int) (r3 : Int) (w : World) (hr0 : Kd.C (Kd.int .u8) w A0 l0.length l0) (hc0 : l0.length ≤ c0) (h : dragnetref04_TakeBlock.f k l0 = some (r1, r2, r3)) :
  Calls Try.prog 17 #[.slice A0 l0.length c0] w fun e w' => ∃ v0_ : Value, e = .returned (.tuple #[v0_, .int .i64 r2, .int .i64 r3]) ∧ Kd.R (Kd.int .u64) 50 w' w.heap.size (fun _ => True) v0_ r1 ∧ Below w.heap.size w w' := by
 have hu61 := Try.underlying61
 have HR0 := Aside0.mk hr0
 have HC0 := Aside0.mk hc0
 clear hr0 hc0
 have HB := Aside0.mk (Below.refl w.heap.size w)
 have H : ((dragnetref02_Reader_Count.f k l0 0 false 32).bind fun bt384 => ((dragnetref02_Reader_Number.f k l0 bt384.2.1 bt384.2.2 18446744073709551615).bind fun bt387 => ((dragnetref02_Reader_Count.f k l0 bt387.2.1 bt387.2.2 64).bind fun bt390 => ((dragnetref02_Reader_Count.f k l0 bt390.2.1 bt390.2.2 32).bind fun bt393 => (if bt393.2.2 = true then (dragnetref04_TakeBlock.j0 k l0 bt384.1 bt387.1 bt390.1 bt393.1 true l0 bt393.2.1 bt393.2.2) else (if bt384.1 = 0 then (dragnetref04_TakeBlock.j0 k l0 bt384.1 bt387.1 bt390.1 bt393.1 true l0 bt393.2.1 bt393.2.2) else ((dragnetref03_Size.f bt384.1 bt390.1).bind fun t396 => (dragnetref04_TakeBlock.j0 k l0 bt384.1 bt387.1 bt390.1 bt393.1 (decide (t396 > (wrap64 ((l0.length : Int) - bt393.2.1)))) l0 bt393.2.1 bt393.2.2)))))))) = some (r1, r2, r3) := h
 clear h
 replace H := Option.bind_eq_some_iff.mp H
 obtain ⟨⟨t384, t385, t386⟩, A20, H⟩ := H
 replace H : ((dragnetref02_Reader_Number.f k l0 t385 t386 18446744073709551615).bind fun bt387 => ((dragnetref02_Reader_Count.f k l0 bt387.2.1 bt387.2.2 64).bind fun bt390 => ((dragnetref02_Reader_Count.f k l0 bt390.2.1 bt390.2.2 32).bind fun bt393 => (if bt393.2.2 = true then (dragnetref04_TakeBlock.j0 k l0 t384 bt387.1 bt390.1 bt393.1 true l0 bt393.2.1 bt393.2.2) else (if t384 = 0 then (dragnetref04_TakeBlock.j0 k l0 t384 bt387.1 bt390.1 bt393.1 true l0 bt393.2.1 bt393.2.2) else ((dragnetref03_Size.f t384 bt390.1).bind fun t396 => (dragnetref04_TakeBlock.j0 k l0 t384 bt387.1 bt390.1 bt393.1 (decide (t396 > (wrap64 ((l0.length : Int) - bt393.2.1)))) l0 bt393.2.1 bt393.2.2))))))) = some (r1, r2, r3) := H
 have A2 := Aside0.mk A20
 clear A20
 replace H := Option.bind_eq_some_iff.mp H
 obtain ⟨⟨t387, t388, t389⟩, A30, H⟩ := H
 replace H : ((dragnetref02_Reader_Count.f k l0 t388 t389 64).bind fun bt390 => ((dragnetref02_Reader_Count.f k l0 bt390.2.1 bt390.2.2 32).bind fun bt393 => (if bt393.2.2 = true then (dragnetref04_TakeBlock.j0 k l0 t384 t387 bt390.1 bt393.1 true l0 bt393.2.1 bt393.2.2) else (if t384 = 0 then (dragnetref04_TakeBlock.j0 k l0 t384 t387 bt390.1 bt393.1 true l0 bt393.2.1 bt393.2.2) else ((dragnetref03_Size.f t384 bt390.1).bind fun t396 => (dragnetref04_TakeBlock.j0 k l0 t384 t387 bt390.1 bt393.1 (decide (t396 > (wrap64 ((l0.length : Int) - bt393.2.1)))) l0 bt393.2.1 bt393.2.2)))))) = some (r1, r2, r3) := H
 have A3 := Aside0.mk A30
 clear A30
 replace H := Option.bind_eq_some_iff.mp H
 obtain ⟨⟨t390, t391, t392⟩, A40, H⟩ := H
 replace H : ((dragnetref02_Reader_Count.f k l0 t391 t392 32).bind fun bt393 => (if bt393.2.2 = true then (dragnetref04_TakeBlock.j0 k l0 t384 t387 t390 bt393.1 true l0 bt393.2.1 bt393.2.2) else (if t384 = 0 then (dragnetref04_TakeBlock.j0 k l0 t384 t387 t390 bt393.1 true l0 bt393.2.1 bt393.2.2) else ((dragnetref03_Size.f t384 t390).bind fun t396 => (dragnetref04_TakeBlock.j0 k l0 t384 t387 t390 bt393.1 (decide (t396 > (wrap64 ((l0.length : Int) - bt393.2.1)))) l0 bt393.2.1 bt393.2.2))))) = some (r1, r2, r3) := H
 have A4 := Aside0.mk A40
 clear A40
 replace H := Option.bind_eq_some_iff.mp H
 obtain ⟨⟨t393, t394, t395⟩, A50, H⟩ := H
 replace H : (if t395 = true then (dragnetref04_TakeBlock.j0 k l0 t384 t387 t390 t393 true l0 t394 t395) else (if t384 = 0 then (dragnetref04_TakeBlock.j0 k l0 t384 t387 t390 t393 true l0 t394 t395) else ((dragnetref03_Size.f t384 t390).bind fun t396 => (dragnetref04_TakeBlock.j0 k l0 t384 t387 t390 t393 (decide (t396 > (wrap64 ((l0.length : Int) - t394)))) l0 t394 t395)))) = some (r1, r2, r3) := H
 have A5 := Aside0.mk A50
 clear A50
 have HC6 := Aside0.mk H
 clear H
 go_enter Try.func17, Try.ntmps17
 go_upto_region 6 with (first | ((with_reducible refine gate_dst (N := 18) rfl ?_); (try (refine gate_guard (by rfl) ?_; dsimp only)); refine box_event ?hg (N := 18) ?hd (cs := #[.slice A0 l0.length c0, .int .i64 0, .bool false]) (t := 61) ?hr ?_; (case hd => rfl); (case hg => rfl); (case hr => first | (go_simp; done) | (go_simp; rfl)); intro gb383 hg w7 hbox hb; have n0_ := Aside0.mk (below_step (by repeat (first | (with_reducible first | exact HB.out | apply pbA_ | apply pbN_ | apply pb1_) | exact HB.out)) hb); have n1_ := Aside0.mk ((show IsS61 w w7 gb383 l0 0 false from ⟨_, _, hbox, (by rw [hg]; exact (pbS_ (by repeat (first | (with_reducible first | exact HB.out | apply pbA_ | apply pbN_ | apply pb1_) | exact HB.out))) : w.heap.size ≤ gb383), ⟨HR0.out, HC0.out⟩⟩)); have n2_ := Aside0.mk ((by rw [hg]; exact (pbS_ (by repeat (first | (with_reducible first | exact HB.out | apply pbA_ | apply pbN_ | apply pb1_) | exact HB.out))) : w.heap.size ≤ gb383)); have n3_ := Aside0.mk ((by rw [hg]; exact (pbS_ (by repeat (first | (with_reducible first | exact HB.out | apply pbA_ | apply pbN_ | apply pb1_) | exact HB.out))) : w.heap.size ≤ gb383)); clear HB; have HB := n0_; have HI383 := n1_; have GW383 := n2_; have GE383 := n3_; clear n0_ n1_ n2_ n3_; clear hb hbox hg) | ((with_reducible refine gaC_ (f := 37) rfl ?_); refine goesL_ (some 20) rfl rfl Try.func37 (by kernel_rfl) rfl #[.pointer (some ⟨gb383, 0, none⟩), .int .i64 32] rfl (by (try simp only [List.map_toArray, List.map_cons, List.map_nil]); first | done | rfl | (simp only [List.length_drop, List.length_take]; rfl)) ?_; (with_reducible refine (dragnetref02_Reader_Count.calls k gb383 l0 0 false 32 t384 t385 t386 w _ ?side1 ?side2 A2.out).mono ?_); (case side1 => repeat (first | (with_reducible first | exact HI383.out | apply IsS61.alloc | apply IsS61.drewN | apply IsS61.drew | apply IsS61.set_1 | apply IsS61.set_2) | exact HI383.out)); (case side2 => repeat (first | (with_reducible first | exact HB.out | apply pbA_ | apply pbN_ | apply pb1_ | refine below_set ?_ (IsS61.ge HI383.out)) | exact HB.out)); rintro e w8 ⟨rfl, hi, hb, hk⟩; refine ⟨_, rfl, ?_⟩; have n0_ := Aside0.mk (hb); have n1_ := Aside0.mk (hi); clear HB; clear HI383; have HB := n0_; have HI383 := n1_; clear n0_ n1_; (try clear hb); (try clear hb2); (try clear hk); (try clear hi)) | ((with_reducible refine gaC_ (f := 38) rfl ?_); refine goesL_ (some 22) rfl rfl Try.func38 (by kernel_rfl) rfl #[.pointer (some ⟨gb383, 0, none⟩), .int .u64 18446744073709551615] rfl (by (try simp only [List.map_toArray, List.map_cons, List.map_nil]); first | done | rfl | (simp only [List.length_drop, List.length_take]; rfl)) ?_; (with_reducible refine (dragnetref02_Reader_Number.calls k gb383 l0 t385 t386 18446744073709551615 t387 t388 t389 w _ ?side1 ?side2 A3.out).mono ?_); (case side1 => repeat (first | (with_reducible first | exact HI383.out | apply IsS61.alloc | apply IsS61.drewN | apply IsS61.drew | apply IsS61.set_1 | apply IsS61.set_2) | exact HI383.out)); (case side2 => repeat (first | (with_reducible first | exact HB.out | apply pbA_ | apply pbN_ | apply pb1_ | refine below_set ?_ (IsS61.ge HI383.out)) | exact HB.out)); rintro e w9 ⟨rfl, hi, hb, hk⟩; refine ⟨_, rfl, ?_⟩; have n0_ := Aside0.mk (hb); have n1_ := Aside0.mk (hi); clear HB; clear HI383; have HB := n0_; have HI383 := n1_; clear n0_ n1_; (try clear hb); (try clear hb2); (try clear hk); (try clear hi)) | ((with_reducible refine gaC_ (f := 37) rfl ?_); refine goesL_ (some 24) rfl rfl Try.func37 (by kernel_rfl) rfl #[.pointer (some ⟨gb383, 0, none⟩), .int .i64 64] rfl (by (try simp only [List.map_toArray, List.map_cons, List.map_nil]); first | done | rfl | (simp only [List.length_drop, List.length_take]; rfl)) ?_; (with_reducible refine (dragnetref02_Reader_Count.calls k gb383 l0 t388 t389 64 t390 t391 t392 w _ ?side1 ?side2 A4.out).mono ?_); (case side1 => repeat (first | (with_reducible first | exact HI383.out | apply IsS61.alloc | apply IsS61.drewN | apply IsS61.drew | apply IsS61.set_1 | apply IsS61.set_2) | exact HI383.out)); (case side2 => repeat (first | (with_reducible first | exact HB.out | apply pbA_ | apply pbN_ | apply pb1_ | refine below_set ?_ (IsS61.ge HI383.out)) | exact HB.out)); rintro e w10 ⟨rfl, hi, hb, hk⟩; refine ⟨_, rfl, ?_⟩; have n0_ := Aside0.mk (hb); have n1_ := Aside0.mk (hi); clear HB; clear HI383; have HB := n0_; have HI383 := n1_; clear n0_ n1_; (try clear hb); (try clear hb2); (try clear hk); (try clear hi)) | ((with_reducible refine gaC_ (f := 37) rfl ?_); refine goesL_ (some 26) rfl rfl Try.func37 (by kernel_rfl) rfl #[.pointer (some ⟨gb383, 0, none⟩), .int .i64 32] rfl (by (try simp only [List.map_toArray, List.map_cons, List.map_nil]); first | done | rfl | (simp only [List.length_drop, List.length_take]; rfl)) ?_; (with_reducible refine (dragnetref02_Reader_Count.calls k gb383 l0 t391 t392 32 t393 t394 t395 w _ ?side1 ?side2 A5.out).mono ?_); (case side1 => repeat (first | (with_reducible first | exact HI383.out | apply IsS61.alloc | apply IsS61.drewN | apply IsS61.drew | apply IsS61.set_1 | apply IsS61.set_2) | exact HI383.out)); (case side2 => repeat (first | (with_reducible first | exact HB.out | apply pbA_ | apply pbN_ | apply pb1_ | refine below_set ?_ (IsS61.ge HI383.out)) | exact HB.out)); rintro e w11 ⟨rfl, hi, hb, hk⟩; refine ⟨_, rfl, ?_⟩; have n0_ := Aside0.mk (hb); have n1_ := Aside0.mk (hi); clear HB; clear HI383; have HB := n0_; have HI383 := n1_; clear n0_ n1_; (try clear hb); (try clear hb2); (try clear hk); (try clear hi)))
 (try simp only [Act.put, List.setIfInBounds_toArray, List.set_cons_zero, List.set_cons_succ])
 go_cut [47] (fun v47 wc => ∃ (kq : Nat) (x47_5 : Bool), v47 = .bool x47_5 ∧ Aside0 (dragnetref04_TakeBlock.j0 kq l0 t384 t387 t390 t393 x47_5 l0 t394 t395 = some (r1, r2, r3)) ∧ Aside0 (kq ≤ k) ∧ Aside0 (IsS61 w wc gb383 l0 t394 t395) ∧ Aside0 (Below w.heap.size w wc))
 case first =>
  have H := HC6.out
  clear HC6
  by_cases c12 : t395 = true
  ·subst c12
   have H1 : (dragnetref04_TakeBlock.j0 k l0 t384 t387 t390 t393 true l0 t394 true) = some (r1, r2, r3) := by rw [if_pos rfl] at H; exact H
   clear H
   have H := H1
   clear H1
   have H' := Aside0.mk H
   clear H
   try go_wp2
   (try (rw [drewN_self w11]; generalize hq_ : World.drewN w11 _ = w11; have n0_ : Aside0 (IsS61 w w11 gb383 l0 t394 true) := ⟨by rw [← hq_]; exact (by repeat (first | (with_reducible first | exact HI383.out | apply IsS61.alloc | apply IsS61.drewN | apply IsS61.drew | apply IsS61.set_1 | apply IsS61.set_2) | exact HI383.out))⟩; have n1_ : Aside0 (Below w.heap.size w w11) := ⟨by rw [← hq_]; exact (by repeat (first | (with_reducible first | exact HB.out | apply pbA_ | apply pbN_ | apply pb1_ | refine below_set ?_ (IsS61.ge HI383.out)) | exact HB.out))⟩; clear HI383 HB hq_; have HI383 := n0_; have HB := n1_; clear n0_ n1_))
   have n0_ := Aside0.mk (IsS61.drew HI383.out)
   have n1_ := Aside0.mk (pb1_ HB.out)
   clear HI383
   clear HB
   have HI383 := n0_
   have HB := n1_
   clear n0_ n1_
   obtain ⟨ASz14_0, cSz14_0, HGz14, hgz14, HSz14_0⟩ := HI383.out
   have hcz14_0 := cellS61_0 HGz14
   have hcz14_1 := cellS61_1 HGz14
   have hcz14_2 := cellS61_2 HGz14
   have hfz14_1 := blk_frozen HGz14 1
   have hfz14_2 := blk_frozen HGz14 2
   clear HGz14 hgz14
   refine start_ (n := 21) (S := fun w' => w'.cell? ⟨gb383, 0, none⟩ = some (.slice ASz14_0 l0.length cSz14_0) ∧ w'.cell? ⟨gb383, 1, none⟩ = some (.int .i64 t394) ∧ w'.cell? ⟨gb383, 2, none⟩ = some (.bool true)) (ds := []) #[false, false, false, false, false, false, false, false, false, false, false, false, false, false, false, false, false, false, false, false, false] (by kernel_rfl) rfl rfl ⟨hcz14_0, hcz14_1, hcz14_2⟩ (fun hHeld => ?_); refine with_tabW dragnetref04_TakeBlock.tab6 dragnetref04_TakeBlock.bits6 (fun HT_ HW_ => ?_)
   generalize w11.drew = w13 at HI383 HB hHeld ⊢
   refine pure_ (i := 0) (N := some 27) (v := ?_) (a' := ?_) #[tT,fF,fF,fF,fF,fF,fF,fF,fF,fF,fF,fF,fF,fF,fF,fF,fF,fF,fF,fF,fF] rfl rfl (any_of HT_.out (by kernel_rfl)) (fun _ _ _ h => h) (Or.inl ⟨by rfl, ?_⟩) ?_ ?_
   rotate_left
   ·intro w'
    go_simp
    with_reducible rfl
   rotate_left
   ·simp only [Act.put, List.setIfInBounds_toArray, List.set_cons_zero, List.set_cons_succ, i64_w, i32_w]
    rfl
   refine pure_ (i := 1) (N := some 28) (v := ?_) (a' := ?_) #[tT,tT,fF,fF,fF,fF,fF,fF,fF,fF,fF,fF,fF,fF,fF,fF,fF,fF,fF,fF,fF] rfl rfl (any_of HT_.out (by kernel_rfl)) (fun _ _ _ h => h) (Or.inl ⟨by rfl, ?_⟩) ?_ ?_
   rotate_left
   ·intro w'
    go_simp
    with_reducible rfl
   rotate_left
   ·simp only [Act.put, List.setIfInBounds_toArray, List.set_cons_zero, List.set_cons_succ, i64_w, i32_w]
    rfl
   refine pure_ (i := 2) (N := some 29) (v := ?_) (a' := ?_) #[tT,tT,tT,fF,fF,fF,fF,fF,fF,fF,fF,fF,fF,fF,fF,fF,fF,fF,fF,fF,fF] rfl rfl (any_of HT_.out (by kernel_rfl)) (fun _ _ _ h => h) (Or.inl ⟨by rfl, ?_⟩) ?_ ?_
   rotate_left
   ·intro w'
    go_simp
    with_reducible rfl
   rotate_left
   ·simp only [Act.put, List.setIfInBounds_toArray, List.set_cons_zero, List.set_cons_succ, i64_w, i32_w]
    rfl
   refine take_ (i := 3) (N := some 30) (v := ?_) (a' := ?_) #[tT,tT,tT,tT,fF,fF,fF,fF,fF,fF,fF,fF,fF,fF,fF,fF,fF,fF,fF,fF,fF] rfl rfl (take_ofW HT_.out HW_.out (by kernel_rfl)) (fun _ _ _ h => h) (Or.inl ⟨by rfl, ?_⟩) hHeld ?_ ?_
   rotate_left
   ·rintro w' ⟨s0, s1, s2⟩
    go_simp
    with_reducible rfl
   rotate_left
   ·simp only [Act.put, List.setIfInBounds_toArray, List.set_cons_zero, List.set_cons_succ, i64_w, i32_w]
    rfl
   refine pure_ (i := 4) (N := some 31) (v := ?_) (a' := ?_) #[tT,tT,tT,tT,tT,fF,fF,fF,fF,fF,fF,fF,fF,fF,fF,fF,fF,fF,fF,fF,fF] rfl rfl (any_of HT_.out (by kernel_rfl)) (fun _ _ _ h => h) (Or.inl ⟨by rfl, ?_⟩) ?_ ?_
   rotate_left
   ·intro w'
    go_simp
    with_reducible rfl
   rotate_left
   ·simp only [Act.put, List.setIfInBounds_toArray, List.set_cons_zero, List.set_cons_succ, i64_w, i32_w]
    rfl
   refine pure_ (i := 5) (N := some 32) (v := undef) (a' := ?_) #[tT,tT,tT,tT,tT,tT,fF,fF,fF,fF,fF,fF,fF,fF,fF,fF,fF,fF,fF,fF,fF] rfl rfl (any_of HT_.out (by kernel_rfl)) (fun _ _ _ h => h) (Or.inr ⟨by rfl, rfl⟩) ?_ ?_
   rotate_left
   ·simp only [Act.put, List.setIfInBounds_toArray, List.set_cons_zero, List.set_cons_succ, i64_w, i32_w]
    rfl
   refine pure_ (i := 6) (N := some 33) (v := undef) (a' := ?_) #[tT,tT,tT,tT,tT,tT,tT,fF,fF,fF,fF,fF,fF,fF,fF,fF,fF,fF,fF,fF,fF] rfl rfl (any_of HT_.out (by kernel_rfl)) (fun _ _ _ h => h) (Or.inr ⟨by rfl, rfl⟩) ?_ ?_
   rotate_left
   ·simp only [Act.put, List.setIfInBounds_toArray, List.set_cons_zero, List.set_cons_succ, i64_w, i32_w]
    rfl
   refine pure_ (i := 7) (N := some 34) (v := ?_) (a' := ?_) #[tT,tT,tT,tT,tT,tT,tT,tT,fF,fF,fF,fF,fF,fF,fF,fF,fF,fF,fF,fF,fF] rfl rfl (any_of HT_.out (by kernel_rfl)) (fun _ _ _ h => h) (Or.inl ⟨by rfl, ?_⟩) ?_ ?_
   rotate_left
   ·intro w'
    go_simp
    with_reducible rfl
   rotate_left
   ·simp only [Act.put, List.setIfInBounds_toArray, List.set_cons_zero, List.set_cons_succ, i64_w, i32_w]
    rfl
   refine pure_ (i := 8) (N := some 35) (v := ?_) (a' := ?_) #[tT,tT,tT,tT,tT,tT,tT,tT,tT,fF,fF,fF,fF,fF,fF,fF,fF,fF,fF,fF,fF] rfl rfl (any_of HT_.out (by kernel_rfl)) (fun _ _ _ h => h) (Or.inl ⟨by rfl, ?_⟩) ?_ ?_
   rotate_left
   ·intro w'
    go_simp
    with_reducible rfl
   rotate_left
   ·simp only [Act.put, List.setIfInBounds_toArray, List.set_cons_zero, List.set_cons_succ, i64_w, i32_w]
    rfl
   refine pure_ (i := 9) (N := some 36) (v := undef) (a' := ?_) #[tT,tT,tT,tT,tT,tT,tT,tT,tT,tT,fF,fF,fF,fF,fF,fF,fF,fF,fF,fF,fF] rfl rfl (any_of HT_.out (by kernel_rfl)) (fun _ _ _ h => h) (Or.inr ⟨by rfl, rfl⟩) ?_ ?_
   rotate_left
   ·simp only [Act.put, List.setIfInBounds_toArray, List.set_cons_zero, List.set_cons_succ, i64_w, i32_w]
    rfl
   refine pure_ (i := 10) (N := some 37) (v := undef) (a' := ?_) #[tT,tT,tT,tT,tT,tT,tT,tT,tT,tT,tT,fF,fF,fF,fF,fF,fF,fF,fF,fF,fF] rfl rfl (any_of HT_.out (by kernel_rfl)) (fun _ _ _ h => h) (Or.inr ⟨by rfl, rfl⟩) ?_ ?_
   rotate_left
   ·simp only [Act.put, List.setIfInBounds_toArray, List.set_cons_zero, List.set_cons_succ, i64_w, i32_w]
    rfl
   refine pure_ (i := 11) (N := some 38) (v := undef) (a' := ?_) #[tT,tT,tT,tT,tT,tT,tT,tT,tT,tT,tT,tT,fF,fF,fF,fF,fF,fF,fF,fF,fF] rfl rfl (any_of HT_.out (by kernel_rfl)) (fun _ _ _ h => h) (Or.inr ⟨by rfl, rfl⟩) ?_ ?_
   rotate_left
   ·simp only [Act.put, List.setIfInBounds_toArray, List.set_cons_zero, List.set_cons_succ, i64_w, i32_w]
    rfl
   refine pure_ (i := 12) (N := some 39) (v := undef) (a' := ?_) #[tT,tT,tT,tT,tT,tT,tT,tT,tT,tT,tT,tT,tT,fF,fF,fF,fF,fF,fF,fF,fF] rfl rfl (any_of HT_.out (by kernel_rfl)) (fun _ _ _ h => h) (Or.inr ⟨by rfl, rfl⟩) ?_ ?_
   rotate_left
   ·simp only [Act.put, List.setIfInBounds_toArray, List.set_cons_zero, List.set_cons_succ, i64_w, i32_w]
    rfl
   refine pure_ (i := 13) (N := some 40) (v := undef) (a' := ?_) #[tT,tT,tT,tT,tT,tT,tT,tT,tT,tT,tT,tT,tT,tT,fF,fF,fF,fF,fF,fF,fF] rfl rfl (any_of HT_.out (by kernel_rfl)) (fun _ _ _ h => h) (Or.inr ⟨by rfl, rfl⟩) ?_ ?_
   rotate_left
   ·simp only [Act.put, List.setIfInBounds_toArray, List.set_cons_zero, List.set_cons_succ, i64_w, i32_w]
    rfl
   refine pure_ (i := 14) (N := some 41) (v := undef) (a' := ?_) #[tT,tT,tT,tT,tT,tT,tT,tT,tT,tT,tT,tT,tT,tT,tT,fF,fF,fF,fF,fF,fF] rfl rfl (any_of HT_.out (by kernel_rfl)) (fun _ _ _ h => h) (Or.inr ⟨by rfl, rfl⟩) ?_ ?_
   rotate_left
   ·simp only [Act.put, List.setIfInBounds_toArray, List.set_cons_zero, List.set_cons_succ, i64_w, i32_w]
    rfl
   refine pure_ (i := 15) (N := some 42) (v := undef) (a' := ?_) #[tT,tT,tT,tT,tT,tT,tT,tT,tT,tT,tT,tT,tT,tT,tT,tT,fF,fF,fF,fF,fF] rfl rfl (any_of HT_.out (by kernel_rfl)) (fun _ _ _ h => h) (Or.inr ⟨by rfl, rfl⟩) ?_ ?_
   rotate_left
   ·simp only [Act.put, List.setIfInBounds_toArray, List.set_cons_zero, List.set_cons_succ, i64_w, i32_w]
    rfl
   refine pure_ (i := 16) (N := some 43) (v := undef) (a' := ?_) #[tT,tT,tT,tT,tT,tT,tT,tT,tT,tT,tT,tT,tT,tT,tT,tT,tT,fF,fF,fF,fF] rfl rfl (any_of HT_.out (by kernel_rfl)) (fun _ _ _ h => h) (Or.inr ⟨by rfl, rfl⟩) ?_ ?_
   rotate_left
   ·simp only [Act.put, List.setIfInBounds_toArray, List.set_cons_zero, List.set_cons_succ, i64_w, i32_w]
    rfl
   refine pure_ (i := 17) (N := some 44) (v := undef) (a' := ?_) #[tT,tT,tT,tT,tT,tT,tT,tT,tT,tT,tT,tT,tT,tT,tT,tT,tT,tT,fF,fF,fF] rfl rfl (any_of HT_.out (by kernel_rfl)) (fun _ _ _ h => h) (Or.inr ⟨by rfl, rfl⟩) ?_ ?_
   rotate_left
   ·simp only [Act.put, List.setIfInBounds_toArray, List.set_cons_zero, List.set_cons_succ, i64_w, i32_w]
    rfl
   refine pure_ (i := 18) (N := some 45) (v := undef) (a' := ?_) #[tT,tT,tT,tT,tT,tT,tT,tT,tT,tT,tT,tT,tT,tT,tT,tT,tT,tT,tT,fF,fF] rfl rfl (any_of HT_.out (by kernel_rfl)) (fun _ _ _ h => h) (Or.inr ⟨by rfl, rfl⟩) ?_ ?_
   rotate_left
   ·simp only [Act.put, List.setIfInBounds_toArray, List.set_cons_zero, List.set_cons_succ, i64_w, i32_w]
    rfl
   refine pure_ (i := 19) (N := some 46) (v := undef) (a' := ?_) #[tT,tT,tT,tT,tT,tT,tT,tT,tT,tT,tT,tT,tT,tT,tT,tT,tT,tT,tT,tT,fF] rfl rfl (any_of HT_.out (by kernel_rfl)) (fun _ _ _ h => h) (Or.inr ⟨by rfl, rfl⟩) ?_ ?_
   rotate_left
   ·simp only [Act.put, List.setIfInBounds_toArray, List.set_cons_zero, List.set_cons_succ, i64_w, i32_w]
    rfl
   refine pure_ (i := 20) (N := some 47) (v := ?_) (a' := ?_) #[tT,tT,tT,tT,tT,tT,tT,tT,tT,tT,tT,tT,tT,tT,tT,tT,tT,tT,tT,tT,tT] rfl rfl (any_of HT_.out (by kernel_rfl)) (fun _ _ _ h => h) (Or.inl ⟨by rfl, ?_⟩) ?_ ?_
   rotate_left
   ·intro w'
    go_simp
    with_reducible rfl
   rotate_left
   ·simp only [Act.put, List.setIfInBounds_toArray, List.set_cons_zero, List.set_cons_succ, i64_w, i32_w]
    rfl
   refine done_ (done_of HT_.out (by kernel_rfl)) ?_
   try go_wp2
   go_meet
   case rel => exact ⟨_, (true), (by first | rfl | (simp; done) | (simp [*]; done)), H', ⟨by first | omega | exact Nat.le_refl _⟩, ⟨by repeat (first | (with_reducible first | exact HI383.out | apply IsS61.alloc | apply IsS61.drewN | apply IsS61.drew | apply IsS61.set_1 | apply IsS61.set_2) | exact HI383.out)⟩, ⟨by repeat (first | (with_reducible first | exact HB.out | apply pbA_ | apply pbN_ | apply pb1_ | refine below_set ?_ (IsS61.ge HI383.out)) | exact HB.out)⟩⟩
  ·replace c12 := Bool.eq_false_iff.mpr c12
   subst c12
   have H1 : (if t384 = 0 then (dragnetref04_TakeBlock.j0 k l0 t384 t387 t390 t393 true l0 t394 false) else ((dragnetref03_Size.f t384 t390).bind fun t396 => (dragnetref04_TakeBlock.j0 k l0 t384 t387 t390 t393 (decide (t396 > (wrap64 ((l0.length : Int) - t394)))) l0 t394 false))) = some (r1, r2, r3) := by rw [if_neg (show ¬ (false = true) by decide)] at H; exact H
   clear H
   have H := H1
   clear H1
   by_cases c15 : t384 = 0
   ·rw [if_pos c15] at H
    have c15b0 : (t384 == 0) = true := beq_iff_eq.mpr c15
    have c15b1 : (t384 != 0) = false := bne_eq_false_iff_eq.mpr c15
    clear c15
    (first | rw [c15b0] | (simp only [i64_w, i32_w]; rw [c15b0]) | skip)
    have H' := Aside0.mk H
    clear H
    try go_wp2
    (try (rw [drewN_self w11]; generalize hq_ : World.drewN w11 _ = w11; have n0_ : Aside0 (IsS61 w w11 gb383 l0 t394 false) := ⟨by rw [← hq_]; exact (by repeat (first | (with_reducible first | exact HI383.out | apply IsS61.alloc | apply IsS61.drewN | apply IsS61.drew | apply IsS61.set_1 | apply IsS61.set_2) | exact HI383.out))⟩; have n1_ : Aside0 (Below w.heap.size w w11) := ⟨by rw [← hq_]; exact (by repeat (first | (with_reducible first | exact HB.out | apply pbA_ | apply pbN_ | apply pb1_ | refine below_set ?_ (IsS61.ge HI383.out)) | exact HB.out))⟩; clear HI383 HB hq_; have HI383 := n0_; have HB := n1_; clear n0_ n1_))
    have n0_ := Aside0.mk (IsS61.drew HI383.out)
    have n1_ := Aside0.mk (pb1_ HB.out)
    clear HI383
    clear HB
    have HI383 := n0_
    have HB := n1_
    clear n0_ n1_
    obtain ⟨ASz17_0, cSz17_0, HGz17, hgz17, HSz17_0⟩ := HI383.out
    have hcz17_0 := cellS61_0 HGz17
    have hcz17_1 := cellS61_1 HGz17
    have hcz17_2 := cellS61_2 HGz17
    have hfz17_1 := blk_frozen HGz17 1
    have hfz17_2 := blk_frozen HGz17 2
    clear HGz17 hgz17
    refine start_ (n := 21) (S := fun w' => w'.cell? ⟨gb383, 0, none⟩ = some (.slice ASz17_0 l0.length cSz17_0) ∧ w'.cell? ⟨gb383, 1, none⟩ = some (.int .i64 t394) ∧ w'.cell? ⟨gb383, 2, none⟩ = some (.bool false)) (ds := []) #[false, false, false, false, false, false, false, false, false, false, false, false, false, false, false, false, false, false, false, false, false] (by kernel_rfl) rfl rfl ⟨hcz17_0, hcz17_1, hcz17_2⟩ (fun hHeld => ?_); refine with_tabW dragnetref04_TakeBlock.tab6 dragnetref04_TakeBlock.bits6 (fun HT_ HW_ => ?_)
    generalize w11.drew = w16 at HI383 HB hHeld ⊢
    refine pure_ (i := 0) (N := some 27) (v := ?_) (a' := ?_) #[tT,fF,fF,fF,fF,fF,fF,fF,fF,fF,fF,fF,fF,fF,fF,fF,fF,fF,fF,fF,fF] rfl rfl (any_of HT_.out (by kernel_rfl)) (fun _ _ _ h => h) (Or.inl ⟨by rfl, ?_⟩) ?_ ?_
    rotate_left
    ·intro w'
     go_simp
     with_reducible rfl
    rotate_left
    ·simp only [Act.put, List.setIfInBounds_toArray, List.set_cons_zero, List.set_cons_succ, i64_w, i32_w]
     rfl
    refine pure_ (i := 1) (N := some 28) (v := ?_) (a' := ?_) #[tT,tT,fF,fF,fF,fF,fF,fF,fF,fF,fF,fF,fF,fF,fF,fF,fF,fF,fF,fF,fF] rfl rfl (any_of HT_.out (by kernel_rfl)) (fun _ _ _ h => h) (Or.inl ⟨by rfl, ?_⟩) ?_ ?_
    rotate_left
    ·intro w'
     go_simp
     with_reducible rfl
    rotate_left
    ·simp only [Act.put, List.setIfInBounds_toArray, List.set_cons_zero, List.set_cons_succ, i64_w, i32_w]
     rfl
    refine pure_ (i := 2) (N := some 29) (v := ?_) (a' := ?_) #[tT,tT,tT,fF,fF,fF,fF,fF,fF,fF,fF,fF,fF,fF,fF,fF,fF,fF,fF,fF,fF] rfl rfl (any_of HT_.out (by kernel_rfl)) (fun _ _ _ h => h) (Or.inl ⟨by rfl, ?_⟩) ?_ ?_
    rotate_left
    ·intro w'
     go_simp
     with_reducible rfl
    rotate_left
    ·simp only [Act.put, List.setIfInBounds_toArray, List.set_cons_zero, List.set_cons_succ, i64_w, i32_w]
     rfl
    refine take_ (i := 3) (N := some 30) (v := ?_) (a' := ?_) #[tT,tT,tT,tT,fF,fF,fF,fF,fF,fF,fF,fF,fF,fF,fF,fF,fF,fF,fF,fF,fF] rfl rfl (take_ofW HT_.out HW_.out (by kernel_rfl)) (fun _ _ _ h => h) (Or.inl ⟨by rfl, ?_⟩) hHeld ?_ ?_
    rotate_left
    ·rintro w' ⟨s0, s1, s2⟩
     go_simp
     with_reducible rfl
    rotate_left
    ·simp only [Act.put, List.setIfInBounds_toArray, List.set_cons_zero, List.set_cons_succ, i64_w, i32_w]
     rfl
    refine pure_ (i := 4) (N := some 31) (v := ?_) (a' := ?_) #[tT,tT,tT,tT,tT,fF,fF,fF,fF,fF,fF,fF,fF,fF,fF,fF,fF,fF,fF,fF,fF] rfl rfl (any_of HT_.out (by kernel_rfl)) (fun _ _ _ h => h) (Or.inl ⟨by rfl, ?_⟩) ?_ ?_
    rotate_left
    ·intro w'
     go_simp
     with_reducible rfl
    rotate_left
    ·simp only [Act.put, List.setIfInBounds_toArray, List.set_cons_zero, List.set_cons_succ, i64_w, i32_w]
     rfl
    refine pure_ (i := 5) (N := some 32) (v := ?_) (a' := ?_) #[tT,tT,tT,tT,tT,tT,fF,fF,fF,fF,fF,fF,fF,fF,fF,fF,fF,fF,fF,fF,fF] rfl rfl (any_of HT_.out (by kernel_rfl)) (fun _ _ _ h => h) (Or.inl ⟨by rfl, ?_⟩) ?_ ?_
    rotate_left
    ·intro w'
     go_simp
     with_reducible rfl
    rotate_left
    ·simp only [Act.put, List.setIfInBounds_toArray, List.set_cons_zero, List.set_cons_succ, i64_w, i32_w]
     rfl
    refine pure_ (i := 6) (N := some 33) (v := ?_) (a' := ?_) #[tT,tT,tT,tT,tT,tT,tT,fF,fF,fF,fF,fF,fF,fF,fF,fF,fF,fF,fF,fF,fF] rfl rfl (any_of HT_.out (by kernel_rfl)) (fun _ _ _ h => h) (Or.inl ⟨by rfl, ?_⟩) ?_ ?_
    rotate_left
    ·intro w'
     go_simp
     with_reducible rfl
    rotate_left
    ·simp only [Act.put, List.setIfInBounds_toArray, List.set_cons_zero, List.set_cons_succ, i64_w, i32_w]
     rfl
    refine pure_ (i := 7) (N := some 34) (v := ?_) (a' := ?_) #[tT,tT,tT,tT,tT,tT,tT,tT,fF,fF,fF,fF,fF,fF,fF,fF,fF,fF,fF,fF,fF] rfl rfl (any_of HT_.out (by kernel_rfl)) (fun _ _ _ h => h) (Or.inl ⟨by rfl, ?_⟩) ?_ ?_
    rotate_left
    ·intro w'
     go_simp
     with_reducible rfl
    rotate_left
    ·simp only [Act.put, List.setIfInBounds_toArray, List.set_cons_zero, List.set_cons_succ, i64_w, i32_w]
     rfl
    refine pure_ (i := 8) (N := some 35) (v := ?_) (a' := ?_) #[tT,tT,tT,tT,tT,tT,tT,tT,tT,fF,fF,fF,fF,fF,fF,fF,fF,fF,fF,fF,fF] rfl rfl (any_of HT_.out (by kernel_rfl)) (fun _ _ _ h => h) (Or.inl ⟨by rfl, ?_⟩) ?_ ?_
    rotate_left
    ·intro w'
     go_simp
     with_reducible rfl
    rotate_left
    ·simp only [Act.put, List.setIfInBounds_toArray, List.set_cons_zero, List.set_cons_succ, i64_w, i32_w]
     rfl
    refine pure_ (i := 9) (N := some 36) (v := undef) (a' := ?_) #[tT,tT,tT,tT,tT,tT,tT,tT,tT,tT,fF,fF,fF,fF,fF,fF,fF,fF,fF,fF,fF] rfl rfl (any_of HT_.out (by kernel_rfl)) (fun _ _ _ h => h) (Or.inr ⟨by rfl, rfl⟩) ?_ ?_
    rotate_left
    ·simp only [Act.put, List.setIfInBounds_toArray, List.set_cons_zero, List.set_cons_succ, i64_w, i32_w]
     rfl
    refine pure_ (i := 10) (N := some 37) (v := undef) (a' := ?_) #[tT,tT,tT,tT,tT,tT,tT,tT,tT,tT,tT,fF,fF,fF,fF,fF,fF,fF,fF,fF,fF] rfl rfl (any_of HT_.out (by kernel_rfl)) (fun _ _ _ h => h) (Or.inr ⟨by rfl, rfl⟩) ?_ ?_
    rotate_left
    ·simp only [Act.put, List.setIfInBounds_toArray, List.set_cons_zero, List.set_cons_succ, i64_w, i32_w]
     rfl
    refine pure_ (i := 11) (N := some 38) (v := undef) (a' := ?_) #[tT,tT,tT,tT,tT,tT,tT,tT,tT,tT,tT,tT,fF,fF,fF,fF,fF,fF,fF,fF,fF] rfl rfl (any_of HT_.out (by kernel_rfl)) (fun _ _ _ h => h) (Or.inr ⟨by rfl, rfl⟩) ?_ ?_
    rotate_left
    ·simp only [Act.put, List.setIfInBounds_toArray, List.set_cons_zero, List.set_cons_succ, i64_w, i32_w]
     rfl
    refine pure_ (i := 12) (N := some 39) (v := undef) (a' := ?_) #[tT,tT,tT,tT,tT,tT,tT,tT,tT,tT,tT,tT,tT,fF,fF,fF,fF,fF,fF,fF,fF] rfl rfl (any_of HT_.out (by kernel_rfl)) (fun _ _ _ h => h) (Or.inr ⟨by rfl, rfl⟩) ?_ ?_
    rotate_left
    ·simp only [Act.put, List.setIfInBounds_toArray, List.set_cons_zero, List.set_cons_succ, i64_w, i32_w]
     rfl
    refine pure_ (i := 13) (N := some 40) (v := undef) (a' := ?_) #[tT,tT,tT,tT,tT,tT,tT,tT,tT,tT,tT,tT,tT,tT,fF,fF,fF,fF,fF,fF,fF] rfl rfl (any_of HT_.out (by kernel_rfl)) (fun _ _ _ h => h) (Or.inr ⟨by rfl, rfl⟩) ?_ ?_
    rotate_left
    ·simp only [Act.put, List.setIfInBounds_toArray, List.set_cons_zero, List.set_cons_succ, i64_w, i32_w]
     rfl
    refine pure_ (i := 14) (N := some 41) (v := undef) (a' := ?_) #[tT,tT,tT,tT,tT,tT,tT,tT,tT,tT,tT,tT,tT,tT,tT,fF,fF,fF,fF,fF,fF] rfl rfl (any_of HT_.out (by kernel_rfl)) (fun _ _ _ h => h) (Or.inr ⟨by rfl, rfl⟩) ?_ ?_
    rotate_left
    ·simp only [Act.put, List.setIfInBounds_toArray, List.set_cons_zero, List.set_cons_succ, i64_w, i32_w]
     rfl
    refine pure_ (i := 15) (N := some 42) (v := undef) (a' := ?_) #[tT,tT,tT,tT,tT,tT,tT,tT,tT,tT,tT,tT,tT,tT,tT,tT,fF,fF,fF,fF,fF] rfl rfl (any_of HT_.out (by kernel_rfl)) (fun _ _ _ h => h) (Or.inr ⟨by rfl, rfl⟩) ?_ ?_
    rotate_left
    ·simp only [Act.put, List.setIfInBounds_toArray, List.set_cons_zero, List.set_cons_succ, i64_w, i32_w]
     rfl
    refine pure_ (i := 16) (N := some 43) (v := undef) (a' := ?_) #[tT,tT,tT,tT,tT,tT,tT,tT,tT,tT,tT,tT,tT,tT,tT,tT,tT,fF,fF,fF,fF] rfl rfl (any_of HT_.out (by kernel_rfl)) (fun _ _ _ h => h) (Or.inr ⟨by rfl, rfl⟩) ?_ ?_
    rotate_left
    ·simp only [Act.put, List.setIfInBounds_toArray, List.set_cons_zero, List.set_cons_succ, i64_w, i32_w]
     rfl
    refine pure_ (i := 17) (N := some 44) (v := undef) (a' := ?_) #[tT,tT,tT,tT,tT,tT,tT,tT,tT,tT,tT,tT,tT,tT,tT,tT,tT,tT,fF,fF,fF] rfl rfl (any_of HT_.out (by kernel_rfl)) (fun _ _ _ h => h) (Or.inr ⟨by rfl, rfl⟩) ?_ ?_
    rotate_left
    ·simp only [Act.put, List.setIfInBounds_toArray, List.set_cons_zero, List.set_cons_succ, i64_w, i32_w]
     rfl
    refine pure_ (i := 18) (N := some 45) (v := undef) (a' := ?_) #[tT,tT,tT,tT,tT,tT,tT,tT,tT,tT,tT,tT,tT,tT,tT,tT,tT,tT,tT,fF,fF] rfl rfl (any_of HT_.out (by kernel_rfl)) (fun _ _ _ h => h) (Or.inr ⟨by rfl, rfl⟩) ?_ ?_
    rotate_left
    ·simp only [Act.put, List.setIfInBounds_toArray, List.set_cons_zero, List.set_cons_succ, i64_w, i32_w]
     rfl
    refine pure_ (i := 19) (N := some 46) (v := undef) (a' := ?_) #[tT,tT,tT,tT,tT,tT,tT,tT,tT,tT,tT,tT,tT,tT,tT,tT,tT,tT,tT,tT,fF] rfl rfl (any_of HT_.out (by kernel_rfl)) (fun _ _ _ h => h) (Or.inr ⟨by rfl, rfl⟩) ?_ ?_
    rotate_left
    ·simp only [Act.put, List.setIfInBounds_toArray, List.set_cons_zero, List.set_cons_succ, i64_w, i32_w]
     rfl
    refine pure_ (i := 20) (N := some 47) (v := ?_) (a' := ?_) #[tT,tT,tT,tT,tT,tT,tT,tT,tT,tT,tT,tT,tT,tT,tT,tT,tT,tT,tT,tT,tT] rfl rfl (any_of HT_.out (by kernel_rfl)) (fun _ _ _ h => h) (Or.inl ⟨by rfl, ?_⟩) ?_ ?_
    rotate_left
    ·intro w'
     go_simp
     with_reducible rfl
    rotate_left
    ·simp only [Act.put, List.setIfInBounds_toArray, List.set_cons_zero, List.set_cons_succ, i64_w, i32_w]
     rfl
    refine done_ (done_of HT_.out (by kernel_rfl)) ?_
    try go_wp2
    go_meet
    case rel => exact ⟨_, (true), (by first | rfl | (simp; done) | (simp [*]; done)), H', ⟨by first | omega | exact Nat.le_refl _⟩, ⟨by repeat (first | (with_reducible first | exact HI383.out | apply IsS61.alloc | apply IsS61.drewN | apply IsS61.drew | apply IsS61.set_1 | apply IsS61.set_2) | exact HI383.out)⟩, ⟨by repeat (first | (with_reducible first | exact HB.out | apply pbA_ | apply pbN_ | apply pb1_ | refine below_set ?_ (IsS61.ge HI383.out)) | exact HB.out)⟩⟩
   ·rw [if_neg c15] at H
    have c15b0 : (t384 == 0) = false := beq_eq_false_iff_ne.mpr c15
    have c15b1 : (t384 != 0) = true := bne_iff_ne.mpr c15
    (first | rw [c15b0] | (simp only [i64_w, i32_w]; rw [c15b0]) | skip)
    replace H := Option.bind_eq_some_iff.mp H
    obtain ⟨t396, A180, H⟩ := H
    replace H : (dragnetref04_TakeBlock.j0 k l0 t384 t387 t390 t393 (decide (t396 > (wrap64 ((l0.length : Int) - t394)))) l0 t394 false) = some (r1, r2, r3) := H
    have A18 := Aside0.mk A180
    clear A180
    have H' := Aside0.mk H
    clear H
    try go_wp2
    (try (rw [drewN_self w11]; generalize hq_ : World.drewN w11 _ = w11; have n0_ : Aside0 (IsS61 w w11 gb383 l0 t394 false) := ⟨by rw [← hq_]; exact (by repeat (first | (with_reducible first | exact HI383.out | apply IsS61.alloc | apply IsS61.drewN | apply IsS61.drew | apply IsS61.set_1 | apply IsS61.set_2) | exact HI383.out))⟩; have n1_ : Aside0 (Below w.heap.size w w11) := ⟨by rw [← hq_]; exact (by repeat (first | (with_reducible first | exact HB.out | apply pbA_ | apply pbN_ | apply pb1_ | refine below_set ?_ (IsS61.ge HI383.out)) | exact HB.out))⟩; clear HI383 HB hq_; have HI383 := n0_; have HB := n1_; clear n0_ n1_))
    have n0_ := Aside0.mk (IsS61.drew HI383.out)
    have n1_ := Aside0.mk (pb1_ HB.out)
    clear HI383
    clear HB
    have HI383 := n0_
    have HB := n1_
    clear n0_ n1_
    obtain ⟨ASz20_0, cSz20_0, HGz20, hgz20, HSz20_0⟩ := HI383.out
    have hcz20_0 := cellS61_0 HGz20
    have hcz20_1 := cellS61_1 HGz20
    have hcz20_2 := cellS61_2 HGz20
    have hfz20_1 := blk_frozen HGz20 1
    have hfz20_2 := blk_frozen HGz20 2
    clear HGz20 hgz20
    refine start_ (n := 21) (S := fun w' => w'.cell? ⟨gb383, 0, none⟩ = some (.slice ASz20_0 l0.length cSz20_0) ∧ w'.cell? ⟨gb383, 1, none⟩ = some (.int .i64 t394) ∧ w'.cell? ⟨gb383, 2, none⟩ = some (.bool false)) (ds := []) #[false, false, false, false, false, false, false, false, false, false, false, false, false, false, false, false, false, false, false, false, false] (by kernel_rfl) rfl rfl ⟨hcz20_0, hcz20_1, hcz20_2⟩ (fun hHeld => ?_); refine with_tabW dragnetref04_TakeBlock.tab6 dragnetref04_TakeBlock.bits6 (fun HT_ HW_ => ?_)
    generalize w11.drew = w19 at HI383 HB hHeld ⊢
    refine pure_ (i := 0) (N := some 27) (v := ?_) (a' := ?_) #[tT,fF,fF,fF,fF,fF,fF,fF,fF,fF,fF,fF,fF,fF,fF,fF,fF,fF,fF,fF,fF] rfl rfl (any_of HT_.out (by kernel_rfl)) (fun _ _ _ h => h) (Or.inl ⟨by rfl, ?_⟩) ?_ ?_
    rotate_left
    ·intro w'
     go_simp
     with_reducible rfl
    rotate_left
    ·simp only [Act.put, List.setIfInBounds_toArray, List.set_cons_zero, List.set_cons_succ, i64_w, i32_w]
     rfl
    refine pure_ (i := 1) (N := some 28) (v := ?_) (a' := ?_) #[tT,tT,fF,fF,fF,fF,fF,fF,fF,fF,fF,fF,fF,fF,fF,fF,fF,fF,fF,fF,fF] rfl rfl (any_of HT_.out (by kernel_rfl)) (fun _ _ _ h => h) (Or.inl ⟨by rfl, ?_⟩) ?_ ?_
    rotate_left
    ·intro w'
     go_simp
     with_reducible rfl
    rotate_left
    ·simp only [Act.put, List.setIfInBounds_toArray, List.set_cons_zero, List.set_cons_succ, i64_w, i32_w]
     rfl
    refine pure_ (i := 2) (N := some 29) (v := ?_) (a' := ?_) #[tT,tT,tT,fF,fF,fF,fF,fF,fF,fF,fF,fF,fF,fF,fF,fF,fF,fF,fF,fF,fF] rfl rfl (any_of HT_.out (by kernel_rfl)) (fun _ _ _ h => h) (Or.inl ⟨by rfl, ?_⟩) ?_ ?_
    rotate_left
    ·intro w'
     go_simp
     with_reducible rfl
    rotate_left
    ·simp only [Act.put, List.setIfInBounds_toArray, List.set_cons_zero, List.set_cons_succ, i64_w, i32_w]
     rfl
    refine take_ (i := 3) (N := some 30) (v := ?_) (a' := ?_) #[tT,tT,tT,tT,fF,fF,fF,fF,fF,fF,fF,fF,fF,fF,fF,fF,fF,fF,fF,fF,fF] rfl rfl (take_ofW HT_.out HW_.out (by kernel_rfl)) (fun _ _ _ h => h) (Or.inl ⟨by rfl, ?_⟩) hHeld ?_ ?_
    rotate_left
    ·rintro w' ⟨s0, s1, s2⟩
     go_simp
     with_reducible rfl
    rotate_left
    ·simp only [Act.put, List.setIfInBounds_toArray, List.set_cons_zero, List.set_cons_succ, i64_w, i32_w]
     rfl
    refine pure_ (i := 4) (N := some 31) (v := ?_) (a' := ?_) #[tT,tT,tT,tT,tT,fF,fF,fF,fF,fF,fF,fF,fF,fF,fF,fF,fF,fF,fF,fF,fF] rfl rfl (any_of HT_.out (by kernel_rfl)) (fun _ _ _ h => h) (Or.inl ⟨by rfl, ?_⟩) ?_ ?_
    rotate_left
    ·intro w'
     go_simp
     with_reducible rfl
    rotate_left
    ·simp only [Act.put, List.setIfInBounds_toArray, List.set_cons_zero, List.set_cons_succ, i64_w, i32_w]
     rfl
    refine pure_ (i := 5) (N := some 32) (v := ?_) (a' := ?_) #[tT,tT,tT,tT,tT,tT,fF,fF,fF,fF,fF,fF,fF,fF,fF,fF,fF,fF,fF,fF,fF] rfl rfl (any_of HT_.out (by kernel_rfl)) (fun _ _ _ h => h) (Or.inl ⟨by rfl, ?_⟩) ?_ ?_
    rotate_left
    ·intro w'
     go_simp
     with_reducible rfl
    rotate_left
    ·simp only [Act.put, List.setIfInBounds_toArray, List.set_cons_zero, List.set_cons_succ, i64_w, i32_w]
     rfl
    refine pure_ (i := 6) (N := some 33) (v := ?_) (a' := ?_) #[tT,tT,tT,tT,tT,tT,tT,fF,fF,fF,fF,fF,fF,fF,fF,fF,fF,fF,fF,fF,fF] rfl rfl (any_of HT_.out (by kernel_rfl)) (fun _ _ _ h => h) (Or.inl ⟨by rfl, ?_⟩) ?_ ?_
    rotate_left
    ·intro w'
     go_simp
     with_reducible rfl
    rotate_left
    ·simp only [Act.put, List.setIfInBounds_toArray, List.set_cons_zero, List.set_cons_succ, i64_w, i32_w]
     rfl
    refine pure_ (i := 7) (N := some 34) (v := ?_) (a' := ?_) #[tT,tT,tT,tT,tT,tT,tT,tT,fF,fF,fF,fF,fF,fF,fF,fF,fF,fF,fF,fF,fF] rfl rfl (any_of HT_.out (by kernel_rfl)) (fun _ _ _ h => h) (Or.inl ⟨by rfl, ?_⟩) ?_ ?_
    rotate_left
    ·intro w'
     go_simp
     with_reducible rfl
    rotate_left
    ·simp only [Act.put, List.setIfInBounds_toArray, List.set_cons_zero, List.set_cons_succ, i64_w, i32_w]
     rfl
    refine pure_ (i := 8) (N := some 35) (v := ?_) (a' := ?_) #[tT,tT,tT,tT,tT,tT,tT,tT,tT,fF,fF,fF,fF,fF,fF,fF,fF,fF,fF,fF,fF] rfl rfl (any_of HT_.out (by kernel_rfl)) (fun _ _ _ h => h) (Or.inl ⟨by rfl, ?_⟩) ?_ ?_
    rotate_left
    ·intro w'
     go_simp
     with_reducible rfl
    rotate_left
    ·simp only [Act.put, List.setIfInBounds_toArray, List.set_cons_zero, List.set_cons_succ, i64_w, i32_w]
     rfl
    refine pure_ (i := 9) (N := some 36) (v := ?_) (a' := ?_) #[tT,tT,tT,tT,tT,tT,tT,tT,tT,tT,fF,fF,fF,fF,fF,fF,fF,fF,fF,fF,fF] rfl rfl (any_of HT_.out (by kernel_rfl)) (fun _ _ _ h => h) (Or.inl ⟨by rfl, ?_⟩) ?_ ?_
    rotate_left
    ·intro w'
     go_simp
     with_reducible rfl
    rotate_left
    ·simp only [Act.put, List.setIfInBounds_toArray, List.set_cons_zero, List.set_cons_succ, i64_w, i32_w]
     rfl
    refine pure_ (i := 10) (N := some 37) (v := ?_) (a' := ?_) #[tT,tT,tT,tT,tT,tT,tT,tT,tT,tT,tT,fF,fF,fF,fF,fF,fF,fF,fF,fF,fF] rfl rfl (any_of HT_.out (by kernel_rfl)) (fun _ _ _ h => h) (Or.inl ⟨by rfl, ?_⟩) ?_ ?_
    rotate_left
    ·intro w'
     go_simp
     with_reducible rfl
    rotate_left
    ·simp only [Act.put, List.setIfInBounds_toArray, List.set_cons_zero, List.set_cons_succ, i64_w, i32_w]
     rfl
    refine pure_ (i := 12) (N := some 39) (v := ?_) (a' := ?_) #[tT,tT,tT,tT,tT,tT,tT,tT,tT,tT,tT,fF,tT,fF,fF,fF,fF,fF,fF,fF,fF] rfl rfl (any_of HT_.out (by kernel_rfl)) (fun _ _ _ h => h) (Or.inl ⟨by rfl, ?_⟩) ?_ ?_
    rotate_left
    ·intro w'
     go_simp
     with_reducible rfl
    rotate_left
    ·simp only [Act.put, List.setIfInBounds_toArray, List.set_cons_zero, List.set_cons_succ, i64_w, i32_w]
     rfl
    refine pure_ (i := 13) (N := some 40) (v := ?_) (a' := ?_) #[tT,tT,tT,tT,tT,tT,tT,tT,tT,tT,tT,fF,tT,tT,fF,fF,fF,fF,fF,fF,fF] rfl rfl (any_of HT_.out (by kernel_rfl)) (fun _ _ _ h => h) (Or.inl ⟨by rfl, ?_⟩) ?_ ?_
    rotate_left
    ·intro w'
     go_simp
     with_reducible rfl
    rotate_left
    ·simp only [Act.put, List.setIfInBounds_toArray, List.set_cons_zero, List.set_cons_succ, i64_w, i32_w]
     rfl
    refine pure_ (i := 14) (N := some 41) (v := ?_) (a' := ?_) #[tT,tT,tT,tT,tT,tT,tT,tT,tT,tT,tT,fF,tT,tT,tT,fF,fF,fF,fF,fF,fF] rfl rfl (any_of HT_.out (by kernel_rfl)) (fun _ _ _ h => h) (Or.inl ⟨by rfl, ?_⟩) ?_ ?_
    rotate_left
    ·intro w'
     go_simp
     with_reducible rfl
    rotate_left
    ·simp only [Act.put, List.setIfInBounds_toArray, List.set_cons_zero, List.set_cons_succ, i64_w, i32_w]
     rfl
    refine pure_ (i := 15) (N := some 42) (v := ?_) (a' := ?_) #[tT,tT,tT,tT,tT,tT,tT,tT,tT,tT,tT,fF,tT,tT,tT,tT,fF,fF,fF,fF,fF] rfl rfl (any_of HT_.out (by kernel_rfl)) (fun _ _ _ h => h) (Or.inl ⟨by rfl, ?_⟩) ?_ ?_
    rotate_left
    ·intro w'
     go_simp
     with_reducible rfl
    rotate_left
    ·simp only [Act.put, List.setIfInBounds_toArray, List.set_cons_zero, List.set_cons_succ, i64_w, i32_w]
     rfl
    refine pure_ (i := 16) (N := some 43) (v := ?_) (a' := ?_) #[tT,tT,tT,tT,tT,tT,tT,tT,tT,tT,tT,fF,tT,tT,tT,tT,tT,fF,fF,fF,fF] rfl rfl (any_of HT_.out (by kernel_rfl)) (fun _ _ _ h => h) (Or.inl ⟨by rfl, ?_⟩) ?_ ?_
    rotate_left
    ·intro w'
     go_simp
     with_reducible rfl
    rotate_left
    ·simp only [Act.put, List.setIfInBounds_toArray, List.set_cons_zero, List.set_cons_succ, i64_w, i32_w]
     rfl
    refine take_ (i := 17) (N := some 44) (v := ?_) (a' := ?_) #[tT,tT,tT,tT,tT,tT,tT,tT,tT,tT,tT,fF,tT,tT,tT,tT,tT,tT,fF,fF,fF] rfl rfl (take_ofW HT_.out HW_.out (by kernel_rfl)) (fun _ _ _ h => h) (Or.inl ⟨by rfl, ?_⟩) hHeld ?_ ?_
    rotate_left
    ·rintro w' ⟨s0, s1, s2⟩
     go_simp
     with_reducible rfl
    rotate_left
    ·simp only [Act.put, List.setIfInBounds_toArray, List.set_cons_zero, List.set_cons_succ, i64_w, i32_w]
     rfl
    refine pure_ (i := 18) (N := some 45) (v := ?_) (a' := ?_) #[tT,tT,tT,tT,tT,tT,tT,tT,tT,tT,tT,fF,tT,tT,tT,tT,tT,tT,tT,fF,fF] rfl rfl (any_of HT_.out (by kernel_rfl)) (fun _ _ _ h => h) (Or.inl ⟨by rfl, ?_⟩) ?_ ?_
    rotate_left
    ·intro w'
     go_simp
     with_reducible rfl
    rotate_left
    ·simp only [Act.put, List.setIfInBounds_toArray, List.set_cons_zero, List.set_cons_succ, i64_w, i32_w]
     rfl
    refine one_ (i := 11) (N := some 38) #[tT,tT,tT,tT,tT,tT,tT,tT,tT,tT,tT,tT,tT,tT,tT,tT,tT,tT,tT,fF,fF] rfl rfl (one_of HT_.out (by kernel_rfl)) (by decide) (fun K hK => ?_)
    refine goes_ Try.func39 (by kernel_rfl) rfl #[.int .i64 t384, .int .i64 t390] (by rfl) rfl rfl (by (try simp only [List.map_toArray, List.map_cons, List.map_nil]); first | done | rfl | (simp only [List.length_drop, List.length_take]; rfl)) ?_
    with_reducible refine (dragnetref03_Size.calls t384 t390 t396 _ A18.out).mono ?_
    rintro e w' ⟨rfl, ⟨nd, rfl⟩⟩
    refine ⟨_, rfl, ?_⟩
    refine hK.out _ _ ⟨hHeld.1, hHeld.2.1, hHeld.2.2⟩ (fun hHeld => ?_)
    clear hK K
    refine norm_ (a' := ?_) ?_ ?_
    rotate_left
    ·show Act.put _ (some 38) _ = _
     simp only [Act.put, List.setIfInBounds_toArray, List.set_cons_zero, List.set_cons_succ, i64_w, i32_w]
     rfl
    refine pure_ (i := 19) (N := some 46) (v := ?_) (a' := ?_) #[tT,tT,tT,tT,tT,tT,tT,tT,tT,tT,tT,tT,tT,tT,tT,tT,tT,tT,tT,tT,fF] rfl rfl (any_of HT_.out (by kernel_rfl)) (fun _ _ _ h => h) (Or.inl ⟨by rfl, ?_⟩) ?_ ?_
    rotate_left
    ·intro w'
     go_simp
     with_reducible rfl
    rotate_left
    ·simp only [Act.put, List.setIfInBounds_toArray, List.set_cons_zero, List.set_cons_succ, i64_w, i32_w]
     rfl
    refine pure_ (i := 20) (N := some 47) (v := ?_) (a' := ?_) #[tT,tT,tT,tT,tT,tT,tT,tT,tT,tT,tT,tT,tT,tT,tT,tT,tT,tT,tT,tT,tT] rfl rfl (any_of HT_.out (by kernel_rfl)) (fun _ _ _ h => h) (Or.inl ⟨by rfl, ?_⟩) ?_ ?_
    rotate_left
    ·intro w'
     go_simp
     with_reducible rfl
    rotate_left
    ·simp only [Act.put, List.setIfInBounds_toArray, List.set_cons_zero, List.set_cons_succ, i64_w, i32_w]
     rfl
    refine done_ (done_of HT_.out (by kernel_rfl)) ?_
    try go_wp2
    go_meet
    case rel => exact ⟨_, (decide (t396 > (wrap64 ((l0.length : Int) - t394)))), (by first | rfl | (simp; done) | (simp [*]; done)), H', ⟨by first | omega | exact Nat.le_refl _⟩, ⟨by repeat (first | (with_reducible first | exact HI383.out | apply IsS61.alloc | apply IsS61.drewN | apply IsS61.drew | apply IsS61.set_1 | apply IsS61.set_2) | exact HI383.out)⟩, ⟨by repeat (first | (with_reducible first | exact HB.out | apply pbA_ | apply pbN_ | apply pb1_ | refine below_set ?_ (IsS61.ge HI383.out)) | exact HB.out)⟩⟩
 case rest =>
  clear HC6
  try clear c1
  try clear p2
  try clear c3
  try clear p6
  try clear c12
  try clear c15
  try clear c15b0
  try clear c15b1
  try clear c17
  try clear hcz14_0
  try clear hcz14_1
  try clear hcz14_2
  try clear hcz17_0
  try clear hcz17_1
  try clear hcz17_2
  try clear hcz20_0
  try clear hcz20_1
  try clear hcz20_2
  try clear hfz14_1
  try clear hfz14_2
  try clear hfz17_1
  try clear hfz17_2
  try clear hfz20_1
  try clear hfz20_2
  obtain ⟨kq, x47_5, rfl, HA, HJ5, HI383, HB⟩ := hcut
  cases kq with
  | zero => exact absurd HA.out (by simp [dragnetref04_TakeBlock.j0])
  | succ kj5 =>
   have H := HA.out
   clear HA
   simp only [dragnetref04_TakeBlock.j0] at H
   by_cases c21 : x47_5 = true
   ·subst c21
    have H1 : (some (([] : List Int), 0, 2)) = some (r1, r2, r3) := by rw [if_pos rfl] at H; exact H
    clear H
    have H := H1
    clear H1
    simp only [Option.some.injEq, Prod.mk.injEq] at H
    obtain ⟨rfl, rfl, rfl⟩ := H
    go_wp2
    go_ret3
    exact ⟨_, by first | rfl | (simp [eWn_, eWs_] <;> rfl) | (simp [*, eWn_, eWs_] <;> rfl), by first | exact Kd.R_nil _ _ _ _ _ | exact Kd.N_nil _ _ _ _ _ | exact Kd.V_nil _ _ _ _ _ | exact Kd.Q_nil _ _ _ _ _ | exact Kd.S_nil _ _ _ _ _, by repeat (first | (with_reducible first | exact HB.out | apply pbA_ | apply pbN_ | apply pb1_ | refine below_set ?_ (IsS61.ge HI383.out)) | exact HB.out)⟩
   ·replace c21 := Bool.eq_false_iff.mpr c21
    subst c21
    have H1 : ((dragnetref03_Size.f t384 t390).bind fun t397 => (if 0 ≤ t394 then (if t394 ≤ (wrap64 (t394 + t397)) then (if (wrap64 (t394 + t397)) ≤ (l0.length : Int) then ((dragnetref03_Unpack.f kj5 ((l0.take ((wrap64 (t394 + t397)) : Int).toNat).drop (t394 : Int).toNat) t384 t390).bind fun bt399 => (if bt399.2 = 0 then (dragnetref04_TakeBlock.l0 kj5 l0 t384 t387 t390 t393 bt399.1 l0 (wrap64 (t394 + t397)) t395) else (some (([] : List Int), 0, 2)))) else (none)) else (none)) else (none))) = some (r1, r2, r3) := by rw [if_neg (show ¬ (false = true) by decide)] at H; exact H
    clear H
    have H := H1
    clear H1
    replace H := Option.bind_eq_some_iff.mp H
    obtain ⟨t397, A220, H⟩ := H
    replace H : (if 0 ≤ t394 then (if t394 ≤ (wrap64 (t394 + t397)) then (if (wrap64 (t394 + t397)) ≤ (l0.length : Int) then ((dragnetref03_Unpack.f kj5 ((l0.take ((wrap64 (t394 + t397)) : Int).toNat).drop (t394 : Int).toNat) t384 t390).bind fun bt399 => (if bt399.2 = 0 then (dragnetref04_TakeBlock.l0 kj5 l0 t384 t387 t390 t393 bt399.1 l0 (wrap64 (t394 + t397)) t395) else (some (([] : List Int), 0, 2)))) else (none)) else (none)) else (none)) = some (r1, r2, r3) := H
    have A22 := Aside0.mk A220
    clear A220
    by_cases c23 : 0 ≤ t394
    ·rw [if_pos c23] at H
     have c23b0 := eq_true c23
     have c23b1 : decide (0 ≤ t394) = true := decide_eq_true c23
     clear c23
     by_cases c24 : t394 ≤ (wrap64 (t394 + t397))
     ·rw [if_pos c24] at H
      have c24b0 := eq_true c24
      have c24b1 : decide (t394 ≤ (wrap64 (t394 + t397))) = true := decide_eq_true c24
      by_cases c25 : (wrap64 (t394 + t397)) ≤ (l0.length : Int)
      ·rw [if_pos c25] at H
       have c25b0 := eq_true c25
       have c25b1 : decide ((wrap64 (t394 + t397)) ≤ (l0.length : Int)) = true := decide_eq_true c25
       replace H := Option.bind_eq_some_iff.mp H
       obtain ⟨⟨t399, t400⟩, A260, H⟩ := H
       replace H : (if t400 = 0 then (dragnetref04_TakeBlock.l0 kj5 l0 t384 t387 t390 t393 t399 l0 (wrap64 (t394 + t397)) t395) else (some (([] : List Int), 0, 2))) = some (r1, r2, r3) := H
       have A26 := Aside0.mk A260
       clear A260
       by_cases c27 : t400 = 0
       ·rw [if_pos c27] at H
        have c27b0 : (t400 == 0) = true := beq_iff_eq.mpr c27
        have c27b1 : (t400 != 0) = false := bne_eq_false_iff_eq.mpr c27
        clear c27
        have H' := Aside0.mk H
        clear H
        try go_wp2
        (try (rw [drewN_self wc]; generalize hq_ : World.drewN wc _ = wc; have n0_ : Aside0 (IsS61 w wc gb383 l0 t394 t395) := ⟨by rw [← hq_]; exact (by repeat (first | (with_reducible first | exact HI383.out | apply IsS61.alloc | apply IsS61.drewN | apply IsS61.drew | apply IsS61.set_1 | apply IsS61.set_2) | exact HI383.out))⟩; have n1_ : Aside0 (Below w.heap.size w wc) := ⟨by rw [← hq_]; exact (by repeat (first | (with_reducible first | exact HB.out | apply pbA_ | apply pbN_ | apply pb1_ | refine below_set ?_ (IsS61.ge HI383.out)) | exact HB.out))⟩; clear HI383 HB hq_; have HI383 := n0_; have HB := n1_; clear n0_ n1_))
        have n0_ := Aside0.mk (IsS61.drew HI383.out)
        have n1_ := Aside0.mk (pb1_ HB.out)
        clear HI383
        clear HB
        have HI383 := n0_
        have HB := n1_
        clear n0_ n1_
        obtain ⟨ASz29_0, cSz29_0, HGz29, hgz29, HSz29_0⟩ := HI383.out
        have hcz29_0 := cellS61_0 HGz29
        have hcz29_1 := cellS61_1 HGz29
        have hcz29_2 := cellS61_2 HGz29
        have hfz29_1 := blk_frozen HGz29 1
        have hfz29_2 := blk_frozen HGz29 2
        clear HGz29 hgz29
        refine start_ (n := 9) (S := fun w' => w'.cell? ⟨gb383, 0, none⟩ = some (.slice ASz29_0 l0.length cSz29_0) ∧ w'.cell? ⟨gb383, 1, none⟩ = some (.int .i64 t394) ∧ w'.cell? ⟨gb383, 2, none⟩ = some (.bool t395)) (ds := []) #[false, false, false, false, false, false, false, false, false] (by kernel_rfl) rfl rfl ⟨hcz29_0, hcz29_1, hcz29_2⟩ (fun hHeld => ?_); refine with_tabW dragnetref04_TakeBlock.tab8 dragnetref04_TakeBlock.bits8 (fun HT_ HW_ => ?_)
        generalize wc.drew = w28 at HI383 HB hHeld ⊢
        refine pure_ (i := 0) (N := some 48) (v := ?_) (a' := ?_) #[tT,fF,fF,fF,fF,fF,fF,fF,fF] rfl rfl (any_of HT_.out (by kernel_rfl)) (fun _ _ _ h => h) (Or.inl ⟨by rfl, ?_⟩) ?_ ?_
        rotate_left
        ·intro w'
         go_simp
         with_reducible rfl
        rotate_left
        ·simp only [Act.put, List.setIfInBounds_toArray, List.set_cons_zero, List.set_cons_succ, i64_w, i32_w]
         rfl
        refine pure_ (i := 1) (N := some 49) (v := ?_) (a' := ?_) #[tT,tT,fF,fF,fF,fF,fF,fF,fF] rfl rfl (any_of HT_.out (by kernel_rfl)) (fun _ _ _ h => h) (Or.inl ⟨by rfl, ?_⟩) ?_ ?_
        rotate_left
        ·intro w'
         go_simp
         with_reducible rfl
        rotate_left
        ·simp only [Act.put, List.setIfInBounds_toArray, List.set_cons_zero, List.set_cons_succ, i64_w, i32_w]
         rfl
        refine pure_ (i := 2) (N := some 50) (v := ?_) (a' := ?_) #[tT,tT,tT,fF,fF,fF,fF,fF,fF] rfl rfl (any_of HT_.out (by kernel_rfl)) (fun _ _ _ h => h) (Or.inl ⟨by rfl, ?_⟩) ?_ ?_
        rotate_left
        ·intro w'
         go_simp
         with_reducible rfl
        rotate_left
        ·simp only [Act.put, List.setIfInBounds_toArray, List.set_cons_zero, List.set_cons_succ, i64_w, i32_w]
         rfl
        refine pure_ (i := 4) (N := some 52) (v := ?_) (a' := ?_) #[tT,tT,tT,fF,tT,fF,fF,fF,fF] rfl rfl (any_of HT_.out (by kernel_rfl)) (fun _ _ _ h => h) (Or.inl ⟨by rfl, ?_⟩) ?_ ?_
        rotate_left
        ·intro w'
         go_simp
         with_reducible rfl
        rotate_left
        ·simp only [Act.put, List.setIfInBounds_toArray, List.set_cons_zero, List.set_cons_succ, i64_w, i32_w]
         rfl
        refine pure_ (i := 5) (N := some 53) (v := ?_) (a' := ?_) #[tT,tT,tT,fF,tT,tT,fF,fF,fF] rfl rfl (any_of HT_.out (by kernel_rfl)) (fun _ _ _ h => h) (Or.inl ⟨by rfl, ?_⟩) ?_ ?_
        rotate_left
        ·intro w'
         go_simp
         with_reducible rfl
        rotate_left
        ·simp only [Act.put, List.setIfInBounds_toArray, List.set_cons_zero, List.set_cons_succ, i64_w, i32_w]
         rfl
        refine take_ (i := 3) (N := some 51) (v := ?_) (a' := ?_) #[tT,tT,tT,tT,tT,tT,fF,fF,fF] rfl rfl (take_ofW HT_.out HW_.out (by kernel_rfl)) (fun _ _ _ h => h) (Or.inl ⟨by rfl, ?_⟩) hHeld ?_ ?_
        rotate_left
        ·rintro w' ⟨s0, s1, s2⟩
         go_simp
         with_reducible rfl
        rotate_left
        ·simp only [Act.put, List.setIfInBounds_toArray, List.set_cons_zero, List.set_cons_succ, i64_w, i32_w]
         rfl
        refine one_ (i := 6) (N := some 54) #[tT,tT,tT,tT,tT,tT,tT,fF,fF] rfl rfl (one_of HT_.out (by kernel_rfl)) (by decide) (fun K hK => ?_)
        refine goes_ Try.func39 (by kernel_rfl) rfl #[.int .i64 t384, .int .i64 t390] (by rfl) rfl rfl (by (try simp only [List.map_toArray, List.map_cons, List.map_nil]); first | done | rfl | (simp only [List.length_drop, List.length_take]; rfl)) ?_
        with_reducible refine (dragnetref03_Size.calls t384 t390 t397 _ A22.out).mono ?_
        rintro e w' ⟨rfl, ⟨nd, rfl⟩⟩
        refine ⟨_, rfl, ?_⟩
        refine hK.out _ _ ⟨hHeld.1, hHeld.2.1, hHeld.2.2⟩ (fun hHeld => ?_)
        clear hK K
        refine norm_ (a' := ?_) ?_ ?_
        rotate_left
        ·show Act.put _ (some 54) _ = _
         simp only [Act.put, List.setIfInBounds_toArray, List.set_cons_zero, List.set_cons_succ, i64_w, i32_w]
         rfl
        refine pure_ (i := 7) (N := some 55) (v := ?_) (a' := ?_) #[tT,tT,tT,tT,tT,tT,tT,tT,fF] rfl rfl (any_of HT_.out (by kernel_rfl)) (fun _ _ _ h => h) (Or.inl ⟨by rfl, ?_⟩) ?_ ?_
        rotate_left
        ·intro w'
         go_simp
         with_reducible rfl
        rotate_left
        ·simp only [Act.put, List.setIfInBounds_toArray, List.set_cons_zero, List.set_cons_succ, i64_w, i32_w]
         rfl
        refine pure_ (i := 8) (N := some 10) (v := ?_) (a' := ?_) #[tT,tT,tT,tT,tT,tT,tT,tT,tT] rfl rfl (any_of HT_.out (by kernel_rfl)) (fun _ _ _ h => h) (Or.inl ⟨by rfl, ?_⟩) ?_ ?_
        rotate_left
        ·intro w'
         go_simp
         with_reducible rfl
        rotate_left
        ·simp only [Act.put, List.setIfInBounds_toArray, List.set_cons_zero, List.set_cons_succ, i64_w, i32_w]
         rfl
        refine done_ (done_of HT_.out (by kernel_rfl)) ?_
        obtain ⟨i030, hi030, _, hsz30, _⟩ := info_parts info5
        obtain ⟨A30, hcut30, hA30, hC30⟩ := print_mid_of (P := Try.prog) (Value.int .u8) 0 22 5 .i64 .i64 Try.underlying22 hi030 hsz30 A0 c0 l0 t394 (wrap64 (t394 + t397)) (of_decide_eq_true (by first | (with_reducible assumption) | assumption)) (by first | omega | exact of_decide_eq_true (by first | (with_reducible assumption) | assumption)) (of_decide_eq_true (by first | (with_reducible assumption) | assumption)) HC0.out
        have HR398 := Aside0.mk (Kd.C_of_reads (h1 := fun _ => rfl) (hA30 _ (Kd.reads_of_C HR0.out)))
        have HC398 := Aside0.mk hC30
        clear hA30 hC30 hi030 hsz30
        try go_wp2_with (first | ((with_reducible refine gaC_ (f := 40) rfl ?_); refine goesL_ (some 66) rfl rfl Try.func40 (by kernel_rfl) rfl #[.slice A30 ((l0.take ((wrap64 (t394 + t397)) : Int).toNat).drop (t394 : Int).toNat).length (c0 - t394.toNat), .int .i64 t384, .int .i64 t390] rfl (by (try simp only [List.map_toArray, List.map_cons, List.map_nil]); first | done | (rw [show ((l0.take ((wrap64 (t394 + t397)) : Int).toNat).drop (t394 : Int).toNat).length = ((wrap64 (t394 + t397)).toNat - t394.toNat) from (by rw [List.length_drop, List.length_take]; have h_ : ((wrap64 (t394 + t397)) : Int) ≤ (l0.length : Int) := of_decide_eq_true (by first | (with_reducible assumption) | assumption); omega)] <;> rfl) | rfl | (simp only [List.length_drop, List.length_take]; rfl)) ?_; (with_reducible refine (dragnetref03_Unpack.calls kj5 _ _ ((l0.take ((wrap64 (t394 + t397)) : Int).toNat).drop (t394 : Int).toNat) t384 t390 t399 t400 _ ?side1 ?side2 A26.out).mono ?_); (case side1 => repeat (first | exact (Kd.C_below HR398.out (by repeat (first | (with_reducible first | exact HB.out | apply pbA_ | apply pbN_ | apply pb1_ | refine below_set ?_ (IsS61.ge HI383.out)) | exact HB.out))) | (with_reducible refine Kd.cA_ ?_ _) | (with_reducible refine Kd.cN_ ?_ _) | (with_reducible refine Kd.cD_ ?_))); (case side2 => exact HC398.out); rintro e w31 ⟨v401, rfl, ho0, hb⟩; refine ⟨_, rfl, ?_⟩; have n0_ := Aside0.mk (Kd.R_lower ho0 (pbS_ (by repeat (first | (with_reducible first | exact HB.out | apply pbA_ | apply pbN_ | apply pb1_ | refine below_set ?_ (IsS61.ge HI383.out)) | exact HB.out)))); have n1_ := Aside0.mk (IsS61.below (by repeat (first | (with_reducible first | exact HI383.out | apply IsS61.alloc | apply IsS61.drewN | apply IsS61.drew | apply IsS61.set_1 | apply IsS61.set_2) | exact HI383.out)) hb); have n2_ := Aside0.mk (below_step (by repeat (first | (with_reducible first | exact HB.out | apply pbA_ | apply pbN_ | apply pb1_ | refine below_set ?_ (IsS61.ge HI383.out)) | exact HB.out)) hb); clear HI383; clear HB; have HO402 := n0_; have HI383 := n1_; have HB := n2_; clear n0_ n1_ n2_; (try clear hb); (try clear hb2); (try clear hk); (try clear hi); (try clear ho0); obtain ⟨ASz32_0, cSz32_0, HGz32, hgz32, HSz32_0⟩ := HI383.out; have hcz32_0 := cellS61_0 HGz32; have hcz32_1 := cellS61_1 HGz32; have hcz32_2 := cellS61_2 HGz32; have hfz32_1 := blk_frozen HGz32 1; have hfz32_2 := blk_frozen HGz32 2; clear HGz32 hgz32))
        go_loopg [9] kj5 (fun kq v9 w' => ∃ (x9_2 : Int) (x11_2 : List Int) (x384001_2 : Int) (x384002_2 : Bool), v9 = .int .i64 x9_2 ∧ Aside0 (dragnetref04_TakeBlock.l0 kq l0 t384 t387 t390 x9_2 x11_2 l0 x384001_2 x384002_2 = some (r1, r2, r3)) ∧ Aside0 (kq ≤ kj5) ∧ Aside0 (Kd.R (Kd.int .u64) 50 w' w.heap.size (fun _ => True) v401 x11_2) ∧ Aside0 (IsS61 w w' gb383 l0 x384001_2 x384002_2) ∧ Aside0 (Below w.heap.size w w'))
        case atStart => exact ⟨(t393), (t399), (wrap64 (t394 + t397)), (t395), (by first | rfl | (simp; done) | (simp [*]; done)), H', ⟨Nat.le_refl _⟩, ⟨by (with_reducible repeat (first | apply Kd.rA_ | apply Kd.rN_ | apply Kd.rD_)); exact Kd.R_mono (Kd.R_far (p := ⟨gb383, 1, none⟩) (IsS61.apart HI383.out HO402.out (by decide)) (fun _ hk => hk.2) (.int .i64 (wrap64 (t394 + t397)))) (fun _ hk => trivial)⟩, ⟨by repeat (first | (with_reducible first | exact HI383.out | apply IsS61.alloc | apply IsS61.drewN | apply IsS61.drew | apply IsS61.set_1 | apply IsS61.set_2) | exact HI383.out)⟩, ⟨by repeat (first | (with_reducible first | exact HB.out | apply pbA_ | apply pbN_ | apply pb1_ | refine below_set ?_ (IsS61.ge HI383.out)) | exact HB.out)⟩⟩
        case round =>
         clear H'
         try clear c1
         try clear c2
         try clear p2
         try clear c3
         try clear c4
         try clear p6
         try clear c12
         try clear c15
         try clear c15b0
         try clear c15b1
         try clear c17
         try clear c21
         try clear c23
         try clear c23b0
         try clear c23b1
         try clear c24
         try clear c24b0
         try clear c24b1
         try clear c25
         try clear c25b0
         try clear c25b1
         try clear c27
         try clear c27b0
         try clear c27b1
         try clear hcz14_0
         try clear hcz14_1
         try clear hcz14_2
         try clear hcz17_0
         try clear hcz17_1
         try clear hcz17_2
         try clear hcz20_0
         try clear hcz20_1
         try clear hcz20_2
         try clear hcz29_0
         try clear hcz29_1
         try clear hcz29_2
         try clear hcz32_0
         try clear hcz32_1
         try clear hcz32_2
         try clear hfz14_1
         try clear hfz14_2
         try clear hfz17_1
         try clear hfz17_2
         try clear hfz20_1
         try clear hfz20_2
         try clear hfz29_1
         try clear hfz29_2
         try clear hfz32_1
         try clear hfz32_2
         try clear p2
         try clear p6
         obtain ⟨x9_2, x11_2, x384001_2, x384002_2, rfl, HA, HK2, HO_11, HI383, HB⟩ := hrel
         cases gk with
         | zero => exact absurd HA.out (by simp [dragnetref04_TakeBlock.l0])
         | succ k2 =>
          have H := HA.out
          clear HA
          simp only [dragnetref04_TakeBlock.l0] at H
          by_cases c33 : x9_2 > 0
          ·rw [if_pos c33] at H
           have c33b0 : decide (0 < x9_2) = true := decide_eq_true c33
           clear c33
           replace H := Option.bind_eq_some_iff.mp H
           obtain ⟨⟨t403, t404, t405⟩, A340, H⟩ := H
           replace H : ((dragnetref02_Reader_Number.f k2 l0 t404 t405 18446744073709551615).bind fun bt406 => (if bt406.2.2 = true then (some (([] : List Int), 0, 2)) else (if t403 ≥ t384 then (some (([] : List Int), 0, 2)) else (if t390 = 64 then (some (([] : List Int), 0, 2)) else (if 0 ≤ t403 then (if t403 < (x11_2.length : Int) then (if 0 ≤ t390 then (dragnetref04_TakeBlock.l0 k2 l0 t384 t387 t390 (wrap64 (x9_2 - 1)) (x11_2.set (t403 : Int).toNat (IntKind.u64.wrap ((rd x11_2 t403) + (shl .u64 bt406.1 t390)))) l0 bt406.2.1 bt406.2.2) else (none)) else (none)) else (none)))))) = some (r1, r2, r3) := H
           have A34 := Aside0.mk A340
           clear A340
           replace H := Option.bind_eq_some_iff.mp H
           obtain ⟨⟨t406, t407, t408⟩, A350, H⟩ := H
           replace H : (if t408 = true then (some (([] : List Int), 0, 2)) else (if t403 ≥ t384 then (some (([] : List Int), 0, 2)) else (if t390 = 64 then (some (([] : List Int), 0, 2)) else (if 0 ≤ t403 then (if t403 < (x11_2.length : Int) then (if 0 ≤ t390 then (dragnetref04_TakeBlock.l0 k2 l0 t384 t387 t390 (wrap64 (x9_2 - 1)) (x11_2.set (t403 : Int).toNat (IntKind.u64.wrap ((rd x11_2 t403) + (shl .u64 t406 t390)))) l0 t407 t408) else (none)) else (none)) else (none))))) = some (r1, r2, r3) := H
           have A35 := Aside0.mk A350
           clear A350
           by_cases c36 : t408 = true
           ·subst c36
            have H1 : (some (([] : List Int), 0, 2)) = some (r1, r2, r3) := by rw [if_pos rfl] at H; exact H
            clear H
            have H := H1
            clear H1
            simp only [Option.some.injEq, Prod.mk.injEq] at H
            obtain ⟨rfl, rfl, rfl⟩ := H
            go_wp2_with (first | ((with_reducible refine gaC_ (f := 37) rfl ?_); refine goesL_ (some 80) rfl rfl Try.func37 (by kernel_rfl) rfl #[.pointer (some ⟨gb383, 0, none⟩), .int .i64 31] rfl (by (try simp only [List.map_toArray, List.map_cons, List.map_nil]); first | done | rfl | (simp only [List.length_drop, List.length_take]; rfl)) ?_; (with_reducible refine (dragnetref02_Reader_Count.calls k2 gb383 l0 x384001_2 x384002_2 31 t403 t404 t405 w _ ?side1 ?side2 A34.out).mono ?_); (case side1 => repeat (first | (with_reducible first | exact HI383.out | apply IsS61.alloc | apply IsS61.drewN | apply IsS61.drew | apply IsS61.set_1 | apply IsS61.set_2) | exact HI383.out)); (case side2 => repeat (first | (with_reducible first | exact HB.out | apply pbA_ | apply pbN_ | apply pb1_ | refine below_set ?_ (IsS61.ge HI383.out)) | exact HB.out)); rintro e w37 ⟨rfl, hi, hb, hk⟩; refine ⟨_, rfl, ?_⟩; have n0_ := Aside0.mk (Kd.R_mono (Kd.R_keep (IsS61.apart (show IsS61 w _ gb383 l0 x384001_2 x384002_2 from by repeat (first | (with_reducible first | exact HI383.out | apply IsS61.alloc | apply IsS61.drewN | apply IsS61.drew | apply IsS61.set_1 | apply IsS61.set_2) | exact HI383.out)) (by (with_reducible repeat (first | apply Kd.rA_ | apply Kd.rN_ | apply Kd.rD_)); exact HO_11.out) (by decide)) hk (fun _ h => h.2)) (fun _ h => h.1)); have n1_ := Aside0.mk (hb); have n2_ := Aside0.mk (hi); clear HO_11; clear HB; clear HI383; have HO_11 := n0_; have HB := n1_; have HI383 := n2_; clear n0_ n1_ n2_; (try clear hb); (try clear hb2); (try clear hk); (try clear hi)) | ((with_reducible refine gaC_ (f := 38) rfl ?_); refine goesL_ (some 82) rfl rfl Try.func38 (by kernel_rfl) rfl #[.pointer (some ⟨gb383, 0, none⟩), .int .u64 18446744073709551615] rfl (by (try simp only [List.map_toArray, List.map_cons, List.map_nil]); first | done | rfl | (simp only [List.length_drop, List.length_take]; rfl)) ?_; (with_reducible refine (dragnetref02_Reader_Number.calls k2 gb383 l0 t404 t405 18446744073709551615 t406 t407 true w _ ?side1 ?side2 A35.out).mono ?_); (case side1 => repeat (first | (with_reducible first | exact HI383.out | apply IsS61.alloc | apply IsS61.drewN | apply IsS61.drew | apply IsS61.set_1 | apply IsS61.set_2) | exact HI383.out)); (case side2 => repeat (first | (with_reducible first | exact HB.out | apply pbA_ | apply pbN_ | apply pb1_ | refine below_set ?_ (IsS61.ge HI383.out)) | exact HB.out)); rintro e w38 ⟨rfl, hi, hb, hk⟩; refine ⟨_, rfl, ?_⟩; have n0_ := Aside0.mk (Kd.R_mono (Kd.R_keep (IsS61.apart (show IsS61 w _ gb383 l0 t404 t405 from by repeat (first | (with_reducible first | exact HI383.out | apply IsS61.alloc | apply IsS61.drewN | apply IsS61.drew | apply IsS61.set_1 | apply IsS61.set_2) | exact HI383.out)) (by (with_reducible repeat (first | apply Kd.rA_ | apply Kd.rN_ | apply Kd.rD_)); exact HO_11.out) (by decide)) hk (fun _ h => h.2)) (fun _ h => h.1)); have n1_ := Aside0.mk (hb); have n2_ := Aside0.mk (hi); clear HO_11; clear HB; clear HI383; have HO_11 := n0_; have HB := n1_; have HI383 := n2_; clear n0_ n1_ n2_; (try clear hb); (try clear hb2); (try clear hk); (try clear hi); obtain ⟨ASz39_0, cSz39_0, HGz39, hgz39, HSz39_0⟩ := HI383.out; have hcz39_0 := cellS61_0 HGz39; have hcz39_1 := cellS61_1 HGz39; have hcz39_2 := cellS61_2 HGz39; have hfz39_1 := blk_frozen HGz39 1; have hfz39_2 := blk_frozen HGz39 2; clear HGz39 hgz39))
            go_ret3
            exact ⟨_, by first | rfl | (simp [eWn_, eWs_] <;> rfl) | (simp [*, eWn_, eWs_] <;> rfl), by first | exact Kd.R_nil _ _ _ _ _ | exact Kd.N_nil _ _ _ _ _ | exact Kd.V_nil _ _ _ _ _ | exact Kd.Q_nil _ _ _ _ _ | exact Kd.S_nil _ _ _ _ _, by repeat (first | (with_reducible first | exact HB.out | apply pbA_ | apply pbN_ | apply pb1_ | refine below_set ?_ (IsS61.ge HI383.out)) | exact HB.out)⟩
           ·replace c36 := Bool.eq_false_iff.mpr c36
            subst c36
            have H1 : (if t403 ≥ t384 then (some (([] : List Int), 0, 2)) else (if t390 = 64 then (some (([] : List Int), 0, 2)) else (if 0 ≤ t403 then (if t403 < (x11_2.length : Int) then (if 0 ≤ t390 then (dragnetref04_TakeBlock.l0 k2 l0 t384 t387 t390 (wrap64 (x9_2 - 1)) (x11_2.set (t403 : Int).toNat (IntKind.u64.wrap ((rd x11_2 t403) + (shl .u64 t406 t390)))) l0 t407 false) else (none)) else (none)) else (none)))) = some (r1, r2, r3) := by rw [if_neg (show ¬ (false = true) by decide)] at H; exact H
            clear H
            have H := H1
            clear H1
            by_cases c40 : t403 ≥ t384
            ·rw [if_pos c40] at H
             have c40b0 : decide (t384 ≤ t403) = true := decide_eq_true c40
             clear c40
             simp only [Option.some.injEq, Prod.mk.injEq] at H
             obtain ⟨rfl, rfl, rfl⟩ := H
             go_wp2_with (first | ((with_reducible refine gaC_ (f := 37) rfl ?_); refine goesL_ (some 80) rfl rfl Try.func37 (by kernel_rfl) rfl #[.pointer (some ⟨gb383, 0, none⟩), .int .i64 31] rfl (by (try simp only [List.map_toArray, List.map_cons, List.map_nil]); first | done | rfl | (simp only [List.length_drop, List.length_take]; rfl)) ?_; (with_reducible refine (dragnetref02_Reader_Count.calls k2 gb383 l0 x384001_2 x384002_2 31 t403 t404 t405 w _ ?side1 ?side2 A34.out).mono ?_); (case side1 => repeat (first | (with_reducible first | exact HI383.out | apply IsS61.alloc | apply IsS61.drewN | apply IsS61.drew | apply IsS61.set_1 | apply IsS61.set_2) | exact HI383.out)); (case side2 => repeat (first | (with_reducible first | exact HB.out | apply pbA_ | apply pbN_ | apply pb1_ | refine below_set ?_ (IsS61.ge HI383.out)) | exact HB.out)); rintro e w41 ⟨rfl, hi, hb, hk⟩; refine ⟨_, rfl, ?_⟩; have n0_ := Aside0.mk (Kd.R_mono (Kd.R_keep (IsS61.apart (show IsS61 w _ gb383 l0 x384001_2 x384002_2 from by repeat (first | (with_reducible first | exact HI383.out | apply IsS61.alloc | apply IsS61.drewN | apply IsS61.drew | apply IsS61.set_1 | apply IsS61.set_2) | exact HI383.out)) (by (with_reducible repeat (first | apply Kd.rA_ | apply Kd.rN_ | apply Kd.rD_)); exact HO_11.out) (by decide)) hk (fun _ h => h.2)) (fun _ h => h.1)); have n1_ := Aside0.mk (hb); have n2_ := Aside0.mk (hi); clear HO_11; clear HB; clear HI383; have HO_11 := n0_; have HB := n1_; have HI383 := n2_; clear n0_ n1_ n2_; (try clear hb); (try clear hb2); (try clear hk); (try clear hi)) | ((with_reducible refine gaC_ (f := 38) rfl ?_); refine goesL_ (some 82) rfl rfl Try.func38 (by kernel_rfl) rfl #[.pointer (some ⟨gb383, 0, none⟩), .int .u64 18446744073709551615] rfl (by (try simp only [List.map_toArray, List.map_cons, List.map_nil]); first | done | rfl | (simp only [List.length_drop, List.length_take]; rfl)) ?_; (with_reducible refine (dragnetref02_Reader_Number.calls k2 gb383 l0 t404 t405 18446744073709551615 t406 t407 false w _ ?side1 ?side2 A35.out).mono ?_); (case side1 => repeat (first | (with_reducible first | exact HI383.out | apply IsS61.alloc | apply IsS61.drewN | apply IsS61.drew | apply IsS61.set_1 | apply IsS61.set_2) | exact HI383.out)); (case side2 => repeat (first | (with_reducible first | exact HB.out | apply pbA_ | apply pbN_ | apply pb1_ | refine below_set ?_ (IsS61.ge HI383.out)) | exact HB.out)); rintro e w42 ⟨rfl, hi, hb, hk⟩; refine ⟨_, rfl, ?_⟩; have n0_ := Aside0.mk (Kd.R_mono (Kd.R_keep (IsS61.apart (show IsS61 w _ gb383 l0 t404 t405 from by repeat (first | (with_reducible first | exact HI383.out | apply IsS61.alloc | apply IsS61.drewN | apply IsS61.drew | apply IsS61.set_1 | apply IsS61.set_2) | exact HI383.out)) (by (with_reducible repeat (first | apply Kd.rA_ | apply Kd.rN_ | apply Kd.rD_)); exact HO_11.out) (by decide)) hk (fun _ h => h.2)) (fun _ h => h.1)); have n1_ := Aside0.mk (hb); have n2_ := Aside0.mk (hi); clear HO_11; clear HB; clear HI383; have HO_11 := n0_; have HB := n1_; have HI383 := n2_; clear n0_ n1_ n2_; (try clear hb); (try clear hb2); (try clear hk); (try clear hi); obtain ⟨ASz43_0, cSz43_0, HGz43, hgz43, HSz43_0⟩ := HI383.out; have hcz43_0 := cellS61_0 HGz43; have hcz43_1 := cellS61_1 HGz43; have hcz43_2 := cellS61_2 HGz43; have hfz43_1 := blk_frozen HGz43 1; have hfz43_2 := blk_frozen HGz43 2; clear HGz43 hgz43))
             go_ret3
             exact ⟨_, by first | rfl | (simp [eWn_, eWs_] <;> rfl) | (simp [*, eWn_, eWs_] <;> rfl), by first | exact Kd.R_nil _ _ _ _ _ | exact Kd.N_nil _ _ _ _ _ | exact Kd.V_nil _ _ _ _ _ | exact Kd.Q_nil _ _ _ _ _ | exact Kd.S_nil _ _ _ _ _, by repeat (first | (with_reducible first | exact HB.out | apply pbA_ | apply pbN_ | apply pb1_ | refine below_set ?_ (IsS61.ge HI383.out)) | exact HB.out)⟩
            ·rw [if_neg c40] at H
             have c40b0 : decide (t384 ≤ t403) = false := decide_eq_false c40
             clear c40
             by_cases c44 : t390 = 64
             ·rw [if_pos c44] at H
              have c44b0 : (t390 == 64) = true := beq_iff_eq.mpr c44
              have c44b1 : (t390 != 64) = false := bne_eq_false_iff_eq.mpr c44
              clear c44
              simp only [Option.some.injEq, Prod.mk.injEq] at H
              obtain ⟨rfl, rfl, rfl⟩ := H
              go_wp2_with (first | ((with_reducible refine gaC_ (f := 37) rfl ?_); refine goesL_ (some 80) rfl rfl Try.func37 (by kernel_rfl) rfl #[.pointer (some ⟨gb383, 0, none⟩), .int .i64 31] rfl (by (try simp only [List.map_toArray, List.map_cons, List.map_nil]); first | done | rfl | (simp only [List.length_drop, List.length_take]; rfl)) ?_; (with_reducible refine (dragnetref02_Reader_Count.calls k2 gb383 l0 x384001_2 x384002_2 31 t403 t404 t405 w _ ?side1 ?side2 A34.out).mono ?_); (case side1 => repeat (first | (with_reducible first | exact HI383.out | apply IsS61.alloc | apply IsS61.drewN | apply IsS61.drew | apply IsS61.set_1 | apply IsS61.set_2) | exact HI383.out)); (case side2 => repeat (first | (with_reducible first | exact HB.out | apply pbA_ | apply pbN_ | apply pb1_ | refine below_set ?_ (IsS61.ge HI383.out)) | exact HB.out)); rintro e w45 ⟨rfl, hi, hb, hk⟩; refine ⟨_, rfl, ?_⟩; have n0_ := Aside0.mk (Kd.R_mono (Kd.R_keep (IsS61.apart (show IsS61 w _ gb383 l0 x384001_2 x384002_2 from by repeat (first | (with_reducible first | exact HI383.out | apply IsS61.alloc | apply IsS61.drewN | apply IsS61.drew | apply IsS61.set_1 | apply IsS61.set_2) | exact HI383.out)) (by (with_reducible repeat (first | apply Kd.rA_ | apply Kd.rN_ | apply Kd.rD_)); exact HO_11.out) (by decide)) hk (fun _ h => h.2)) (fun _ h => h.1)); have n1_ := Aside0.mk (hb); have n2_ := Aside0.mk (hi); clear HO_11; clear HB; clear HI383; have HO_11 := n0_; have HB := n1_; have HI383 := n2_; clear n0_ n1_ n2_; (try clear hb); (try clear hb2); (try clear hk); (try clear hi)) | ((with_reducible refine gaC_ (f := 38) rfl ?_); refine goesL_ (some 82) rfl rfl Try.func38 (by kernel_rfl) rfl #[.pointer (some ⟨gb383, 0, none⟩), .int .u64 18446744073709551615] rfl (by (try simp only [List.map_toArray, List.map_cons, List.map_nil]); first | done | rfl | (simp only [List.length_drop, List.length_take]; rfl)) ?_; (with_reducible refine (dragnetref02_Reader_Number.calls k2 gb383 l0 t404 t405 18446744073709551615 t406 t407 false w _ ?side1 ?side2 A35.out).mono ?_); (case side1 => repeat (first | (with_reducible first | exact HI383.out | apply IsS61.alloc | apply IsS61.drewN | apply IsS61.drew | apply IsS61.set_1 | apply IsS61.set_2) | exact HI383.out)); (case side2 => repeat (first | (with_reducible first | exact HB.out | apply pbA_ | apply pbN_ | apply pb1_ | refine below_set ?_ (IsS61.ge HI383.out)) | exact HB.out)); rintro e w46 ⟨rfl, hi, hb, hk⟩; refine ⟨_, rfl, ?_⟩; have n0_ := Aside0.mk (Kd.R_mono (Kd.R_keep (IsS61.apart (show IsS61 w _ gb383 l0 t404 t405 from by repeat (first | (with_reducible first | exact HI383.out | apply IsS61.alloc | apply IsS61.drewN | apply IsS61.drew | apply IsS61.set_1 | apply IsS61.set_2) | exact HI383.out)) (by (with_reducible repeat (first | apply Kd.rA_ | apply Kd.rN_ | apply Kd.rD_)); exact HO_11.out) (by decide)) hk (fun _ h => h.2)) (fun _ h => h.1)); have n1_ := Aside0.mk (hb); have n2_ := Aside0.mk (hi); clear HO_11; clear HB; clear HI383; have HO_11 := n0_; have HB := n1_; have HI383 := n2_; clear n0_ n1_ n2_; (try clear hb); (try clear hb2); (try clear hk); (try clear hi); obtain ⟨ASz47_0, cSz47_0, HGz47, hgz47, HSz47_0⟩ := HI383.out; have hcz47_0 := cellS61_0 HGz47; have hcz47_1 := cellS61_1 HGz47; have hcz47_2 := cellS61_2 HGz47; have hfz47_1 := blk_frozen HGz47 1; have hfz47_2 := blk_frozen HGz47 2; clear HGz47 hgz47))
              go_ret3
              exact ⟨_, by first | rfl | (simp [eWn_, eWs_] <;> rfl) | (simp [*, eWn_, eWs_] <;> rfl), by first | exact Kd.R_nil _ _ _ _ _ | exact Kd.N_nil _ _ _ _ _ | exact Kd.V_nil _ _ _ _ _ | exact Kd.Q_nil _ _ _ _ _ | exact Kd.S_nil _ _ _ _ _, by repeat (first | (with_reducible first | exact HB.out | apply pbA_ | apply pbN_ | apply pb1_ | refine below_set ?_ (IsS61.ge HI383.out)) | exact HB.out)⟩
             ·rw [if_neg c44] at H
              have c44b0 : (t390 == 64) = false := beq_eq_false_iff_ne.mpr c44
              have c44b1 : (t390 != 64) = true := bne_iff_ne.mpr c44
              by_cases c48 : 0 ≤ t403
              ·rw [if_pos c48] at H
               have c48b0 : decide (0 ≤ t403) = true := decide_eq_true c48
               clear c48
               by_cases c49 : t403 < (x11_2.length : Int)
               ·rw [if_pos c49] at H
                have c49b0 : decide (t403 < (x11_2.length : Int)) = true := decide_eq_true c49
                clear c49
                by_cases c50 : 0 ≤ t390
                ·rw [if_pos c50] at H
                 have c50b0 := eq_true c50
                 have c50b1 : decide (0 ≤ t390) = true := decide_eq_true c50
                 clear c50
                 obtain ⟨ji51, hji51⟩ : ∃ j_ : Int, (shl .u64 t406 t390) = j_ := ⟨_, rfl⟩
                 replace H : (dragnetref04_TakeBlock.l0 k2 l0 t384 t387 t390 (wrap64 (x9_2 - 1)) (x11_2.set (t403 : Int).toNat (IntKind.u64.wrap ((rd x11_2 t403) + (ji51)))) l0 t407 false) = some (r1, r2, r3) := by first | (rw [hji51] at H; exact H) | (simp only [hji51] at H ⊢; exact H)
                 (try rw [hji51] at A34)
                 (try rw [hji51] at A35)
                 have hji51_ : (IntKind.u64.wrap (t406 * 2 ^ min t390.toNat 64)) = ji51 := hji51
                 have hji51z : t390 ≤ 64 → (IntKind.u64.wrap (t406 * 2 ^ t390.toNat)) = ji51 := shl_small hji51
                 obtain ⟨y410, hy410⟩ : ∃ y_ : List Int, y_ = (x11_2.set (t403 : Int).toNat (IntKind.u64.wrap ((rd x11_2 t403) + (ji51)))) := ⟨_, rfl⟩
                 replace H : (dragnetref04_TakeBlock.l0 k2 l0 t384 t387 t390 (wrap64 (x9_2 - 1)) y410 l0 t407 false) = some (r1, r2, r3) := by first | (rw [hy410]; with_reducible exact H) | (have H2_ := (Option.bind_some _ _).symm.trans H; rw [hy410]; with_reducible exact H2_) | (have H2_ := (Option.bind_some _ _).symm.trans H; with_reducible exact H2_) | with_reducible exact H | (rw [hy410]; exact H) | exact H
                 have Ny410 := Aside0.mk hy410
                 clear hy410
                 have H' := Aside0.mk H
                 clear H
                 try go_wp2_with (first | ((with_reducible refine gaC_ (f := 37) rfl ?_); refine goesL_ (some 80) rfl rfl Try.func37 (by kernel_rfl) rfl #[.pointer (some ⟨gb383, 0, none⟩), .int .i64 31] rfl (by (try simp only [List.map_toArray, List.map_cons, List.map_nil]); first | done | rfl | (simp only [List.length_drop, List.length_take]; rfl)) ?_; (with_reducible refine (dragnetref02_Reader_Count.calls k2 gb383 l0 x384001_2 x384002_2 31 t403 t404 t405 w _ ?side1 ?side2 A34.out).mono ?_); (case side1 => repeat (first | (with_reducible first | exact HI383.out | apply IsS61.alloc | apply IsS61.drewN | apply IsS61.drew | apply IsS61.set_1 | apply IsS61.set_2) | exact HI383.out)); (case side2 => repeat (first | (with_reducible first | exact HB.out | apply pbA_ | apply pbN_ | apply pb1_ | refine below_set ?_ (IsS61.ge HI383.out)) | exact HB.out)); rintro e w53 ⟨rfl, hi, hb, hk⟩; refine ⟨_, rfl, ?_⟩; have n0_ := Aside0.mk (Kd.R_mono (Kd.R_keep (IsS61.apart (show IsS61 w _ gb383 l0 x384001_2 x384002_2 from by repeat (first | (with_reducible first | exact HI383.out | apply IsS61.alloc | apply IsS61.drewN | apply IsS61.drew | apply IsS61.set_1 | apply IsS61.set_2) | exact HI383.out)) (by (with_reducible repeat (first | apply Kd.rA_ | apply Kd.rN_ | apply Kd.rD_)); exact HO_11.out) (by decide)) hk (fun _ h => h.2)) (fun _ h => h.1)); have n1_ := Aside0.mk (hb); have n2_ := Aside0.mk (hi); clear HO_11; clear HB; clear HI383; have HO_11 := n0_; have HB := n1_; have HI383 := n2_; clear n0_ n1_ n2_; (try clear hb); (try clear hb2); (try clear hk); (try clear hi)) | ((with_reducible refine gaC_ (f := 38) rfl ?_); refine goesL_ (some 82) rfl rfl Try.func38 (by kernel_rfl) rfl #[.pointer (some ⟨gb383, 0, none⟩), .int .u64 18446744073709551615] rfl (by (try simp only [List.map_toArray, List.map_cons, List.map_nil]); first | done | rfl | (simp only [List.length_drop, List.length_take]; rfl)) ?_; (with_reducible refine (dragnetref02_Reader_Number.calls k2 gb383 l0 t404 t405 18446744073709551615 t406 t407 false w _ ?side1 ?side2 A35.out).mono ?_); (case side1 => repeat (first | (with_reducible first | exact HI383.out | apply IsS61.alloc | apply IsS61.drewN | apply IsS61.drew | apply IsS61.set_1 | apply IsS61.set_2) | exact HI383.out)); (case side2 => repeat (first | (with_reducible first | exact HB.out | apply pbA_ | apply pbN_ | apply pb1_ | refine below_set ?_ (IsS61.ge HI383.out)) | exact HB.out)); rintro e w54 ⟨rfl, hi, hb, hk⟩; refine ⟨_, rfl, ?_⟩; have n0_ := Aside0.mk (Kd.R_mono (Kd.R_keep (IsS61.apart (show IsS61 w _ gb383 l0 t404 t405 from by repeat (first | (with_reducible first | exact HI383.out | apply IsS61.alloc | apply IsS61.drewN | apply IsS61.drew | apply IsS61.set_1 | apply IsS61.set_2) | exact HI383.out)) (by (with_reducible repeat (first | apply Kd.rA_ | apply Kd.rN_ | apply Kd.rD_)); exact HO_11.out) (by decide)) hk (fun _ h => h.2)) (fun _ h => h.1)); have n1_ := Aside0.mk (hb); have n2_ := Aside0.mk (hi); clear HO_11; clear HB; clear HI383; have HO_11 := n0_; have HB := n1_; have HI383 := n2_; clear n0_ n1_ n2_; (try clear hb); (try clear hb2); (try clear hk); (try clear hi); obtain ⟨ASz55_0, cSz55_0, HGz55, hgz55, HSz55_0⟩ := HI383.out; have hcz55_0 := cellS61_0 HGz55; have hcz55_1 := cellS61_1 HGz55; have hcz55_2 := cellS61_2 HGz55; have hfz55_1 := blk_frozen HGz55 1; have hfz55_2 := blk_frozen HGz55 2; clear HGz55 hgz55))
                 (try (rw [drewN_self w54]; generalize hq_ : World.drewN w54 _ = w54; have n0_ : Aside0 (Kd.R (Kd.int .u64) 50 w54 w.heap.size (fun _ => True) v401 x11_2) := ⟨by rw [← hq_]; exact (by (with_reducible repeat (first | apply Kd.rA_ | apply Kd.rN_ | apply Kd.rD_)); exact HO_11.out)⟩; have n1_ : Aside0 (IsS61 w w54 gb383 l0 t407 false) := ⟨by rw [← hq_]; exact (by repeat (first | (with_reducible first | exact HI383.out | apply IsS61.alloc | apply IsS61.drewN | apply IsS61.drew | apply IsS61.set_1 | apply IsS61.set_2) | exact HI383.out))⟩; have n2_ : Aside0 (Below w.heap.size w w54) := ⟨by rw [← hq_]; exact (by repeat (first | (with_reducible first | exact HB.out | apply pbA_ | apply pbN_ | apply pb1_ | refine below_set ?_ (IsS61.ge HI383.out)) | exact HB.out))⟩; clear HO_11 HI383 HB hq_; have HO_11 := n0_; have HI383 := n1_; have HB := n2_; clear n0_ n1_ n2_))
                 have n0_ := Aside0.mk (Kd.rD_ HO_11.out)
                 have n1_ := Aside0.mk (IsS61.drew HI383.out)
                 have n2_ := Aside0.mk (pb1_ HB.out)
                 clear HO_11
                 clear HI383
                 clear HB
                 have HO_11 := n0_
                 have HI383 := n1_
                 have HB := n2_
                 clear n0_ n1_ n2_
                 obtain ⟨Ao57, co57, eo57⟩ := Kd.R_slice HO_11.out
                 (first | subst eo57 | (injection eo57 with f1_ f2_ f3_; have f4_ := f1_.symm; have f5_ := f3_.symm; clear f1_ f2_ f3_; subst f4_; subst f5_))
                 have p409 : 0 ≤ (t403 : Int) := of_decide_eq_true (by first | (with_reducible assumption) | assumption)
                 have q409 : t403 < (x11_2.length : Int) := of_decide_eq_true (by first | (with_reducible assumption) | assumption)
                 obtain ⟨ad409, e409, hx409_0⟩ := Kd.at_int (Kd.R_reads' HO_11.out).2.2 t403 p409 q409
                 cases e409
                 replace p409 := eq_true p409
                 replace q409 := eq_true q409
                 have p52 : 0 ≤ (t403 : Int) := of_decide_eq_true (by first | (with_reducible assumption) | assumption)
                 have q52 : (t403 : Int) < ((x11_2.length : Int) : Int) := of_decide_eq_true (by first | (with_reducible assumption) | assumption)
                 obtain ⟨go52, co52, eo52, gb52, gl52, cl52, HG52⟩ := Kd.R_form HO_11.out (by omega)
                 (first | cases eo52 | (injection eo52 with ea_ en_ ec_; (first | subst ea_ | (injection ea_ with ea_; subst ea_)); subst ec_; clear en_))
                 have GB52 := Aside0.mk gb52
                 have GG52 := Aside0.mk HG52
                 clear gb52 gl52 HG52
                 (first | simp only [add_plain] at hx409_0 | skip)
                 obtain ⟨hx52_0, hf52_0⟩ := Kd.R_celln 0 HO_11.out (t403 : Int) p52 q52
                 replace p52 := eq_true p52
                 replace q52 := eq_true q52
                 have HN383_go52 := Aside0.mk (show gb383 ≠ go52 from by have h_ := IsS61.own_ne HI383.out HO_11.out (by decide); intro e_; exact h_ (by rw [e_]; rfl))
                 have HP58 := Kd.R_putn HO_11.out (t403 : Int) (IntKind.u64.wrap ((rd x11_2 t403) + (ji51)))
                 rw [← Ny410.out] at HP58
                 have HQ58 := Aside0.mk HP58
                 clear HP58
                 refine start_ (n := 10) (S := fun w' => w'.cell? ⟨go52, (t403).toNat, none⟩ = some (.int .u64 (rd x11_2 t403))) (ds := [9]) #[false, false, false, false, false, false, false, false, false, false] (by kernel_rfl) rfl rfl (hx409_0) (fun hHeld => ?_); refine with_tabW dragnetref04_TakeBlock.tab19 dragnetref04_TakeBlock.bits19 (fun HT_ HW_ => ?_)
                 generalize w54.drew = w56 at HO_11 HI383 HB GG52 HQ58 hf52_0 hx409_0 hx52_0 hHeld ⊢
                 refine pure_ (i := 0) (N := some 96) (v := ?_) (a' := ?_) #[tT,fF,fF,fF,fF,fF,fF,fF,fF,fF] rfl rfl (any_of HT_.out (by kernel_rfl)) (fun _ _ _ h => h) (Or.inl ⟨by rfl, ?_⟩) ?_ ?_
                 rotate_left
                 ·intro w'
                  go_simp
                  with_reducible rfl
                 rotate_left
                 ·simp only [Act.put, List.setIfInBounds_toArray, List.set_cons_zero, List.set_cons_succ, i64_w, i32_w]
                  rfl
                 refine pure_ (i := 1) (N := some 97) (v := ?_) (a' := ?_) #[tT,tT,fF,fF,fF,fF,fF,fF,fF,fF] rfl rfl (any_of HT_.out (by kernel_rfl)) (fun _ _ _ h => h) (Or.inl ⟨by rfl, ?_⟩) ?_ ?_
                 rotate_left
                 ·intro w'
                  go_simp
                  with_reducible rfl
                 rotate_left
                 ·simp only [Act.put, List.setIfInBounds_toArray, List.set_cons_zero, List.set_cons_succ, i64_w, i32_w]
                  rfl
                 refine pure_ (i := 2) (N := some 98) (v := ?_) (a' := ?_) #[tT,tT,tT,fF,fF,fF,fF,fF,fF,fF] rfl rfl (any_of HT_.out (by kernel_rfl)) (fun _ _ _ h => h) (Or.inl ⟨by rfl, ?_⟩) ?_ ?_
                 rotate_left
                 ·intro w'
                  go_simp
                  with_reducible rfl
                 rotate_left
                 ·simp only [Act.put, List.setIfInBounds_toArray, List.set_cons_zero, List.set_cons_succ, i64_w, i32_w]
                  rfl
                 refine pure_ (i := 4) (N := some 100) (v := ?_) (a' := ?_) #[tT,tT,tT,fF,tT,fF,fF,fF,fF,fF] rfl rfl (any_of HT_.out (by kernel_rfl)) (fun _ _ _ h => h) (Or.inl ⟨by rfl, ?_⟩) ?_ ?_
                 rotate_left
                 ·intro w'
                  go_simp
                  with_reducible rfl
                 rotate_left
                 ·simp only [Act.put, List.setIfInBounds_toArray, List.set_cons_zero, List.set_cons_succ, i64_w, i32_w]
                  rfl
                 refine pure_ (i := 5) (N := some 101) (v := ?_) (a' := ?_) #[tT,tT,tT,fF,tT,tT,fF,fF,fF,fF] rfl rfl (any_of HT_.out (by kernel_rfl)) (fun _ _ _ h => h) (Or.inl ⟨by rfl, ?_⟩) ?_ ?_
                 rotate_left
                 ·intro w'
                  go_simp
                  with_reducible rfl
                 rotate_left
                 ·simp only [Act.put, List.setIfInBounds_toArray, List.set_cons_zero, List.set_cons_succ, i64_w, i32_w]
                  rfl
                 refine pure_ (i := 6) (N := some 102) (v := ?_) (a' := ?_) #[tT,tT,tT,fF,tT,tT,tT,fF,fF,fF] rfl rfl (any_of HT_.out (by kernel_rfl)) (fun _ _ _ h => h) (Or.inl ⟨by rfl, ?_⟩) ?_ ?_
                 rotate_left
                 ·intro w'
                  go_simp
                  with_reducible rfl
                 rotate_left
                 ·simp only [Act.put, List.setIfInBounds_toArray, List.set_cons_zero, List.set_cons_succ, i64_w, i32_w]
                  rfl
                 refine take_ (i := 3) (N := some 99) (v := ?_) (a' := ?_) #[tT,tT,tT,tT,tT,tT,tT,fF,fF,fF] rfl rfl (take_ofW HT_.out HW_.out (by kernel_rfl)) (fun _ _ _ h => h) (Or.inl ⟨by rfl, ?_⟩) hHeld ?_ ?_
                 rotate_left
                 ·intro w' s0
                  go_simp
                  with_reducible rfl
                 rotate_left
                 ·simp only [Act.put, List.setIfInBounds_toArray, List.set_cons_zero, List.set_cons_succ, i64_w, i32_w]
                  rfl
                 refine pure_ (i := 7) (N := some 103) (v := ?_) (a' := ?_) #[tT,tT,tT,tT,tT,tT,tT,tT,fF,fF] rfl rfl (any_of HT_.out (by kernel_rfl)) (fun _ _ _ h => h) (Or.inl ⟨by rfl, ?_⟩) ?_ ?_
                 rotate_left
                 ·intro w'
                  go_simp
                  with_reducible rfl
                 rotate_left
                 ·simp only [Act.put, List.setIfInBounds_toArray, List.set_cons_zero, List.set_cons_succ, i64_w, i32_w]
                  rfl
                 refine pure_ (i := 8) (N := some 104) (v := ?_) (a' := ?_) #[tT,tT,tT,tT,tT,tT,tT,tT,tT,fF] rfl rfl (any_of HT_.out (by kernel_rfl)) (fun _ _ _ h => h) (Or.inl ⟨by rfl, ?_⟩) ?_ ?_
                 rotate_left
                 ·intro w'
                  go_simp
                  with_reducible rfl
                 rotate_left
                 ·simp only [Act.put, List.setIfInBounds_toArray, List.set_cons_zero, List.set_cons_succ, i64_w, i32_w]
                  rfl
                 refine last_ (i := 9) (N := none) #[tT,tT,tT,tT,tT,tT,tT,tT,tT,tT] rfl rfl (one_of HT_.out (by kernel_rfl)) (by decide) (fun K hK => ?_)
                 refine skip_ (w1 := ?_) (by rfl) rfl ?_ ?_
                 rotate_left
                 ·go_simp
                  rfl
                 refine hK.out _ _ ?_
                 clear hK K
                 refine done_ (done_of HT_.out (by kernel_rfl)) ?_
                 try go_wp2
                 (try subst hji51)
                 go_roundg k2
                 case measure => have := HJ5.out; have := HK2.out; omega
                 case rel => exact ⟨(wrap64 (x9_2 - 1)), (y410), (t407), (false), (by first | rfl | (simp; done) | (simp [*]; done)), H', ⟨by have := HJ5.out; have := HK2.out; omega⟩, ⟨by (with_reducible repeat (first | apply Kd.rA_ | apply Kd.rN_ | apply Kd.rD_)); exact HQ58.out⟩, ⟨by repeat (first | (with_reducible first | exact HI383.out | apply IsS61.alloc | apply IsS61.drewN | apply IsS61.drew | apply IsS61.set_1 | apply IsS61.set_2 | refine IsS61.far ?_ HN383_go52.out _) | exact HI383.out)⟩, ⟨by repeat (first | (with_reducible first | exact HB.out | apply pbA_ | apply pbN_ | apply pb1_ | refine below_set ?_ GB52.out | refine below_set ?_ (IsS61.ge HI383.out)) | exact HB.out)⟩⟩
                ·rw [if_neg c50] at H
                 exact absurd H (by simp)
               ·rw [if_neg c49] at H
                exact absurd H (by simp)
              ·rw [if_neg c48] at H
               exact absurd H (by simp)
          ·rw [if_neg c33] at H
           have c33b0 : decide (0 < x9_2) = false := decide_eq_false c33
           clear c33
           have H' := Aside0.mk H
           clear H
           go_wp2
           go_loopg [15] k2 (fun kq v15 w' => ∃ (x11_3 : List Int) (x15_3 : Int), v15 = .int .i64 x15_3 ∧ Aside0 (dragnetref04_TakeBlock.l1 kq l0 t384 t387 x11_3 x15_3 l0 x384001_2 x384002_2 = some (r1, r2, r3)) ∧ Aside0 (kq ≤ k2) ∧ Aside0 (Kd.R (Kd.int .u64) 50 w' w.heap.size (fun _ => True) v401 x11_3) ∧ Aside0 (IsS61 w w' gb383 l0 x384001_2 x384002_2) ∧ Aside0 (Below w.heap.size w w'))
           case atStart => exact ⟨(x11_2), (0), (by first | rfl | (simp; done) | (simp [*]; done)), H', ⟨Nat.le_refl _⟩, ⟨by (with_reducible repeat (first | apply Kd.rA_ | apply Kd.rN_ | apply Kd.rD_)); exact HO_11.out⟩, ⟨by repeat (first | (with_reducible first | exact HI383.out | apply IsS61.alloc | apply IsS61.drewN | apply IsS61.drew | apply IsS61.set_1 | apply IsS61.set_2) | exact HI383.out)⟩, ⟨by repeat (first | (with_reducible first | exact HB.out | apply pbA_ | apply pbN_ | apply pb1_ | refine below_set ?_ (IsS61.ge HI383.out)) | exact HB.out)⟩⟩
           case round =>
            clear H'
            try clear c1
            try clear c2
            try clear p2
            try clear c3
            try clear c4
            try clear p4
            try clear q4
            try clear hx4
            try clear c5
            try clear p5
            try clear q5
            try clear hx5
            try clear hf5
            try clear p6
            try clear c12
            try clear c15
            try clear c15b0
            try clear c15b1
            try clear c17
            try clear c21
            try clear c23
            try clear c23b0
            try clear c23b1
            try clear c24
            try clear c24b0
            try clear c24b1
            try clear c25
            try clear c25b0
            try clear c25b1
            try clear c27
            try clear c27b0
            try clear c27b1
            try clear c33
            try clear c33b0
            try clear c36
            try clear c37
            try clear c38
            try clear c39
            try clear c40
            try clear c40b0
            try clear p40
            try clear q40
            try clear hx40
            try clear c44
            try clear c44b0
            try clear c44b1
            try clear c48
            try clear c48b0
            try clear c49
            try clear c49b0
            try clear c50
            try clear c50b0
            try clear c50b1
            try clear p52
            try clear q52
            try clear hx52
            try clear hf52
            try clear hcz14_0
            try clear hcz14_1
            try clear hcz14_2
            try clear hcz17_0
            try clear hcz17_1
            try clear hcz17_2
            try clear hcz20_0
            try clear hcz20_1
            try clear hcz20_2
            try clear hcz29_0
            try clear hcz29_1
            try clear hcz29_2
            try clear hcz32_0
            try clear hcz32_1
            try clear hcz32_2
            try clear hcz39_0
            try clear hcz39_1
            try clear hcz39_2
            try clear hcz43_0
            try clear hcz43_1
            try clear hcz43_2
            try clear hcz47_0
            try clear hcz47_1
            try clear hcz47_2
            try clear hcz55_0
            try clear hcz55_1
            try clear hcz55_2
            try clear hfz14_1
            try clear hfz14_2
            try clear hfz17_1
            try clear hfz17_2
            try clear hfz20_1
            try clear hfz20_2
            try clear hfz29_1
            try clear hfz29_2
            try clear hfz32_1
            try clear hfz32_2
            try clear hfz39_1
            try clear hfz39_2
            try clear hfz43_1
            try clear hfz43_2
            try clear hfz47_1
            try clear hfz47_2
            try clear hfz55_1
            try clear hfz55_2
            try clear hx409_0
            try clear hx52_0
            try clear p2
            try clear p409
            try clear p52
            try clear p6
            try clear q409
            try clear q52
            obtain ⟨x11_3, x15_3, rfl, HA, HK3, HO_11, HI383, HB⟩ := hrel
            cases gk with
            | zero => exact absurd HA.out (by simp [dragnetref04_TakeBlock.l1])
            | succ k3 =>
             have H := HA.out
             clear HA
             simp only [dragnetref04_TakeBlock.l1] at H
             by_cases c59 : x15_3 < t384
             ·rw [if_pos c59] at H
              have c59b0 : decide (x15_3 < t384) = true := decide_eq_true c59
              clear c59
              by_cases c60 : 0 ≤ x15_3
              ·rw [if_pos c60] at H
               have c60b0 : decide (0 ≤ x15_3) = true := decide_eq_true c60
               clear c60
               by_cases c61 : x15_3 < (x11_3.length : Int)
               ·rw [if_pos c61] at H
                have c61b0 : decide (x15_3 < (x11_3.length : Int)) = true := decide_eq_true c61
                clear c61
                obtain ⟨y412, hy412⟩ : ∃ y_ : List Int, y_ = (x11_3.set (x15_3 : Int).toNat (IntKind.u64.wrap ((rd x11_3 x15_3) + t387))) := ⟨_, rfl⟩
                replace H : (dragnetref04_TakeBlock.l1 k3 l0 t384 t387 y412 (wrap64 (x15_3 + 1)) l0 x384001_2 x384002_2) = some (r1, r2, r3) := by first | (rw [hy412]; with_reducible exact H) | (have H2_ := (Option.bind_some _ _).symm.trans H; rw [hy412]; with_reducible exact H2_) | (have H2_ := (Option.bind_some _ _).symm.trans H; with_reducible exact H2_) | with_reducible exact H | (rw [hy412]; exact H) | exact H
                have Ny412 := Aside0.mk hy412
                clear hy412
                have H' := Aside0.mk H
                clear H
                obtain ⟨Ao63, co63, eo63⟩ := Kd.R_slice HO_11.out
                subst eo63
                have p411 : 0 ≤ (x15_3 : Int) := of_decide_eq_true (by first | (with_reducible assumption) | assumption)
                have q411 : x15_3 < (x11_3.length : Int) := of_decide_eq_true (by first | (with_reducible assumption) | assumption)
                obtain ⟨ad411, e411, hx411_0⟩ := Kd.at_int (Kd.R_reads' HO_11.out).2.2 x15_3 p411 q411
                cases e411
                replace p411 := eq_true p411
                replace q411 := eq_true q411
                have p62 : 0 ≤ (x15_3 : Int) := of_decide_eq_true (by first | (with_reducible assumption) | assumption)
                have q62 : (x15_3 : Int) < ((x11_3.length : Int) : Int) := of_decide_eq_true (by first | (with_reducible assumption) | assumption)
                obtain ⟨go62, co62, eo62, gb62, gl62, cl62, HG62⟩ := Kd.R_form HO_11.out (by omega)
                (first | cases eo62 | (injection eo62 with ea_ en_ ec_; (first | subst ea_ | (injection ea_ with ea_; subst ea_)); subst ec_; clear en_))
                have GB62 := Aside0.mk gb62
                have GG62 := Aside0.mk HG62
                clear gb62 gl62 HG62
                (first | simp only [add_plain] at hx411_0 | skip)
                obtain ⟨hx62_0, hf62_0⟩ := Kd.R_celln 0 HO_11.out (x15_3 : Int) p62 q62
                replace p62 := eq_true p62
                replace q62 := eq_true q62
                have HP64 := Kd.R_putg HO_11.out (x15_3 : Int) (IntKind.u64.wrap ((rd x11_3 x15_3) + t387))
                go_wp2_with (first | ((with_reducible refine gate_store (t := 50) (p := 116) rfl ?_); refine store_event (t := 50) (p := 116) (v := ?vo_w65) (w1 := (wr.setCell ⟨go62, (x15_3 : Int).toNat, none⟩ (.int .u64 (IntKind.u64.wrap ((rd x11_3 x15_3) + t387))))) ?hg ?ho ?hn ?hr ?_; (case ho => rfl); (case hg => rfl); (case hn => rfl); (case hr => first | (go_simp; done) | (go_simp; rfl)); intro w65 hw; have hg : wr.grownBy w65 (some go62) := (by rw [hw]; exact HP64.2); have hp_ : Kd.R (Kd.int .u64) 50 w65 w.heap.size (fun _ => True) (.slice (some ⟨go62, 0, none⟩) x11_3.length co63) y412 := (by rw [hw, Ny412.out]; exact HP64.1); clear HP64; have n0_ := Aside0.mk (hp_); have n1_ := Aside0.mk (IsS61.grown (by repeat (first | (with_reducible first | exact HI383.out | apply IsS61.alloc | apply IsS61.drewN | apply IsS61.drew | apply IsS61.set_1 | apply IsS61.set_2) | exact HI383.out)) hg (IsS61.own_ne HI383.out HO_11.out (by decide))); have n2_ := Aside0.mk ((by rw [hw]; exact below_set (HB.out) GB62.out : Below w.heap.size w w65)); clear HO_11; clear HI383; clear HB; have HO_11 := n0_; have HI383 := n1_; have HB := n2_; clear n0_ n1_ n2_; clear hg hw hp_))
                go_roundg k3
                case measure => have := HJ5.out; have := HK2.out; have := HK3.out; omega
                case rel => exact ⟨(y412), (wrap64 (x15_3 + 1)), (by first | rfl | (simp; done) | (simp [*]; done)), H', ⟨by have := HJ5.out; have := HK2.out; have := HK3.out; omega⟩, ⟨by (with_reducible repeat (first | apply Kd.rA_ | apply Kd.rN_ | apply Kd.rD_)); exact HO_11.out⟩, ⟨by repeat (first | (with_reducible first | exact HI383.out | apply IsS61.alloc | apply IsS61.drewN | apply IsS61.drew | apply IsS61.set_1 | apply IsS61.set_2) | exact HI383.out)⟩, ⟨by repeat (first | (with_reducible first | exact HB.out | apply pbA_ | apply pbN_ | apply pb1_ | refine below_set ?_ (IsS61.ge HI383.out)) | exact HB.out)⟩⟩
               ·rw [if_neg c61] at H
                exact absurd H (by simp)
              ·rw [if_neg c60] at H
               exact absurd H (by simp)
             ·rw [if_neg c59] at H
              have c59b0 : decide (x15_3 < t384) = false := decide_eq_false c59
              clear c59
              replace H := Option.bind_eq_some_iff.mp H
              obtain ⟨t413, A660, H⟩ := H
              replace H : (if 0 ≤ x384001_2 then (if x384001_2 ≤ (l0.length : Int) then ((dragnetref01_Same.f t413 (l0.take (x384001_2 : Int).toNat)).bind fun t417 => (if t417 = true then (some (x11_3, x384001_2, 0)) else (some (([] : List Int), 0, 2)))) else (none)) else (none)) = some (r1, r2, r3) := H
              have A66 := Aside0.mk A660
              clear A660
              by_cases c67 : 0 ≤ x384001_2
              ·rw [if_pos c67] at H
               have c67b0 := eq_true c67
               have c67b1 : decide (0 ≤ x384001_2) = true := decide_eq_true c67
               clear c67
               by_cases c68 : x384001_2 ≤ (l0.length : Int)
               ·rw [if_pos c68] at H
                have c68b0 := eq_true c68
                have c68b1 : decide (x384001_2 ≤ (l0.length : Int)) = true := decide_eq_true c68
                clear c68
                replace H := Option.bind_eq_some_iff.mp H
                obtain ⟨t417, A690, H⟩ := H
                replace H : (if t417 = true then (some (x11_3, x384001_2, 0)) else (some (([] : List Int), 0, 2))) = some (r1, r2, r3) := H
                have A69 := Aside0.mk A690
                clear A690
                by_cases c70 : t417 = true
                ·subst c70
                 have H1 : (some (x11_3, x384001_2, 0)) = some (r1, r2, r3) := by rw [if_pos rfl] at H; exact H
                 clear H
                 have H := H1
                 clear H1
                 simp only [Option.some.injEq, Prod.mk.injEq] at H
                 obtain ⟨rfl, rfl, rfl⟩ := H
                 try go_wp2
                 (try (rw [drewN_self wr]; generalize hq_ : World.drewN wr _ = wr; have n0_ : Aside0 (Kd.R (Kd.int .u64) 50 wr w.heap.size (fun _ => True) v401 x11_3) := ⟨by rw [← hq_]; exact (by (with_reducible repeat (first | apply Kd.rA_ | apply Kd.rN_ | apply Kd.rD_)); exact HO_11.out)⟩; have n1_ : Aside0 (IsS61 w wr gb383 l0 x384001_2 x384002_2) := ⟨by rw [← hq_]; exact (by repeat (first | (with_reducible first | exact HI383.out | apply IsS61.alloc | apply IsS61.drewN | apply IsS61.drew | apply IsS61.set_1 | apply IsS61.set_2) | exact HI383.out))⟩; have n2_ : Aside0 (Below w.heap.size w wr) := ⟨by rw [← hq_]; exact (by repeat (first | (with_reducible first | exact HB.out | apply pbA_ | apply pbN_ | apply pb1_ | refine below_set ?_ (IsS61.ge HI383.out)) | exact HB.out))⟩; clear HO_11 HI383 HB hq_; have HO_11 := n0_; have HI383 := n1_; have HB := n2_; clear n0_ n1_ n2_))
                 have n0_ := Aside0.mk (Kd.rD_ HO_11.out)
                 have n1_ := Aside0.mk (IsS61.drew HI383.out)
                 have n2_ := Aside0.mk (pb1_ HB.out)
                 clear HO_11
                 clear HI383
                 clear HB
                 have HO_11 := n0_
                 have HI383 := n1_
                 have HB := n2_
                 clear n0_ n1_ n2_
                 obtain ⟨ASz72_0, cSz72_0, HGz72, hgz72, HSz72_0⟩ := HI383.out
                 have hcz72_0 := cellS61_0 HGz72
                 have hcz72_1 := cellS61_1 HGz72
                 have hcz72_2 := cellS61_2 HGz72
                 have hfz72_1 := blk_frozen HGz72 1
                 have hfz72_2 := blk_frozen HGz72 2
                 clear HGz72 hgz72
                 obtain ⟨i073, hi073, _, hsz73, _⟩ := info_parts info5
                 obtain ⟨hcut73, hA73, hC73⟩ := print_take_of (P := Try.prog) (Value.int .u8) 0 22 5 .i64 Try.underlying22 hi073 hsz73 A0 c0 l0 x384001_2 (of_decide_eq_true (by first | (with_reducible assumption) | assumption)) (of_decide_eq_true (by first | (with_reducible assumption) | assumption)) HC0.out
                 have HR416 := Aside0.mk (Kd.C_of_reads (h1 := fun _ => rfl) (hA73 _ (Kd.reads_of_C HR0.out)))
                 have HC416 := Aside0.mk hC73
                 clear hA73 hC73 hi073 hsz73
                 obtain ⟨Ao74, co74, eo74⟩ := Kd.R_slice HO_11.out
                 (first | subst eo74 | (injection eo74 with f1_ f2_ f3_; have f4_ := f1_.symm; have f5_ := f3_.symm; clear f1_ f2_ f3_; subst f4_; subst f5_))
                 refine start_ (n := 10) (S := fun w' => w'.cell? ⟨gb383, 0, none⟩ = some (.slice ASz72_0 l0.length cSz72_0) ∧ w'.cell? ⟨gb383, 1, none⟩ = some (.int .i64 x384001_2) ∧ w'.cell? ⟨gb383, 2, none⟩ = some (.bool x384002_2)) (ds := []) #[false, false, false, false, false, false, false, false, false, false] (by kernel_rfl) rfl rfl ⟨hcz72_0, hcz72_1, hcz72_2⟩ (fun hHeld => ?_); refine with_tabW dragnetref04_TakeBlock.tab24 dragnetref04_TakeBlock.bits24 (fun HT_ HW_ => ?_)
                 generalize wr.drew = w71 at HO_11 HI383 HB HR416 hHeld ⊢
                 refine pure_ (i := 0) (N := some 117) (v := ?_) (a' := ?_) #[tT,fF,fF,fF,fF,fF,fF,fF,fF,fF] rfl rfl (any_of HT_.out (by kernel_rfl)) (fun _ _ _ h => h) (Or.inl ⟨by rfl, ?_⟩) ?_ ?_
                 rotate_left
                 ·intro w'
                  go_simp
                  with_reducible rfl
                 rotate_left
                 ·simp only [Act.put, List.setIfInBounds_toArray, List.set_cons_zero, List.set_cons_succ, i64_w, i32_w]
                  rfl
                 refine pure_ (i := 2) (N := some 119) (v := ?_) (a' := ?_) #[tT,fF,tT,fF,fF,fF,fF,fF,fF,fF] rfl rfl (any_of HT_.out (by kernel_rfl)) (fun _ _ _ h => h) (Or.inl ⟨by rfl, ?_⟩) ?_ ?_
                 rotate_left
                 ·intro w'
                  go_simp
                  with_reducible rfl
                 rotate_left
                 ·simp only [Act.put, List.setIfInBounds_toArray, List.set_cons_zero, List.set_cons_succ, i64_w, i32_w]
                  rfl
                 refine pure_ (i := 3) (N := some 120) (v := ?_) (a' := ?_) #[tT,fF,tT,tT,fF,fF,fF,fF,fF,fF] rfl rfl (any_of HT_.out (by kernel_rfl)) (fun _ _ _ h => h) (Or.inl ⟨by rfl, ?_⟩) ?_ ?_
                 rotate_left
                 ·intro w'
                  go_simp
                  with_reducible rfl
                 rotate_left
                 ·simp only [Act.put, List.setIfInBounds_toArray, List.set_cons_zero, List.set_cons_succ, i64_w, i32_w]
                  rfl
                 refine pure_ (i := 4) (N := some 121) (v := ?_) (a' := ?_) #[tT,fF,tT,tT,tT,fF,fF,fF,fF,fF] rfl rfl (any_of HT_.out (by kernel_rfl)) (fun _ _ _ h => h) (Or.inl ⟨by rfl, ?_⟩) ?_ ?_
                 rotate_left
                 ·intro w'
                  go_simp
                  with_reducible rfl
                 rotate_left
                 ·simp only [Act.put, List.setIfInBounds_toArray, List.set_cons_zero, List.set_cons_succ, i64_w, i32_w]
                  rfl
                 refine pure_ (i := 5) (N := some 122) (v := ?_) (a' := ?_) #[tT,fF,tT,tT,tT,tT,fF,fF,fF,fF] rfl rfl (any_of HT_.out (by kernel_rfl)) (fun _ _ _ h => h) (Or.inl ⟨by rfl, ?_⟩) ?_ ?_
                 rotate_left
                 ·intro w'
                  go_simp
                  with_reducible rfl
                 rotate_left
                 ·simp only [Act.put, List.setIfInBounds_toArray, List.set_cons_zero, List.set_cons_succ, i64_w, i32_w]
                  rfl
                 refine take_ (i := 6) (N := some 123) (v := ?_) (a' := ?_) #[tT,fF,tT,tT,tT,tT,tT,fF,fF,fF] rfl rfl (take_ofW HT_.out HW_.out (by kernel_rfl)) (fun _ _ _ h => h) (Or.inl ⟨by rfl, ?_⟩) hHeld ?_ ?_
                 rotate_left
                 ·rintro w' ⟨s0, s1, s2⟩
                  go_simp
                  with_reducible rfl
                 rotate_left
                 ·simp only [Act.put, List.setIfInBounds_toArray, List.set_cons_zero, List.set_cons_succ, i64_w, i32_w]
                  rfl
                 refine pure_ (i := 7) (N := some 124) (v := ?_) (a' := ?_) #[tT,fF,tT,tT,tT,tT,tT,tT,fF,fF] rfl rfl (any_of HT_.out (by kernel_rfl)) (fun _ _ _ h => h) (Or.inl ⟨by rfl, ?_⟩) ?_ ?_
                 rotate_left
                 ·intro w'
                  go_simp
                  with_reducible rfl
                 rotate_left
                 ·simp only [Act.put, List.setIfInBounds_toArray, List.set_cons_zero, List.set_cons_succ, i64_w, i32_w]
                  rfl
                 refine one_ (i := 1) (N := some 118) #[tT,tT,tT,tT,tT,tT,tT,tT,fF,fF] rfl rfl (one_of HT_.out (by kernel_rfl)) (by decide) (fun K hK => ?_)
                 refine goes_ Try.func15 (by kernel_rfl) rfl #[.slice Ao74 x11_3.length co74] (by rfl) rfl rfl (by (try simp only [List.map_toArray, List.map_cons, List.map_nil]); first | done | rfl | (simp only [List.length_drop, List.length_take]; rfl)) ?_
                 with_reducible refine (dragnetref04_Block.calls k3 _ _ x11_3 t413 _ ?side1 ?side2 A66.out).mono ?_
                 (case side1 => repeat (first | exact (Kd.R_reads' HO_11.out).2.2 | (with_reducible refine Kd.cA_ ?_ _) | (with_reducible refine Kd.cN_ ?_ _) | (with_reducible refine Kd.cD_ ?_)))
                 (case side2 => exact (Kd.R_reads' HO_11.out).2.1)
                 rintro e w75 ⟨v414, rfl, ho0, hb⟩
                 have HS0_ := (hb.cell (World.block_lt_of_cell? _ _ (hHeld.1))).trans (hHeld.1)
                 have HS1_ := (hb.cell (World.block_lt_of_cell? _ _ (hHeld.2.1))).trans (hHeld.2.1)
                 have HS2_ := (hb.cell (World.block_lt_of_cell? _ _ (hHeld.2.2))).trans (hHeld.2.2)
                 refine ⟨_, rfl, ?_⟩
                 have n0_ := Aside0.mk (Kd.R_below (by (with_reducible repeat (first | apply Kd.rA_ | apply Kd.rN_ | apply Kd.rD_)); exact HO_11.out) hb)
                 have n1_ := Aside0.mk (Kd.R_lower ho0 (pbS_ (by repeat (first | (with_reducible first | exact HB.out | apply pbA_ | apply pbN_ | apply pb1_ | refine below_set ?_ (IsS61.ge HI383.out)) | exact HB.out))))
                 have n2_ := Aside0.mk (IsS61.below (by repeat (first | (with_reducible first | exact HI383.out | apply IsS61.alloc | apply IsS61.drewN | apply IsS61.drew | apply IsS61.set_1 | apply IsS61.set_2) | exact HI383.out)) hb)
                 have n3_ := Aside0.mk (below_step (by repeat (first | (with_reducible first | exact HB.out | apply pbA_ | apply pbN_ | apply pb1_ | refine below_set ?_ (IsS61.ge HI383.out)) | exact HB.out)) hb)
                 clear HO_11
                 clear HI383
                 clear HB
                 have HO_11 := n0_
                 have HO415 := n1_
                 have HI383 := n2_
                 have HB := n3_
                 clear n0_ n1_ n2_ n3_
                 (try clear hb)
                 (try clear hb2)
                 (try clear hk)
                 (try clear hi)
                 (try clear ho0)
                 obtain ⟨Ao76, co76, eo76⟩ := Kd.R_slice HO415.out
                 (first | subst eo76 | (injection eo76 with f1_ f2_ f3_; have f4_ := f1_.symm; have f5_ := f3_.symm; clear f1_ f2_ f3_; subst f4_; subst f5_))
                 refine hK.out _ _ ⟨HS0_, HS1_, HS2_⟩ (fun hHeld => ?_)
                 clear hK K
                 refine norm_ (a' := ?_) ?_ ?_
                 rotate_left
                 ·show Act.put _ (some 118) _ = _
                  simp only [Act.put, List.setIfInBounds_toArray, List.set_cons_zero, List.set_cons_succ, i64_w, i32_w]
                  rfl
                 refine one_ (i := 8) (N := some 125) #[tT,tT,tT,tT,tT,tT,tT,tT,tT,fF] rfl rfl (one_of HT_.out (by kernel_rfl)) (by decide) (fun K hK => ?_)
                 refine goes_ Try.func13 (by kernel_rfl) rfl #[.slice Ao76 t413.length co76, .slice A0 (l0.take (x384001_2 : Int).toNat).length c0] (by rfl) rfl rfl (by (try simp only [List.map_toArray, List.map_cons, List.map_nil]); first | done | (rw [show (l0.take (x384001_2 : Int).toNat).length = x384001_2.toNat from (by rw [List.length_take]; have h_ : (x384001_2 : Int) ≤ (l0.length : Int) := of_decide_eq_true (by first | (with_reducible assumption) | assumption); omega)] <;> rfl) | rfl | (simp only [List.length_drop, List.length_take]; rfl)) ?_
                 with_reducible refine (dragnetref01_Same.calls _ _ t413 _ _ (l0.take (x384001_2 : Int).toNat) true _ ?side1 ?side2 ?side3 ?side4 A69.out).mono ?_
                 (case side1 => repeat (first | exact (Kd.R_reads' HO415.out).2.2 | (with_reducible refine Kd.cA_ ?_ _) | (with_reducible refine Kd.cN_ ?_ _) | (with_reducible refine Kd.cD_ ?_)))
                 (case side2 => exact (Kd.R_reads' HO415.out).2.1)
                 (case side3 => repeat (first | exact (Kd.C_below HR416.out HB.out) | (with_reducible refine Kd.cA_ ?_ _) | (with_reducible refine Kd.cN_ ?_ _) | (with_reducible refine Kd.cD_ ?_)))
                 (case side4 => exact HC416.out)
                 rintro e w' ⟨rfl, ⟨nd, rfl⟩⟩
                 refine ⟨_, rfl, ?_⟩
                 refine hK.out _ _ ⟨hHeld.1, hHeld.2.1, hHeld.2.2⟩ (fun hHeld => ?_)
                 clear hK K
                 refine norm_ (a' := ?_) ?_ ?_
                 rotate_left
                 ·show Act.put _ (some 125) _ = _
                  simp only [Act.put, List.setIfInBounds_toArray, List.set_cons_zero, List.set_cons_succ, i64_w, i32_w]
                  rfl
                 refine pure_ (i := 9) (N := some 126) (v := ?_) (a' := ?_) #[tT,tT,tT,tT,tT,tT,tT,tT,tT,tT] rfl rfl (any_of HT_.out (by kernel_rfl)) (fun _ _ _ h => h) (Or.inl ⟨by rfl, ?_⟩) ?_ ?_
                 rotate_left
                 ·intro w'
                  go_simp
                  with_reducible rfl
                 rotate_left
                 ·simp only [Act.put, List.setIfInBounds_toArray, List.set_cons_zero, List.set_cons_succ, i64_w, i32_w]
                  rfl
                 refine done_ (done_of HT_.out (by kernel_rfl)) ?_
                 try go_wp2
                 (try (rw [drewN_self w75]; generalize hq_ : World.drewN w75 _ = w75; have n0_ : Aside0 (Kd.R (Kd.int .u8) 5 w75 w.heap.size (fun _ => True) (.slice Ao76 t413.length co76) t413) := ⟨by rw [← hq_]; exact (by (with_reducible repeat (first | apply Kd.rA_ | apply Kd.rN_ | apply Kd.rD_)); exact HO415.out)⟩; have n1_ : Aside0 (Kd.R (Kd.int .u64) 50 w75 w.heap.size (fun _ => True) (.slice Ao74 x11_3.length co74) x11_3) := ⟨by rw [← hq_]; exact (by (with_reducible repeat (first | apply Kd.rA_ | apply Kd.rN_ | apply Kd.rD_)); exact HO_11.out)⟩; have n2_ : Aside0 (IsS61 w w75 gb383 l0 x384001_2 x384002_2) := ⟨by rw [← hq_]; exact (by repeat (first | (with_reducible first | exact HI383.out | apply IsS61.alloc | apply IsS61.drewN | apply IsS61.drew | apply IsS61.set_1 | apply IsS61.set_2) | exact HI383.out))⟩; have n3_ : Aside0 (Below w.heap.size w w75) := ⟨by rw [← hq_]; exact (by repeat (first | (with_reducible first | exact HB.out | apply pbA_ | apply pbN_ | apply pb1_ | refine below_set ?_ (IsS61.ge HI383.out)) | exact HB.out))⟩; clear HO415 HO_11 HI383 HB hq_; have HO415 := n0_; have HO_11 := n1_; have HI383 := n2_; have HB := n3_; clear n0_ n1_ n2_ n3_))
                 have n0_ := Aside0.mk (Kd.rD_ HO_11.out)
                 have n1_ := Aside0.mk (Kd.rD_ HO415.out)
                 have n2_ := Aside0.mk (IsS61.drew HI383.out)
                 have n3_ := Aside0.mk (pb1_ HB.out)
                 clear HO_11
                 clear HO415
                 clear HI383
                 clear HB
                 have HO_11 := n0_
                 have HO415 := n1_
                 have HI383 := n2_
                 have HB := n3_
                 clear n0_ n1_ n2_ n3_
                 obtain ⟨ASz78_0, cSz78_0, HGz78, hgz78, HSz78_0⟩ := HI383.out
                 have hcz78_0 := cellS61_0 HGz78
                 have hcz78_1 := cellS61_1 HGz78
                 have hcz78_2 := cellS61_2 HGz78
                 have hfz78_1 := blk_frozen HGz78 1
                 have hfz78_2 := blk_frozen HGz78 2
                 clear HGz78 hgz78
                 refine start_ (n := 8) (S := fun w' => w'.cell? ⟨gb383, 0, none⟩ = some (.slice ASz78_0 l0.length cSz78_0) ∧ w'.cell? ⟨gb383, 1, none⟩ = some (.int .i64 x384001_2) ∧ w'.cell? ⟨gb383, 2, none⟩ = some (.bool x384002_2)) (ds := []) #[false, false, false, false, false, false, false, false] (by kernel_rfl) rfl rfl ⟨hcz78_0, hcz78_1, hcz78_2⟩ (fun hHeld => ?_); refine with_tabW dragnetref04_TakeBlock.tab26 dragnetref04_TakeBlock.bits26 (fun HT_ HW_ => ?_)
                 generalize w75.drew = w77 at HO_11 HO415 HI383 HB hHeld ⊢
                 refine pure_ (i := 0) (N := some 127) (v := ?_) (a' := ?_) #[tT,fF,fF,fF,fF,fF,fF,fF] rfl rfl (any_of HT_.out (by kernel_rfl)) (fun _ _ _ h => h) (Or.inl ⟨by rfl, ?_⟩) ?_ ?_
                 rotate_left
                 ·intro w'
                  go_simp
                  with_reducible rfl
                 rotate_left
                 ·simp only [Act.put, List.setIfInBounds_toArray, List.set_cons_zero, List.set_cons_succ, i64_w, i32_w]
                  rfl
                 refine pure_ (i := 1) (N := some 128) (v := ?_) (a' := ?_) #[tT,tT,fF,fF,fF,fF,fF,fF] rfl rfl (any_of HT_.out (by kernel_rfl)) (fun _ _ _ h => h) (Or.inl ⟨by rfl, ?_⟩) ?_ ?_
                 rotate_left
                 ·intro w'
                  go_simp
                  with_reducible rfl
                 rotate_left
                 ·simp only [Act.put, List.setIfInBounds_toArray, List.set_cons_zero, List.set_cons_succ, i64_w, i32_w]
                  rfl
                 refine pure_ (i := 2) (N := some 129) (v := ?_) (a' := ?_) #[tT,tT,tT,fF,fF,fF,fF,fF] rfl rfl (any_of HT_.out (by kernel_rfl)) (fun _ _ _ h => h) (Or.inl ⟨by rfl, ?_⟩) ?_ ?_
                 rotate_left
                 ·intro w'
                  go_simp
                  with_reducible rfl
                 rotate_left
                 ·simp only [Act.put, List.setIfInBounds_toArray, List.set_cons_zero, List.set_cons_succ, i64_w, i32_w]
                  rfl
                 refine pure_ (i := 3) (N := some 130) (v := ?_) (a' := ?_) #[tT,tT,tT,tT,fF,fF,fF,fF] rfl rfl (any_of HT_.out (by kernel_rfl)) (fun _ _ _ h => h) (Or.inl ⟨by rfl, ?_⟩) ?_ ?_
                 rotate_left
                 ·intro w'
                  go_simp
                  with_reducible rfl
                 rotate_left
                 ·simp only [Act.put, List.setIfInBounds_toArray, List.set_cons_zero, List.set_cons_succ, i64_w, i32_w]
                  rfl
                 refine pure_ (i := 5) (N := some 2) (v := ?_) (a' := ?_) #[tT,tT,tT,tT,fF,tT,fF,fF] rfl rfl (any_of HT_.out (by kernel_rfl)) (fun _ _ _ h => h) (Or.inl ⟨by rfl, ?_⟩) ?_ ?_
                 rotate_left
                 ·intro w'
                  go_simp
                  with_reducible rfl
                 rotate_left
                 ·simp only [Act.put, List.setIfInBounds_toArray, List.set_cons_zero, List.set_cons_succ, i64_w, i32_w]
                  rfl
                 refine take_ (i := 4) (N := some 131) (v := ?_) (a' := ?_) #[tT,tT,tT,tT,tT,tT,fF,fF] rfl rfl (take_ofW HT_.out HW_.out (by kernel_rfl)) (fun _ _ _ h => h) (Or.inl ⟨by rfl, ?_⟩) hHeld ?_ ?_
                 rotate_left
                 ·rintro w' ⟨s0, s1, s2⟩
                  go_simp
                  with_reducible rfl
                 rotate_left
                 ·simp only [Act.put, List.setIfInBounds_toArray, List.set_cons_zero, List.set_cons_succ, i64_w, i32_w]
                  rfl
                 refine pure_ (i := 6) (N := some 3) (v := ?_) (a' := ?_) #[tT,tT,tT,tT,tT,tT,tT,fF] rfl rfl (any_of HT_.out (by kernel_rfl)) (fun _ _ _ h => h) (Or.inl ⟨by rfl, ?_⟩) ?_ ?_
                 rotate_left
                 ·intro w'
                  go_simp
                  with_reducible rfl
                 rotate_left
                 ·simp only [Act.put, List.setIfInBounds_toArray, List.set_cons_zero, List.set_cons_succ, i64_w, i32_w]
                  rfl
                 refine pure_ (i := 7) (N := some 4) (v := ?_) (a' := ?_) #[tT,tT,tT,tT,tT,tT,tT,tT] rfl rfl (any_of HT_.out (by kernel_rfl)) (fun _ _ _ h => h) (Or.inl ⟨by rfl, ?_⟩) ?_ ?_
                 rotate_left
                 ·intro w'
                  go_simp
                  with_reducible rfl
                 rotate_left
                 ·simp only [Act.put, List.setIfInBounds_toArray, List.set_cons_zero, List.set_cons_succ, i64_w, i32_w]
                  rfl
                 refine done_ (done_of HT_.out (by kernel_rfl)) ?_
                 try go_wp2
                 go_ret3
                 exact ⟨_, by first | rfl | (simp [eWn_, eWs_] <;> rfl) | (simp [*, eWn_, eWs_] <;> rfl), by (with_reducible repeat (first | apply Kd.rA_ | apply Kd.rN_ | apply Kd.rD_)); exact HO_11.out, by repeat (first | (with_reducible first | exact HB.out | apply pbA_ | apply pbN_ | apply pb1_ | refine below_set ?_ (IsS61.ge HI383.out)) | exact HB.out)⟩
                ·replace c70 := Bool.eq_false_iff.mpr c70
                 subst c70
                 have H1 : (some (([] : List Int), 0, 2)) = some (r1, r2, r3) := by rw [if_neg (show ¬ (false = true) by decide)] at H; exact H
                 clear H
                 have H := H1
                 clear H1
                 simp only [Option.some.injEq, Prod.mk.injEq] at H
                 obtain ⟨rfl, rfl, rfl⟩ := H
                 try go_wp2
                 (try (rw [drewN_self wr]; generalize hq_ : World.drewN wr _ = wr; have n0_ : Aside0 (Kd.R (Kd.int .u64) 50 wr w.heap.size (fun _ => True) v401 x11_3) := ⟨by rw [← hq_]; exact (by (with_reducible repeat (first | apply Kd.rA_ | apply Kd.rN_ | apply Kd.rD_)); exact HO_11.out)⟩; have n1_ : Aside0 (IsS61 w wr gb383 l0 x384001_2 x384002_2) := ⟨by rw [← hq_]; exact (by repeat (first | (with_reducible first | exact HI383.out | apply IsS61.alloc | apply IsS61.drewN | apply IsS61.drew | apply IsS61.set_1 | apply IsS61.set_2) | exact HI383.out))⟩; have n2_ : Aside0 (Below w.heap.size w wr) := ⟨by rw [← hq_]; exact (by repeat (first | (with_reducible first | exact HB.out | apply pbA_ | apply pbN_ | apply pb1_ | refine below_set ?_ (IsS61.ge HI383.out)) | exact HB.out))⟩; clear HO_11 HI383 HB hq_; have HO_11 := n0_; have HI383 := n1_; have HB := n2_; clear n0_ n1_ n2_))
                 have n0_ := Aside0.mk (Kd.rD_ HO_11.out)
                 have n1_ := Aside0.mk (IsS61.drew HI383.out)
                 have n2_ := Aside0.mk (pb1_ HB.out)
                 clear HO_11
                 clear HI383
                 clear HB
                 have HO_11 := n0_
                 have HI383 := n1_
                 have HB := n2_
                 clear n0_ n1_ n2_
                 obtain ⟨ASz80_0, cSz80_0, HGz80, hgz80, HSz80_0⟩ := HI383.out
                 have hcz80_0 := cellS61_0 HGz80
                 have hcz80_1 := cellS61_1 HGz80
                 have hcz80_2 := cellS61_2 HGz80
                 have hfz80_1 := blk_frozen HGz80 1
                 have hfz80_2 := blk_frozen HGz80 2
                 clear HGz80 hgz80
                 obtain ⟨i081, hi081, _, hsz81, _⟩ := info_parts info5
                 obtain ⟨hcut81, hA81, hC81⟩ := print_take_of (P := Try.prog) (Value.int .u8) 0 22 5 .i64 Try.underlying22 hi081 hsz81 A0 c0 l0 x384001_2 (of_decide_eq_true (by first | (with_reducible assumption) | assumption)) (of_decide_eq_true (by first | (with_reducible assumption) | assumption)) HC0.out
                 have HR416 := Aside0.mk (Kd.C_of_reads (h1 := fun _ => rfl) (hA81 _ (Kd.reads_of_C HR0.out)))
                 have HC416 := Aside0.mk hC81
                 clear hA81 hC81 hi081 hsz81
                 obtain ⟨Ao82, co82, eo82⟩ := Kd.R_slice HO_11.out
                 (first | subst eo82 | (injection eo82 with f1_ f2_ f3_; have f4_ := f1_.symm; have f5_ := f3_.symm; clear f1_ f2_ f3_; subst f4_; subst f5_))
                 refine start_ (n := 10) (S := fun w' => w'.cell? ⟨gb383, 0, none⟩ = some (.slice ASz80_0 l0.length cSz80_0) ∧ w'.cell? ⟨gb383, 1, none⟩ = some (.int .i64 x384001_2) ∧ w'.cell? ⟨gb383, 2, none⟩ = some (.bool x384002_2)) (ds := []) #[false, false, false, false, false, false, false, false, false, false] (by kernel_rfl) rfl rfl ⟨hcz80_0, hcz80_1, hcz80_2⟩ (fun hHeld => ?_); refine with_tabW dragnetref04_TakeBlock.tab24 dragnetref04_TakeBlock.bits24 (fun HT_ HW_ => ?_)
                 generalize wr.drew = w79 at HO_11 HI383 HB HR416 hHeld ⊢
                 refine pure_ (i := 0) (N := some 117) (v := ?_) (a' := ?_) #[tT,fF,fF,fF,fF,fF,fF,fF,fF,fF] rfl rfl (any_of HT_.out (by kernel_rfl)) (fun _ _ _ h => h) (Or.inl ⟨by rfl, ?_⟩) ?_ ?_
                 rotate_left
                 ·intro w'
                  go_simp
                  with_reducible rfl
                 rotate_left
                 ·simp only [Act.put, List.setIfInBounds_toArray, List.set_cons_zero, List.set_cons_succ, i64_w, i32_w]
                  rfl
                 refine pure_ (i := 2) (N := some 119) (v := ?_) (a' := ?_) #[tT,fF,tT,fF,fF,fF,fF,fF,fF,fF] rfl rfl (any_of HT_.out (by kernel_rfl)) (fun _ _ _ h => h) (Or.inl ⟨by rfl, ?_⟩) ?_ ?_
                 rotate_left
                 ·intro w'
                  go_simp
                  with_reducible rfl
                 rotate_left
                 ·simp only [Act.put, List.setIfInBounds_toArray, List.set_cons_zero, List.set_cons_succ, i64_w, i32_w]
                  rfl
                 refine pure_ (i := 3) (N := some 120) (v := ?_) (a' := ?_) #[tT,fF,tT,tT,fF,fF,fF,fF,fF,fF] rfl rfl (any_of HT_.out (by kernel_rfl)) (fun _ _ _ h => h) (Or.inl ⟨by rfl, ?_⟩) ?_ ?_
                 rotate_left
                 ·intro w'
                  go_simp
                  with_reducible rfl
                 rotate_left
                 ·simp only [Act.put, List.setIfInBounds_toArray, List.set_cons_zero, List.set_cons_succ, i64_w, i32_w]
                  rfl
                 refine pure_ (i := 4) (N := some 121) (v := ?_) (a' := ?_) #[tT,fF,tT,tT,tT,fF,fF,fF,fF,fF] rfl rfl (any_of HT_.out (by kernel_rfl)) (fun _ _ _ h => h) (Or.inl ⟨by rfl, ?_⟩) ?_ ?_
                 rotate_left
                 ·intro w'
                  go_simp
                  with_reducible rfl
                 rotate_left
                 ·simp only [Act.put, List.setIfInBounds_toArray, List.set_cons_zero, List.set_cons_succ, i64_w, i32_w]
                  rfl
                 refine pure_ (i := 5) (N := some 122) (v := ?_) (a' := ?_) #[tT,fF,tT,tT,tT,tT,fF,fF,fF,fF] rfl rfl (any_of HT_.out (by kernel_rfl)) (fun _ _ _ h => h) (Or.inl ⟨by rfl, ?_⟩) ?_ ?_
                 rotate_left
                 ·intro w'
                  go_simp
                  with_reducible rfl
                 rotate_left
                 ·simp only [Act.put, List.setIfInBounds_toArray, List.set_cons_zero, List.set_cons_succ, i64_w, i32_w]
                  rfl
                 refine take_ (i := 6) (N := some 123) (v := ?_) (a' := ?_) #[tT,fF,tT,tT,tT,tT,tT,fF,fF,fF] rfl rfl (take_ofW HT_.out HW_.out (by kernel_rfl)) (fun _ _ _ h => h) (Or.inl ⟨by rfl, ?_⟩) hHeld ?_ ?_
                 rotate_left
                 ·rintro w' ⟨s0, s1, s2⟩
                  go_simp
                  with_reducible rfl
                 rotate_left
                 ·simp only [Act.put, List.setIfInBounds_toArray, List.set_cons_zero, List.set_cons_succ, i64_w, i32_w]
                  rfl
                 refine pure_ (i := 7) (N := some 124) (v := ?_) (a' := ?_) #[tT,fF,tT,tT,tT,tT,tT,tT,fF,fF] rfl rfl (any_of HT_.out (by kernel_rfl)) (fun _ _ _ h => h) (Or.inl ⟨by rfl, ?_⟩) ?_ ?_
                 rotate_left
                 ·intro w'
                  go_simp
                  with_reducible rfl
                 rotate_left
                 ·simp only [Act.put, List.setIfInBounds_toArray, List.set_cons_zero, List.set_cons_succ, i64_w, i32_w]
                  rfl
                 refine one_ (i := 1) (N := some 118) #[tT,tT,tT,tT,tT,tT,tT,tT,fF,fF] rfl rfl (one_of HT_.out (by kernel_rfl)) (by decide) (fun K hK => ?_)
                 refine goes_ Try.func15 (by kernel_rfl) rfl #[.slice Ao82 x11_3.length co82] (by rfl) rfl rfl (by (try simp only [List.map_toArray, List.map_cons, List.map_nil]); first | done | rfl | (simp only [List.length_drop, List.length_take]; rfl)) ?_
                 with_reducible refine (dragnetref04_Block.calls k3 _ _ x11_3 t413 _ ?side1 ?side2 A66.out).mono ?_
                 (case side1 => repeat (first | exact (Kd.R_reads' HO_11.out).2.2 | (with_reducible refine Kd.cA_ ?_ _) | (with_reducible refine Kd.cN_ ?_ _) | (with_reducible refine Kd.cD_ ?_)))
                 (case side2 => exact (Kd.R_reads' HO_11.out).2.1)
                 rintro e w83 ⟨v414, rfl, ho0, hb⟩
                 have HS0_ := (hb.cell (World.block_lt_of_cell? _ _ (hHeld.1))).trans (hHeld.1)
                 have HS1_ := (hb.cell (World.block_lt_of_cell? _ _ (hHeld.2.1))).trans (hHeld.2.1)
                 have HS2_ := (hb.cell (World.block_lt_of_cell? _ _ (hHeld.2.2))).trans (hHeld.2.2)
                 refine ⟨_, rfl, ?_⟩
                 have n0_ := Aside0.mk (Kd.R_below (by (with_reducible repeat (first | apply Kd.rA_ | apply Kd.rN_ | apply Kd.rD_)); exact HO_11.out) hb)
                 have n1_ := Aside0.mk (Kd.R_lower ho0 (pbS_ (by repeat (first | (with_reducible first | exact HB.out | apply pbA_ | apply pbN_ | apply pb1_ | refine below_set ?_ (IsS61.ge HI383.out)) | exact HB.out))))
                 have n2_ := Aside0.mk (IsS61.below (by repeat (first | (with_reducible first | exact HI383.out | apply IsS61.alloc | apply IsS61.drewN | apply IsS61.drew | apply IsS61.set_1 | apply IsS61.set_2) | exact HI383.out)) hb)
                 have n3_ := Aside0.mk (below_step (by repeat (first | (with_reducible first | exact HB.out | apply pbA_ | apply pbN_ | apply pb1_ | refine below_set ?_ (IsS61.ge HI383.out)) | exact HB.out)) hb)
                 clear HO_11
                 clear HI383
                 clear HB
                 have HO_11 := n0_
                 have HO415 := n1_
                 have HI383 := n2_
                 have HB := n3_
                 clear n0_ n1_ n2_ n3_
                 (try clear hb)
                 (try clear hb2)
                 (try clear hk)
                 (try clear hi)
                 (try clear ho0)
                 obtain ⟨Ao84, co84, eo84⟩ := Kd.R_slice HO415.out
                 (first | subst eo84 | (injection eo84 with f1_ f2_ f3_; have f4_ := f1_.symm; have f5_ := f3_.symm; clear f1_ f2_ f3_; subst f4_; subst f5_))
                 refine hK.out _ _ ⟨HS0_, HS1_, HS2_⟩ (fun hHeld => ?_)
                 clear hK K
                 refine norm_ (a' := ?_) ?_ ?_
                 rotate_left
                 ·show Act.put _ (some 118) _ = _
                  simp only [Act.put, List.setIfInBounds_toArray, List.set_cons_zero, List.set_cons_succ, i64_w, i32_w]
                  rfl
                 refine one_ (i := 8) (N := some 125) #[tT,tT,tT,tT,tT,tT,tT,tT,tT,fF] rfl rfl (one_of HT_.out (by kernel_rfl)) (by decide) (fun K hK => ?_)
                 refine goes_ Try.func13 (by kernel_rfl) rfl #[.slice Ao84 t413.length co84, .slice A0 (l0.take (x384001_2 : Int).toNat).length c0] (by rfl) rfl rfl (by (try simp only [List.map_toArray, List.map_cons, List.map_nil]); first | done | (rw [show (l0.take (x384001_2 : Int).toNat).length = x384001_2.toNat from (by rw [List.length_take]; have h_ : (x384001_2 : Int) ≤ (l0.length : Int) := of_decide_eq_true (by first | (with_reducible assumption) | assumption); omega)] <;> rfl) | rfl | (simp only [List.length_drop, List.length_take]; rfl)) ?_
                 with_reducible refine (dragnetref01_Same.calls _ _ t413 _ _ (l0.take (x384001_2 : Int).toNat) false _ ?side1 ?side2 ?side3 ?side4 A69.out).mono ?_
                 (case side1 => repeat (first | exact (Kd.R_reads' HO415.out).2.2 | (with_reducible refine Kd.cA_ ?_ _) | (with_reducible refine Kd.cN_ ?_ _) | (with_reducible refine Kd.cD_ ?_)))
                 (case side2 => exact (Kd.R_reads' HO415.out).2.1)
                 (case side3 => repeat (first | exact (Kd.C_below HR416.out HB.out) | (with_reducible refine Kd.cA_ ?_ _) | (with_reducible refine Kd.cN_ ?_ _) | (with_reducible refine Kd.cD_ ?_)))
                 (case side4 => exact HC416.out)
                 rintro e w' ⟨rfl, ⟨nd, rfl⟩⟩
                 refine ⟨_, rfl, ?_⟩
                 refine hK.out _ _ ⟨hHeld.1, hHeld.2.1, hHeld.2.2⟩ (fun hHeld => ?_)
                 clear hK K
                 refine norm_ (a' := ?_) ?_ ?_
                 rotate_left
                 ·show Act.put _ (some 125) _ = _
                  simp only [Act.put, List.setIfInBounds_toArray, List.set_cons_zero, List.set_cons_succ, i64_w, i32_w]
                  rfl
                 refine pure_ (i := 9) (N := some 126) (v := ?_) (a' := ?_) #[tT,tT,tT,tT,tT,tT,tT,tT,tT,tT] rfl rfl (any_of HT_.out (by kernel_rfl)) (fun _ _ _ h => h) (Or.inl ⟨by rfl, ?_⟩) ?_ ?_
                 rotate_left
                 ·intro w'
                  go_simp
                  with_reducible rfl
                 rotate_left
                 ·simp only [Act.put, List.setIfInBounds_toArray, List.set_cons_zero, List.set_cons_succ, i64_w, i32_w]
                  rfl
                 refine done_ (done_of HT_.out (by kernel_rfl)) ?_
                 try go_wp2
                 go_ret3
                 exact ⟨_, by first | rfl | (simp [eWn_, eWs_] <;> rfl) | (simp [*, eWn_, eWs_] <;> rfl), by first | exact Kd.R_nil _ _ _ _ _ | exact Kd.N_nil _ _ _ _ _ | exact Kd.V_nil _ _ _ _ _ | exact Kd.Q_nil _ _ _ _ _ | exact Kd.S_nil _ _ _ _ _, by repeat (first | (with_reducible first | exact HB.out | apply pbA_ | apply pbN_ | apply pb1_ | refine below_set ?_ (IsS61.ge HI383.out)) | exact HB.out)⟩
               ·rw [if_neg c68] at H
                exact absurd H (by simp)
              ·rw [if_neg c67] at H
               exact absurd H (by simp)
       ·rw [if_neg c27] at H
        have c27b0 : (t400 == 0) = false := beq_eq_false_iff_ne.mpr c27
        have c27b1 : (t400 != 0) = true := bne_iff_ne.mpr c27
        simp only [Option.some.injEq, Prod.mk.injEq] at H
        obtain ⟨rfl, rfl, rfl⟩ := H
        try go_wp2
        (try (rw [drewN_self wc]; generalize hq_ : World.drewN wc _ = wc; have n0_ : Aside0 (IsS61 w wc gb383 l0 t394 t395) := ⟨by rw [← hq_]; exact (by repeat (first | (with_reducible first | exact HI383.out | apply IsS61.alloc | apply IsS61.drewN | apply IsS61.drew | apply IsS61.set_1 | apply IsS61.set_2) | exact HI383.out))⟩; have n1_ : Aside0 (Below w.heap.size w wc) := ⟨by rw [← hq_]; exact (by repeat (first | (with_reducible first | exact HB.out | apply pbA_ | apply pbN_ | apply pb1_ | refine below_set ?_ (IsS61.ge HI383.out)) | exact HB.out))⟩; clear HI383 HB hq_; have HI383 := n0_; have HB := n1_; clear n0_ n1_))
        have n0_ := Aside0.mk (IsS61.drew HI383.out)
        have n1_ := Aside0.mk (pb1_ HB.out)
        clear HI383
        clear HB
        have HI383 := n0_
        have HB := n1_
        clear n0_ n1_
        obtain ⟨ASz86_0, cSz86_0, HGz86, hgz86, HSz86_0⟩ := HI383.out
        have hcz86_0 := cellS61_0 HGz86
        have hcz86_1 := cellS61_1 HGz86
        have hcz86_2 := cellS61_2 HGz86
        have hfz86_1 := blk_frozen HGz86 1
        have hfz86_2 := blk_frozen HGz86 2
        clear HGz86 hgz86
        refine start_ (n := 9) (S := fun w' => w'.cell? ⟨gb383, 0, none⟩ = some (.slice ASz86_0 l0.length cSz86_0) ∧ w'.cell? ⟨gb383, 1, none⟩ = some (.int .i64 t394) ∧ w'.cell? ⟨gb383, 2, none⟩ = some (.bool t395)) (ds := []) #[false, false, false, false, false, false, false, false, false] (by kernel_rfl) rfl rfl ⟨hcz86_0, hcz86_1, hcz86_2⟩ (fun hHeld => ?_); refine with_tabW dragnetref04_TakeBlock.tab8 dragnetref04_TakeBlock.bits8 (fun HT_ HW_ => ?_)
        generalize wc.drew = w85 at HI383 HB hHeld ⊢
        refine pure_ (i := 0) (N := some 48) (v := ?_) (a' := ?_) #[tT,fF,fF,fF,fF,fF,fF,fF,fF] rfl rfl (any_of HT_.out (by kernel_rfl)) (fun _ _ _ h => h) (Or.inl ⟨by rfl, ?_⟩) ?_ ?_
        rotate_left
        ·intro w'
         go_simp
         with_reducible rfl
        rotate_left
        ·simp only [Act.put, List.setIfInBounds_toArray, List.set_cons_zero, List.set_cons_succ, i64_w, i32_w]
         rfl
        refine pure_ (i := 1) (N := some 49) (v := ?_) (a' := ?_) #[tT,tT,fF,fF,fF,fF,fF,fF,fF] rfl rfl (any_of HT_.out (by kernel_rfl)) (fun _ _ _ h => h) (Or.inl ⟨by rfl, ?_⟩) ?_ ?_
        rotate_left
        ·intro w'
         go_simp
         with_reducible rfl
        rotate_left
        ·simp only [Act.put, List.setIfInBounds_toArray, List.set_cons_zero, List.set_cons_succ, i64_w, i32_w]
         rfl
        refine pure_ (i := 2) (N := some 50) (v := ?_) (a' := ?_) #[tT,tT,tT,fF,fF,fF,fF,fF,fF] rfl rfl (any_of HT_.out (by kernel_rfl)) (fun _ _ _ h => h) (Or.inl ⟨by rfl, ?_⟩) ?_ ?_
        rotate_left
        ·intro w'
         go_simp
         with_reducible rfl
        rotate_left
        ·simp only [Act.put, List.setIfInBounds_toArray, List.set_cons_zero, List.set_cons_succ, i64_w, i32_w]
         rfl
        refine pure_ (i := 4) (N := some 52) (v := ?_) (a' := ?_) #[tT,tT,tT,fF,tT,fF,fF,fF,fF] rfl rfl (any_of HT_.out (by kernel_rfl)) (fun _ _ _ h => h) (Or.inl ⟨by rfl, ?_⟩) ?_ ?_
        rotate_left
        ·intro w'
         go_simp
         with_reducible rfl
        rotate_left
        ·simp only [Act.put, List.setIfInBounds_toArray, List.set_cons_zero, List.set_cons_succ, i64_w, i32_w]
         rfl
        refine pure_ (i := 5) (N := some 53) (v := ?_) (a' := ?_) #[tT,tT,tT,fF,tT,tT,fF,fF,fF] rfl rfl (any_of HT_.out (by kernel_rfl)) (fun _ _ _ h => h) (Or.inl ⟨by rfl, ?_⟩) ?_ ?_
        rotate_left
        ·intro w'
         go_simp
         with_reducible rfl
        rotate_left
        ·simp only [Act.put, List.setIfInBounds_toArray, List.set_cons_zero, List.set_cons_succ, i64_w, i32_w]
         rfl
        refine take_ (i := 3) (N := some 51) (v := ?_) (a' := ?_) #[tT,tT,tT,tT,tT,tT,fF,fF,fF] rfl rfl (take_ofW HT_.out HW_.out (by kernel_rfl)) (fun _ _ _ h => h) (Or.inl ⟨by rfl, ?_⟩) hHeld ?_ ?_
        rotate_left
        ·rintro w' ⟨s0, s1, s2⟩
         go_simp
         with_reducible rfl
        rotate_left
        ·simp only [Act.put, List.setIfInBounds_toArray, List.set_cons_zero, List.set_cons_succ, i64_w, i32_w]
         rfl
        refine one_ (i := 6) (N := some 54) #[tT,tT,tT,tT,tT,tT,tT,fF,fF] rfl rfl (one_of HT_.out (by kernel_rfl)) (by decide) (fun K hK => ?_)
        refine goes_ Try.func39 (by kernel_rfl) rfl #[.int .i64 t384, .int .i64 t390] (by rfl) rfl rfl (by (try simp only [List.map_toArray, List.map_cons, List.map_nil]); first | done | rfl | (simp only [List.length_drop, List.length_take]; rfl)) ?_
        with_reducible refine (dragnetref03_Size.calls t384 t390 t397 _ A22.out).mono ?_
        rintro e w' ⟨rfl, ⟨nd, rfl⟩⟩
        refine ⟨_, rfl, ?_⟩
        refine hK.out _ _ ⟨hHeld.1, hHeld.2.1, hHeld.2.2⟩ (fun hHeld => ?_)
        clear hK K
        refine norm_ (a' := ?_) ?_ ?_
        rotate_left
        ·show Act.put _ (some 54) _ = _
         simp only [Act.put, List.setIfInBounds_toArray, List.set_cons_zero, List.set_cons_succ, i64_w, i32_w]
         rfl
        refine pure_ (i := 7) (N := some 55) (v := ?_) (a' := ?_) #[tT,tT,tT,tT,tT,tT,tT,tT,fF] rfl rfl (any_of HT_.out (by kernel_rfl)) (fun _ _ _ h => h) (Or.inl ⟨by rfl, ?_⟩) ?_ ?_
        rotate_left
        ·intro w'
         go_simp
         with_reducible rfl
        rotate_left
        ·simp only [Act.put, List.setIfInBounds_toArray, List.set_cons_zero, List.set_cons_succ, i64_w, i32_w]
         rfl
        refine pure_ (i := 8) (N := some 10) (v := ?_) (a' := ?_) #[tT,tT,tT,tT,tT,tT,tT,tT,tT] rfl rfl (any_of HT_.out (by kernel_rfl)) (fun _ _ _ h => h) (Or.inl ⟨by rfl, ?_⟩) ?_ ?_
        rotate_left
        ·intro w'
         go_simp
         with_reducible rfl
        rotate_left
        ·simp only [Act.put, List.setIfInBounds_toArray, List.set_cons_zero, List.set_cons_succ, i64_w, i32_w]
         rfl
        refine done_ (done_of HT_.out (by kernel_rfl)) ?_
        obtain ⟨i087, hi087, _, hsz87, _⟩ := info_parts info5
        obtain ⟨A87, hcut87, hA87, hC87⟩ := print_mid_of (P := Try.prog) (Value.int .u8) 0 22 5 .i64 .i64 Try.underlying22 hi087 hsz87 A0 c0 l0 t394 (wrap64 (t394 + t397)) (of_decide_eq_true (by first | (with_reducible assumption) | assumption)) (by first | omega | exact of_decide_eq_true (by first | (with_reducible assumption) | assumption)) (of_decide_eq_true (by first | (with_reducible assumption) | assumption)) HC0.out
        have HR398 := Aside0.mk (Kd.C_of_reads (h1 := fun _ => rfl) (hA87 _ (Kd.reads_of_C HR0.out)))
        have HC398 := Aside0.mk hC87
        clear hA87 hC87 hi087 hsz87
        try go_wp2_with (first | ((with_reducible refine gaC_ (f := 40) rfl ?_); refine goesL_ (some 66) rfl rfl Try.func40 (by kernel_rfl) rfl #[.slice A87 ((l0.take ((wrap64 (t394 + t397)) : Int).toNat).drop (t394 : Int).toNat).length (c0 - t394.toNat), .int .i64 t384, .int .i64 t390] rfl (by (try simp only [List.map_toArray, List.map_cons, List.map_nil]); first | done | (rw [show ((l0.take ((wrap64 (t394 + t397)) : Int).toNat).drop (t394 : Int).toNat).length = ((wrap64 (t394 + t397)).toNat - t394.toNat) from (by rw [List.length_drop, List.length_take]; have h_ : ((wrap64 (t394 + t397)) : Int) ≤ (l0.length : Int) := of_decide_eq_true (by first | (with_reducible assumption) | assumption); omega)] <;> rfl) | rfl | (simp only [List.length_drop, List.length_take]; rfl)) ?_; (with_reducible refine (dragnetref03_Unpack.calls kj5 _ _ ((l0.take ((wrap64 (t394 + t397)) : Int).toNat).drop (t394 : Int).toNat) t384 t390 t399 t400 _ ?side1 ?side2 A26.out).mono ?_); (case side1 => repeat (first | exact (Kd.C_below HR398.out (by repeat (first | (with_reducible first | exact HB.out | apply pbA_ | apply pbN_ | apply pb1_ | refine below_set ?_ (IsS61.ge HI383.out)) | exact HB.out))) | (with_reducible refine Kd.cA_ ?_ _) | (with_reducible refine Kd.cN_ ?_ _) | (with_reducible refine Kd.cD_ ?_))); (case side2 => exact HC398.out); rintro e w88 ⟨v401, rfl, ho0, hb⟩; refine ⟨_, rfl, ?_⟩; have n0_ := Aside0.mk (Kd.R_lower ho0 (pbS_ (by repeat (first | (with_reducible first | exact HB.out | apply pbA_ | apply pbN_ | apply pb1_ | refine below_set ?_ (IsS61.ge HI383.out)) | exact HB.out)))); have n1_ := Aside0.mk (IsS61.below (by repeat (first | (with_reducible first | exact HI383.out | apply IsS61.alloc | apply IsS61.drewN | apply IsS61.drew | apply IsS61.set_1 | apply IsS61.set_2) | exact HI383.out)) hb); have n2_ := Aside0.mk (below_step (by repeat (first | (with_reducible first | exact HB.out | apply pbA_ | apply pbN_ | apply pb1_ | refine below_set ?_ (IsS61.ge HI383.out)) | exact HB.out)) hb); clear HI383; clear HB; have HO402 := n0_; have HI383 := n1_; have HB := n2_; clear n0_ n1_ n2_; (try clear hb); (try clear hb2); (try clear hk); (try clear hi); (try clear ho0)))
        go_ret3
        exact ⟨_, by first | rfl | (simp [eWn_, eWs_] <;> rfl) | (simp [*, eWn_, eWs_] <;> rfl), by first | exact Kd.R_nil _ _ _ _ _ | exact Kd.N_nil _ _ _ _ _ | exact Kd.V_nil _ _ _ _ _ | exact Kd.Q_nil _ _ _ _ _ | exact Kd.S_nil _ _ _ _ _, by repeat (first | (with_reducible first | exact HB.out | apply pbA_ | apply pbN_ | apply pb1_ | refine below_set ?_ (IsS61.ge HI383.out)) | exact HB.out)⟩
      ·rw [if_neg c25] at H
       exact absurd H (by simp)
     ·rw [if_neg c24] at H
      exact absurd H (by simp)
    ·rw [if_neg c23] at H
     exact absurd H (by simp)
end Go.Proofs.Ytkcjjennlhgmhaa.P
end
section
namespace Go.Proofs.Ytkcjjennlhgmhaa.P
open Go.RowKit Go.Proofs.YtkcjjennlhgmhaaW.PrintWords Go.Proofs.YtkcjjennlhgmhaaW.PrintLast Go.Proofs.YtkcjjennlhgmhaaW.PrintMore
attribute [local go_sem] max2_int min2_int max_two min_two max_three min_three max_four min_four
set_option linter.unusedVariables false
set_option linter.unusedSimpArgs false
section
attribute [local go_sem] Oper.semAt_some
set_option maxHeartbeats 1000000 in
theorem chunk_in (n : Nat) (A : Option Addr) (len cap : Nat) (w : World) :
  CallsIn Fence.wide n Try.prog 43 #[.slice A len cap, .int .i64 32] w fun e w' => e = .returned (.func (.func 56) #[] #[.pointer (some ⟨w.heap.size, 0, none⟩), .pointer (some ⟨w.heap.size + 1, 0, none⟩)]) ∧ w' = (w.alloc (.cells #[.slice A len cap] 23)).alloc (.cells #[.int .i64 32] 3) := by
 refine callsIn_of_wp Try.func43 rfl trivial ?_ rfl
 simp only [Try.ntmps43, List.size_toArray, List.length_cons, List.length_nil, Nat.reduceAdd, Nat.reduceSub, Array.replicate_succ, Array.replicate_zero, List.push_toArray, List.append_toArray, List.nil_append, List.cons_append]
 gi_wp2
 go_ret
 exact ⟨rfl, rfl⟩
abbrev ChunkNo (len : Nat) := { j : Nat // 32 * j < len }
theorem chunk_cut (a : Addr) (len cap s m : Nat) (hm : 0 < m) (hj : s + m ≤ len) (hc : len ≤ cap) (W : World) :
  (Instr.slice 23 (.slice (some a) len cap) (some (.int .i64 (s : Int))) (some (.int .i64 ((s : Int) + (m : Int)))) (some (.int .i64 ((s : Int) + (m : Int))))).run Try.prog W = .ok (.slice (some (a.add s)) m m) W := by
 obtain ⟨i0, hi0, _, hsz, _⟩ := info_parts info50
 have hel : Try.prog.elem 23 = 50 := by simp [Program.elem, Try.underlying23]
 have hu : Try.prog.underlying 23 = some (.slice (Try.prog.elem 23)) := by rw [hel]; exact Try.underlying23
 rw [run_slice_lhm W 23 (some a) len cap hu .i64 .i64 .i64 _ _ _ (by omega) (by omega) (by omega) (by omega), hel, ← Int.natCast_add, Int.toNat_natCast, Int.toNat_natCast]
 simp [sizeOf, typeInfo, hi0, hsz, sliced, Result.andThen]
 omega
theorem chunk_tail (a : Addr) (len cap s : Nat) (hj : s < len) (hc : len ≤ cap) (W : World) :
  (Instr.slice 23 (.slice (some a) len cap) (some (.int .i64 (s : Int))) none none).run Try.prog W = .ok (.slice (some (a.add s)) (len - s) (cap - s)) W := by
 obtain ⟨i0, hi0, _, hsz, _⟩ := info_parts info50
 have hel : Try.prog.elem 23 = 50 := by simp [Program.elem, Try.underlying23]
 have hu : Try.prog.underlying 23 = some (.slice (Try.prog.elem 23)) := by rw [hel]; exact Try.underlying23
 rw [run_slice_l W 23 (some a) len cap hu .i64 _ (by omega) (by omega), hel, Int.toNat_natCast]
 simp [sizeOf, typeInfo, hi0, hsz, sliced, Result.andThen]
 omega
theorem grown_drewN (W : World) (n : Nat) : W.grownBy (W.drewN n) none := ⟨rfl, rfl, rfl, Nat.le_refl _, fun k _ _ => rfl⟩
def KpC (n₀ Bs Bn : Nat) (W W' : World) : Prop := Below n₀ W W' ∧ W'.heap[Bs]? = W.heap[Bs]? ∧ W'.heap[Bn]? = W.heap[Bn]?
theorem KpC.trans {n₀ Bs Bn : Nat} {A B C : World} (h : KpC n₀ Bs Bn A B) (k : KpC n₀ Bs Bn B C) : KpC n₀ Bs Bn A C := ⟨h.1.trans k.1, k.2.1.trans h.2.1, k.2.2.trans h.2.2⟩
theorem KpC.refl (n₀ Bs Bn : Nat) (W : World) : KpC n₀ Bs Bn W W := ⟨Below.refl _ _, rfl, rfl⟩
theorem KpC.drewN {n₀ Bs Bn : Nat} {A B : World} (h : KpC n₀ Bs Bn A B) (n : Nat) : KpC n₀ Bs Bn A (B.drewN n) := ⟨pbN_ h.1 n, h.2.1, h.2.2⟩
theorem KpC.cell1 {n₀ Bs Bn : Nat} {A B : World} (h : KpC n₀ Bs Bn A B) {v : Value} (hc : A.cell? ⟨Bs, 0, none⟩ = some v) : B.cell? ⟨Bs, 0, none⟩ = some v := by
 unfold World.cell? at hc ⊢
 simp only [h.2.1]
 exact hc
theorem KpC.cell2 {n₀ Bs Bn : Nat} {A B : World} (h : KpC n₀ Bs Bn A B) {v : Value} (hc : A.cell? ⟨Bn, 0, none⟩ = some v) : B.cell? ⟨Bn, 0, none⟩ = some v := by
 unfold World.cell? at hc ⊢
 simp only [h.2.2]
 exact hc
theorem kpC_b {n₀ Bs Bn : Nat} {w : World} (hn : n₀ ≤ w.heap.size) (h1 : Bs < w.heap.size) (h2 : Bn < w.heap.size) (W : World) (l : Nat) (o o' : Obj) (hl : w.heap.size ≤ l) (h : W.heap[l]? = some o) (hc : o.isCells = false) (hw : o.isWalk = false) : KpC n₀ Bs Bn W (W.putObj l o') :=
 ⟨belowK_b hn W l o o' hl h hc hw, World.putObj_heap_other (by omega), World.putObj_heap_other (by omega)⟩
def encChunk (a : Option Addr) (len : Nat) (x : ChunkNo len) : Array Value := #[.slice (a.map (·.add (32 * x.1))) (min 32 (len - 32 * x.1)) (min 32 (len - 32 * x.1))]
set_option maxRecDepth 100000 in
set_option maxHeartbeats 2000000 in
theorem chunk1_in (l Bs Bn n₀ : Nat) (a : Addr) (len cap : Nat) (hc : len ≤ cap) (hreach : len ≤ 140737488351232) (J Jx : List (ChunkNo len) → World → Prop)
  (hY : ∀ pre x W, J pre W → pre.length < len → YieldAt Fence.wide 7 Try.prog l (encChunk (some a) len x) W fun e W' =>
   (e = .returned (.bool true) ∧ J (pre ++ [x]) W' ∧ KpC n₀ Bs Bn W W') ∨ (e = .returned (.bool false) ∧ Jx (pre ++ [x]) W'))
  (B : Nat) (hA : AbidesFrom B J) (W : World) (hBs : W.cell? ⟨Bs, 0, none⟩ = some (.slice (some a) len cap)) (hBn : W.cell? ⟨Bn, 0, none⟩ = some (.int .i64 32)) (h0 : J [] W) :
  CallsIn Fence.wide 8 Try.prog 56 #[.func (.yield l) #[] #[], .pointer (some ⟨Bs, 0, none⟩), .pointer (some ⟨Bn, 0, none⟩)] W fun e W' => (∃ v, e = .returned v) ∧
   ((∃ ys : List (ChunkNo len), ys.map (·.1) = List.range ((len + 31) / 32) ∧ J ys W') ∨ (∃ pre, True ∧ Jx pre W')) := by
 refine callsIn_of_wp Try.func56 rfl trivial ?_ rfl
 simp only [Try.ntmps56, List.size_toArray, List.length_cons, List.length_nil, Nat.reduceAdd, Nat.reduceSub, Array.replicate_succ, Array.replicate_zero, List.push_toArray, List.append_toArray, List.nil_append, List.cons_append]
 gi_wp2
 gi_loopw [4] (fun i wr => ∃ (k s : Nat) (pre : List (ChunkNo len)), Aside0 (s = 32 * k) ∧ k ≤ (len + 31) / 32 ∧ i = .int .i64 (s : Int) ∧ pre.map (·.1) = List.range k ∧ J pre wr ∧ KpC n₀ Bs Bn W wr)
  (fun i _ => len + 32 - (intOf i).toNat)
 case atStart => exact ⟨0, 0, [], ⟨rfl⟩, Nat.zero_le _, rfl, rfl, h0, KpC.refl _ _ _ _⟩
 case round =>
  obtain ⟨k, s, pre, hs, hk, rfl, hpre, hJs, hnx⟩ := hrel
  have hcs : wr.cell? ⟨Bs, 0, none⟩ = some (.slice (some a) len cap) := hnx.cell1 hBs
  have hcn : wr.cell? ⟨Bn, 0, none⟩ = some (.int .i64 32) := hnx.cell2 hBn
  by_cases hlt : s < len
  ·have hlt' : 32 * k < len := by have := hs.out; omega
   obtain ⟨m, hm⟩ : ∃ m : Nat, Aside0 (m = min 32 (len - s)) := ⟨_, ⟨rfl⟩⟩
   have hpl : Aside0 (pre.length = k) := ⟨by have := congrArg List.length hpre; simpa using this⟩
   have hPre := Aside0.mk hpre
   clear hpre
   have hcut := chunk_cut a len cap s m (by have := hm.out; omega) (by have := hm.out; omega) hc
   obtain ⟨q, hq⟩ : ∃ q : Nat, Aside0 (q = len - s) := ⟨_, ⟨rfl⟩⟩
   have htail := chunk_tail a len cap s hlt hc
   rw [← hq.out] at htail
   have hm0 : 0 < m := by have := hm.out; omega
   have hm1 : s + m ≤ len := by have := hm.out; omega
   have hmn : min 32 (q : Int) = (m : Int) := by have := hm.out; have := hq.out; omega
   have hmi : (if (q : Int) < 32 then (q : Int) else 32) = (m : Int) := by have := hm.out; have := hq.out; split <;> omega
   gi_wp2
   gi_quiet (fail)
   have hJ2 : J pre (wr.drewN nq) := hA pre wr _ none hJs (grown_drewN wr nq) (fun r e => by cases e)
   obtain ⟨fn, tmps, assign, body, hy, hR⟩ := hY pre ⟨k, hlt'⟩ (wr.drewN nq) hJ2 (by have := hpl.out; omega)
   have hy2 : (Instr.yield l #[.slice (some (a.add s)) m m]).run Try.prog (wr.drewN nq) = .ok (.round l fn tmps assign body) (wr.drewN nq) := by
    have e1 := hs.out
    have e2 := hm.out
    rw [e1] at e2
    rw [e1, e2]
    exact hy
   clear hy
   gi_wp2
   refine hR.mono ?_
   rintro e W3 (⟨rfl, hJ3, hk3⟩ | ⟨rfl, hJx3⟩)
   ·have hnx3 : KpC n₀ Bs Bn W W3 := (hnx.drewN nq).trans hk3
    have hcn3 : W3.cell? ⟨Bn, 0, none⟩ = some (.int .i64 32) := hnx3.cell2 hBn
    gi_wp2
    go_roundw
    case rel => exact ⟨k + 1, s + 32, pre ++ [⟨k, hlt'⟩], ⟨by have := hs.out; omega⟩, by omega, by simp, by rw [List.map_append, hPre.out, List.range_succ]; rfl, hJ3, hnx3⟩
    case measure => simp [intOf]; omega
   ·gi_wp2
    refine bodyPost_ret (results_none rfl _ _ _) rfl ?_
    exact ⟨⟨_, rfl⟩, .inr ⟨_, trivial, hJx3⟩⟩
  ·gi_wp2
   go_end0
   refine ⟨⟨_, rfl⟩, .inl ⟨pre, ?_, hJs⟩⟩
   rw [hpre, show k = (len + 31) / 32 by have := hs.out; omega]
set_option maxRecDepth 100000 in
set_option maxHeartbeats 1000000 in
theorem chunk1_nil_in (l Bs Bn cap : Nat) {α : Type} (J : List α → World → Prop) (W : World) (hBs : W.cell? ⟨Bs, 0, none⟩ = some (.slice none 0 cap)) (h0 : J [] W) :
  CallsIn Fence.wide 8 Try.prog 56 #[.func (.yield l) #[] #[], .pointer (some ⟨Bs, 0, none⟩), .pointer (some ⟨Bn, 0, none⟩)] W fun e W' => (∃ v, e = .returned v) ∧ J [] W' := by
 refine callsIn_of_wp Try.func56 rfl trivial ?_ rfl
 simp only [Try.ntmps56, List.size_toArray, List.length_cons, List.length_nil, Nat.reduceAdd, Nat.reduceSub, Array.replicate_succ, Array.replicate_zero, List.push_toArray, List.append_toArray, List.nil_append, List.cons_append]
 gi_wp2
 gi_loopw [4] (fun i wr => i = .int .i64 0 ∧ wr.cell? ⟨Bs, 0, none⟩ = some (.slice none 0 cap) ∧ J [] wr) (fun _ _ => 0)
 case atStart => exact ⟨rfl, hBs, h0⟩
 case round =>
  obtain ⟨rfl, hc, hJs⟩ := hrel
  gi_wp2
  go_end0
  exact ⟨⟨_, rfl⟩, hJs⟩
theorem chunk_stops (Bs Bn n₀ : Nat) (a : Option Addr) (len cap : Nat) (ha : a = none → len = 0) (hc : len ≤ cap) (hreach : len ≤ 140737488351232) (w : World) (hB : Bs < w.heap.size) (hB2 : Bn < w.heap.size)
  (hBs : w.cell? ⟨Bs, 0, none⟩ = some (.slice a len cap)) (hBn : w.cell? ⟨Bn, 0, none⟩ = some (.int .i64 32)) :
  SeqStopsK Fence.wide 8 Try.prog 56 #[.pointer (some ⟨Bs, 0, none⟩), .pointer (some ⟨Bn, 0, none⟩)] (encChunk a len) (KpC n₀ Bs Bn) (fun ys => ys.map (·.1) = List.range ((len + 31) / 32)) (fun _ => True) len w := fun l J Jx W hW hJ _ hY h0 => by
 have h1 := (hW.cell (p := ⟨Bs, 0, none⟩) hB).trans hBs
 cases a with
 | none =>
  obtain rfl := ha rfl
  exact (chunk1_nil_in l Bs Bn cap J W h1 h0).mono fun e W' ⟨he, hj⟩ => ⟨he, .inl ⟨[], rfl, hj⟩⟩
 | some a => exact chunk1_in l Bs Bn n₀ a len cap hc hreach J Jx hY W.heap.size hJ W h1 ((hW.cell (p := ⟨Bn, 0, none⟩) hB2).trans hBn) h0
noncomputable def pfor_PutList.l0 : Nat → List Int → List Int → Option (List Int)
 | 0, _, _ => none
 | k + 1, out, rest => if rest.length = 0 then some out else (pfor_PutBlock.f k out (rest.take 32)).bind fun bt => pfor_PutList.l0 k bt.1 (rest.drop 32)
def pfor_PutList.Ok (l0 l1 : List Int) : Prop := (∀ x ∈ l0, 0 ≤ x ∧ x ≤ 255) ∧ l0.length + 1000 * l1.length ≤ 140737488350000 ∧ ∀ acc : List Int, (∀ x ∈ acc, 0 ≤ x ∧ x ≤ 255) → acc.length ≤ l0.length + 1000 + 1000 * l1.length → ∀ j, 32 * j < l1.length →
 ∃ k y, pfor_PutBlock.f k acc ((l1.drop (32 * j)).take 32) = some y ∧ (∀ x ∈ y.1, 0 ≤ x ∧ x ≤ 255) ∧ y.1.length ≤ acc.length + 1000
noncomputable def pfor_PutList.f (k : Nat) (l0 l1 : List Int) : Option (List Int) :=
 @ite _ (pfor_PutList.Ok l0 l1) (Classical.propDecidable _) ((num_Put.f k l0 (l1.length : Int)).bind fun t => if (∀ x ∈ t, 0 ≤ x ∧ x ≤ 255) ∧ t.length ≤ l0.length + 1000 then pfor_PutList.l0 k t l1 else none) none
theorem pfor_PutList.mono_l : ∀ k a0 a1, LeO (pfor_PutList.l0 k a0 a1) (pfor_PutList.l0 (k + 1) a0 a1)
 | 0, _, _ => LeO.none _
 | k + 1, a0, a1 => by
  rw [pfor_PutList.l0, pfor_PutList.l0]
  exact LeO.ite (LeO.refl _) (LeO.bind (pfor_PutBlock.mono _ _ _) (fun _ => pfor_PutList.mono_l k _ _))
theorem pfor_PutList.mono : ∀ a0 a1 k, LeO (pfor_PutList.f k a0 a1) (pfor_PutList.f (k + 1) a0 a1) := by
 intro a0 a1 k
 unfold pfor_PutList.f
 by_cases h : pfor_PutList.Ok a0 a1
 ·rw [if_pos h, if_pos h]
  exact LeO.bind (num_Put.mono _ _ _) (fun _ => LeO.ite (pfor_PutList.mono_l k _ _) (LeO.none _))
 ·rw [if_neg h]
  exact LeO.none _
theorem keeps_below {W W' : World} (h : Below W.heap.size W W') : KeepsOthers W W' := ⟨h.size, fun k o hk _ => (h.block k (Array.getElem?_eq_some_iff.1 hk).1).trans hk⟩
def pfor_PutList.Held (w : World) (l0 l1 : List Int) (k : Nat) (r : List Int) (B : Nat) (pre : List (ChunkNo l1.length)) (W : World) : Prop :=
 (∃ (acc : List Int) (v : Value), Aside0 ((∀ x ∈ acc, 0 ≤ x ∧ x ≤ 255) ∧ acc.length ≤ l0.length + 1000 + 1000 * pre.length ∧ (pre.map (·.1) = List.range pre.length → ∃ kq, pfor_PutList.l0 kq acc (l1.drop (32 * pre.length)) = some r)) ∧ Boxed W B 22 v ∧ Kd.R (Kd.int .u8) 5 W w.heap.size (fun _ => True) v acc ∧ B + 3 ≤ W.heap.size) ∧ Below w.heap.size w W
theorem pfor_PutList.held_own (w : World) (l0 l1 : List Int) (k : Nat) (r : List Int) (B : Nat) (B0 : Nat) (h : w.heap.size ≤ B0) : OwnFrom B0 (pfor_PutList.Held w l0 l1 k r B) := by
 refine OwnFrom.and (Own.from ?_ _) (ownFrom_below (Nat.le_refl _) h)
 rintro s X Y row ⟨acc, v, hp, hv, hR, hz⟩ hg hrow
 obtain ⟨v', hv', hr', rfl⟩ := holdsRow_own (β := Unit) w.heap.size B 22 5 1 (fun _ => acc.length) (fun _ => encs (Value.int .u8) acc) (fun _ u => u = v) () X Y row ⟨v, hv, Kd.own_of_R hR, rfl⟩ hg hrow
 exact ⟨acc, _, hp, hv', Kd.R_of_own hr' (fun _ _ => trivial), Nat.le_trans hz hg.size⟩
theorem pfor_PutList.step {l1 acc : List Int} {r y : List Int} {pl : Nat} (hl : 32 * pl < l1.length) (h : ∃ kq, pfor_PutList.l0 kq acc (l1.drop (32 * pl)) = some r) {k' : Nat} {e : Int} (hy : pfor_PutBlock.f k' acc ((l1.drop (32 * pl)).take 32) = some (y, e)) :
  ∃ kq, pfor_PutList.l0 kq y (l1.drop (32 * (pl + 1))) = some r := by
 obtain ⟨kq, h⟩ := h
 cases kq with
 | zero => cases h
 | succ kq =>
  rw [pfor_PutList.l0, if_neg (by rw [List.length_drop]; omega)] at h
  obtain ⟨bt, h1, h2⟩ := Option.bind_eq_some_iff.1 h
  have e1 : bt = (y, e) := by
   have a1 : ∀ n, pfor_PutBlock.f (kq + n) acc ((l1.drop (32 * pl)).take 32) = some bt := by
    intro n
    induction n with
    | zero => exact h1
    | succ n ih => exact pfor_PutBlock.mono _ _ _ _ ih
   have a2 : ∀ n, pfor_PutBlock.f (k' + n) acc ((l1.drop (32 * pl)).take 32) = some (y, e) := by
    intro n
    induction n with
    | zero => exact hy
    | succ n ih => exact pfor_PutBlock.mono _ _ _ _ ih
   have := (a1 k').symm.trans ((Nat.add_comm kq k') ▸ a2 kq)
   exact Option.some.inj this
  subst e1
  refine ⟨kq, ?_⟩
  rw [List.drop_drop] at h2
  exact h2
theorem pfor_PutList.last {l1 acc : List Int} {r : List Int} {pl : Nat} (hl : l1.length ≤ 32 * pl) (h : ∃ kq, pfor_PutList.l0 kq acc (l1.drop (32 * pl)) = some r) : acc = r := by
 obtain ⟨kq, h⟩ := h
 cases kq with
 | zero => cases h
 | succ kq =>
  rw [pfor_PutList.l0, if_pos (by rw [List.length_drop]; omega)] at h
  exact Option.some.inj h
theorem chunk_reads {W : World} {a : Option Addr} {c1 : Nat} {l1 : List Int} (h : Kd.C (Kd.int .u64) W a l1.length l1) (hc : l1.length ≤ c1) (j : Nat) (hj : 32 * j < l1.length) : Kd.C (Kd.int .u64) W (a.map (·.add (32 * j))) ((l1.drop (32 * j)).take 32).length ((l1.drop (32 * j)).take 32) := by
 have h1 := Kd.C_drop (c := c1) h (show 32 * j ≤ l1.length by omega) hc
 rw [if_neg (by omega), show (Kd.int .u64).sz = 1 from rfl, Nat.mul_one] at h1
 by_cases h2 : 32 ≤ (l1.drop (32 * j)).length
 ·exact Kd.C_take h1 h2
 ·rw [List.take_of_length_le (by omega)]
  exact h1
theorem range_snoc {l : List Nat} {x : Nat} (h : l ++ [x] = List.range (l.length + 1)) : l = List.range l.length ∧ x = l.length := by
 rw [List.range_succ] at h
 have := List.append_inj h (by simp)
 exact ⟨this.1, (List.cons.inj this.2).1⟩
set_option maxRecDepth 100000 in
set_option maxHeartbeats 4000000 in
theorem pfor_PutList.calls (k : Nat) (A0 : Option Addr) (c0 : Nat) (l0 : List Int) (A1 : Option Addr) (c1 : Nat) (l1 : List Int) (r : List Int) (w : World) (hr0 : Kd.C (Kd.int .u8) w A0 l0.length l0) (hc0 : l0.length ≤ c0) (hr1 : Kd.C (Kd.int .u64) w A1 l1.length l1) (hc1 : l1.length ≤ c1) (h : pfor_PutList.f k l0 l1 = some r) :
  Calls Try.prog 19 #[.slice A0 l0.length c0, .slice A1 l1.length c1] w fun e w' => ∃ v0_ : Value, e = .returned (v0_) ∧ Kd.R (Kd.int .u8) 5 w' w.heap.size (fun _ => True) v0_ r ∧ Below w.heap.size w w' := by
 by_cases hok : pfor_PutList.Ok l0 l1
 case neg => unfold pfor_PutList.f at h; rw [if_neg hok] at h; cases h
 unfold pfor_PutList.f at h
 rw [if_pos hok] at h
 obtain ⟨t, ht, h⟩ := Option.bind_eq_some_iff.1 h
 by_cases hb8 : (∀ x ∈ t, 0 ≤ x ∧ x ≤ 255) ∧ t.length ≤ l0.length + 1000
 case neg => rw [if_neg hb8] at h; cases h
 rw [if_pos hb8] at h
 have HT := Aside0.mk ht
 have HH := Aside0.mk h
 have HB8 := Aside0.mk hb8
 have HOK := Aside0.mk hok
 have HR0 := Aside0.mk hr0
 have HR1 := Aside0.mk hr1
 have hln : l1.length ≤ 140737488350 := by have := hok.2.1; omega
 have hnone : A1 = none → l1.length = 0 := by
  rintro rfl
  rcases Nat.eq_zero_or_pos l1.length with h_ | h_
  ·exact h_
  ·obtain ⟨ad, e, _⟩ := hr1.2.2 h_
   cases e
 clear ht h hb8 hok hr0 hr1
 refine (callsIn_wide (n := 9)).1 ?_
 refine callsIn_of_wp_marks Try.func19 rfl trivial ?_ rfl
 simp only [Try.ntmps19, List.size_toArray, List.length_cons, List.length_nil, Nat.reduceAdd, Nat.reduceSub, Array.replicate_succ, Array.replicate_zero, List.push_toArray, List.append_toArray, List.nil_append, List.cons_append]
 gi_wp2_with (first | (refine ⟨trivial, ?_⟩; gi_at_call 31; (with_reducible refine (callsIn_wide.2 (num_Put.calls k A0 c0 l0 (l1.length : Int) t w HR0.out hc0 HT.out)).mono ?_); rintro e w1 ⟨v0, rfl, hR, hB⟩; obtain ⟨At, ct, rfl⟩ := Kd.R_slice hR; have HRt := Aside0.mk hR; have HBt := Aside0.mk hB; clear hR hB) | (refine ⟨trivial, ?_⟩; gi_at_call 43; (with_reducible refine (chunk_in _ A1 l1.length c1 _).mono ?_); rintro e w2 ⟨rfl, rfl⟩) | fail)
 obtain ⟨n1, hn1⟩ : ∃ n1 : Nat, Aside0 (n1 = w1.heap.size) := ⟨_, ⟨rfl⟩⟩
 have hsz : w.heap.size ≤ n1 := by rw [hn1.out]; exact HBt.out.size
 obtain ⟨W0, hW0⟩ : ∃ W0, Aside0 (W0 = ((w1.alloc (Obj.cells #[Value.slice At t.length ct] 22)).alloc (Obj.cells #[Value.slice A1 l1.length c1] 23)).alloc (Obj.cells #[Value.int IntKind.i64 32] 3)) := ⟨_, ⟨rfl⟩⟩
 have hW0s : W0.heap.size = n1 + 3 := by rw [hW0.out, hn1.out]; simp
 have hBel : Below w.heap.size w W0 := by rw [hW0.out]; exact pbA_ (pbA_ (pbA_ HBt.out _) _) _
 have hb0 : Boxed W0 n1 22 (.slice At t.length ct) := by rw [hW0.out, hn1.out]; exact ((Boxed.new w1 22 _).alloc _).alloc _
 have hR0 : Kd.R (Kd.int .u8) 5 W0 w.heap.size (fun _ => True) (.slice At t.length ct) t := by rw [hW0.out]; exact Kd.rA_ (Kd.rA_ (Kd.rA_ HRt.out _) _) _
 have hc1' : W0.cell? ⟨n1 + 1, 0, none⟩ = some (.slice A1 l1.length c1) := by
  have h_ := ((Boxed.new (w1.alloc (Obj.cells #[Value.slice At t.length ct] 22)) 23 (.slice A1 l1.length c1)).alloc (Obj.cells #[Value.int IntKind.i64 32] 3)).cell
  rw [World.size_alloc] at h_
  rw [hW0.out, hn1.out]
  exact h_
 have hc2' : W0.cell? ⟨n1 + 2, 0, none⟩ = some (.int .i64 32) := by
  have h_ := (Boxed.new ((w1.alloc (Obj.cells #[Value.slice At t.length ct] 22)).alloc (Obj.cells #[Value.slice A1 l1.length c1] 23)) 3 (.int .i64 32)).cell
  rw [World.size_alloc, World.size_alloc] at h_
  rw [hW0.out, hn1.out]
  exact h_
 rw [← hW0.out, ← hn1.out]
 refine wpIn_rangeFunc_ownF (F := Fence.wide) rfl (by decide) (gf := 56) (lb := #[.pointer (some ⟨n1 + 1, 0, none⟩), .pointer (some ⟨n1 + 2, 0, none⟩)]) rfl trivial (enters_of Try.func56 (by kernel_rfl) rfl)
  (chunk_stops (n1 + 1) (n1 + 2) w.heap.size A1 l1.length c1 hnone hc1 (by omega) W0 (by omega) (by omega) hc1' hc2') (fun h k => KpC.trans h k) (kpC_b (by omega) (by omega) (by omega)) (Below.refl _ _) (fun _ => rfl)
  (pfor_PutList.Held w l0 l1 k r n1) (fun _ _ _ => False) (pfor_PutList.held_own w l0 l1 k r n1 W0.heap.size (by omega)) (fun _ _ _ _ _ hs _ _ => hs)
  ⟨⟨t, _, ⟨HB8.out.1, by have := HB8.out.2; simp; omega, fun _ => ⟨k, HH.out⟩⟩, hb0, hR0, by omega⟩, hBel⟩
  (fun x => { tmps := #[Value.slice A0 l0.length c0, Value.slice A1 l1.length c1, undef, undef, Value.slice none 0 0,
     Value.pointer (some { block := n1, off := 0 }), .slice (A1.map (·.add (32 * x.1))) (min 32 (l1.length - 32 * x.1)) (min 32 (l1.length - 32 * x.1)), Value.slice A0 l0.length c0,
     Value.slice A1 l1.length c1, Value.int IntKind.i64 ↑l1.length, Value.int IntKind.u64 ↑l1.length,
     Value.slice At t.length ct, Value.slice A1 l1.length c1,
     Value.func (Fn.func 56) #[] #[Value.pointer (some { block := n1 + 1, off := 0 }), Value.pointer (some { block := n1 + 2, off := 0 })],
     .slice (A1.map (·.add (32 * x.1))) (min 32 (l1.length - 32 * x.1)) (min 32 (l1.length - 32 * x.1)), undef, undef, undef, undef, undef, undef, undef], defers := [] }) ?assign ?body ?done ?stop
 case assign =>
  intro l x W K hK
  dsimp only [encChunk]
  gi_wp2
  exact hK
 case stop =>
  intro D c pre W _ _ h _
  exact h.elim
 case body =>
  rintro l pre x W ⟨⟨acc, v, hp, hv, hR, hz⟩, hB⟩ hlen
  obtain ⟨A, c, rfl⟩ := Kd.R_slice hR
  obtain ⟨-, hcap, hC⟩ := Kd.R_reads' hR
  obtain ⟨k', y, hy, hy8, hyl⟩ := HOK.out.2.2 acc hp.out.1 (by have := hp.out.2.1; omega) x.1 x.2
  have hch := chunk_reads (Kd.C_below HR1.out hB) hc1 x.1 x.2
  have hcl : ((l1.drop (32 * x.1)).take 32).length = min 32 (l1.length - 32 * x.1) := by simp
  have hcall := pfor_PutBlock.calls k' A c acc (A1.map (·.add (32 * x.1))) ((l1.drop (32 * x.1)).take 32).length ((l1.drop (32 * x.1)).take 32) y.1 y.2 W hC hcap hch (Nat.le_refl _) hy
  rw [hcl] at hcall
  have HCl := Aside0.mk hcl
  have HY := Aside0.mk hy
  have HC_ := Aside0.mk hC
  have HCh := Aside0.mk hch
  have HRa := Aside0.mk hR
  have HBa := Aside0.mk hB
  have HCall := Aside0.mk hcall
  clear hcl hy hC hch hR hB hcall
  have hcv := hv.cell
  gi_wp2_with (first | (refine ⟨trivial, ?_⟩; gi_at_call 12; (with_reducible refine (CallsIn.inRound l (callsIn_wide.2 HCall.out)).mono ?_); rintro e w2 ⟨v2, rfl, hR2, hB2⟩; obtain ⟨A2, c2, rfl⟩ := Kd.R_slice hR2; have hv2 : Boxed w2 n1 22 (.slice A acc.length c) := (hB2.block n1 hv.lt).trans hv; have hcv2 := hv2.cell; have hfv2 := hv2.frozen; have HR2 := Aside0.mk hR2; have HB2 := Aside0.mk hB2; clear hR2 hB2) | fail)
  have hs1 := HBa.out.size
  have hbl : Below w.heap.size W w2 := HB2.out.mono hs1
  have hown := Kd.own_of_R (Kd.R_lower HR2.out hs1)
  refine ⟨(keeps_below HB2.out).trans (KeepsOthers.setCell _ _ _), ⟨hbl.setCell (p := ⟨n1, 0, none⟩) hsz _, ?_, ?_⟩, ⟨y.1, _, ⟨hy8, ?_, ?_⟩, hv2.set _, Kd.R_of_own (hown.kept (grownBy_setCell' w2 n1 _) (.inr (hv2.not_row (by decide) hown).symm)) (fun _ _ => trivial), ?_⟩, (HBa.out.trans hbl).setCell (p := ⟨n1, 0, none⟩) hsz _⟩
  ·exact (Below.heap_setCell _ _ _ _ (by simp)).trans (HB2.out.block _ (by omega))
  ·exact (Below.heap_setCell _ _ _ _ (by simp)).trans (HB2.out.block _ (by omega))
  ·have := hp.out.2.1
   rw [List.length_append, List.length_singleton]
   omega
  ·intro he
   rw [List.map_append, List.length_append, List.length_singleton, List.map_cons, List.map_nil] at he
   have h3 := range_snoc (l := pre.map (·.1)) (by rw [List.length_map]; exact he)
   rw [List.length_map] at h3
   rw [List.length_append, List.length_singleton]
   have hx := x.2
   refine pfor_PutList.step (by have := h3.2; omega) (hp.out.2.2 h3.1) (k' := k') (e := y.2) ?_
   rw [← h3.2]
   exact HY.out
  ·have := HB2.out.size
   simp
   omega
 case done =>
  rintro D ys W hD hS ⟨⟨acc, v, hp, hv, hR, hz⟩, hB⟩ hK
  have hyl : ys.length = (l1.length + 31) / 32 := by have := congrArg List.length hS; simpa using this
  have hacc := pfor_PutList.last (by omega) (hp.out.2.2 (by rw [hyl]; exact hS))
  subst hacc
  obtain ⟨A, c, rfl⟩ := Kd.R_slice hR
  have hcv := hv.cell
  have HRa := Aside0.mk hR
  have HBa := Aside0.mk hB
  clear hR hB
  gi_wp2
  refine ⟨by simp, .inl ⟨_, _, rfl, run_takeDeferred hK, ?_⟩⟩
  refine ⟨_, results_tmp rfl _ _ _, _, rfl, ?_, ?_⟩
  ·exact Kd.R_of_own (ownsRow_putObj (Kd.own_of_R HRa.out) _ hK rfl) (fun _ _ => trivial)
  ·exact HBa.out.trans (belowK_b (w := w) (Nat.le_refl _) W D _ _ (by omega) hK rfl rfl)
end
end Go.Proofs.Ytkcjjennlhgmhaa.P
end
