/- Words and proofs that PforLists leans on; put together by wip/tools/shake.py. -/
import Derived.Test.YtkcjjennlhgmhaaZPforLists11
import Derived.Test.YtkcjjennlhgmhaaZPforLists12
import Derived.ArgAppend
import Derived.Below
import Derived.BigQuiet
import Derived.Deep.AppendLies
import Derived.Deep.CutBlock
import Derived.Deep.DeepCutAuto
import Derived.Deep.Draws
import Derived.Deep.LoopGhost
import Derived.Deep.OwnRows
import Derived.Deep.QuietTactic
import Derived.Deep.RegionHeld3
import Derived.KernelRfl
import Derived.Laws.BitsLemmas
import Derived.Laws.BytesArg
import Derived.Laws.Cover1
import Derived.Laws.IdiomCopy
import Derived.Laws.MakeOwn
import Derived.Laws.OwnMore
import Derived.Laws.Rows
import Derived.Laws.Slices
import Derived.Laws.StructEq
import Derived.Lib.AppendStr
import Derived.Lib.BitFns
import Derived.Lib.ConvBytes
import Derived.Lib.Slices
import Derived.Lib.Small
import Derived.Lib.Strings
import Derived.Lib.Walk
import Derived.LoopIn
import Derived.LoopNIn
import Derived.Maps.AppendAt
import Derived.OrdersHeld
import Derived.OwnWalk
import Derived.OwnWalkIn
import Derived.RangeFuncBound
import Derived.RangeFuncBox
import Derived.RangeFuncCalls
import Derived.RangeFuncFrom
import Derived.RangeFuncLeaves
import Derived.RangeFuncNested
import Derived.RowKit
import Derived.RowKit3
import Derived.ScopeJumps
import Derived.Shelf.Abstract
import Derived.Sort.QuietIn
import Derived.Tactics
import Derived.TacticsInMore
import Derived.Test.YtkcjjennlhgmhaaChecked
import Derived.Test.YtkcjjennlhgmhaaProg
import Derived.WalkKit
import Derived.WalkMore
import Derived.WalkSpells
import Derived.WideLaws
section
namespace Go.Proofs.Ytkcjjennlhgmhaa.P
open Go.RowKit Go.Proofs.YtkcjjennlhgmhaaW.PrintWords Go.Proofs.YtkcjjennlhgmhaaW.PrintLast Go.Proofs.YtkcjjennlhgmhaaW.PrintMore
attribute [local go_sem] max2_int min2_int max_two min_two max_three min_three max_four min_four
set_option linter.unusedVariables false
set_option linter.unusedSimpArgs false
mutual
def pfor_read.j0 : Nat → List Int → Bool → Option (List Int × Int × Bool)
 | 0, _, _ => none
 | k + 1, x0, x33 => if x33 = true then (some (([] : List Int), 0, false)) else (if 0 < (x0.length : Int) then (if 1 ≤ (x0.length : Int) then ((num_Take.f k (x0.drop 1)).bind fun bt329 => (if bt329.2.2 = 0 then (if (x0.length : Int) < (wrap64 ((wrap64 (1 + bt329.2.1)) + 2)) then (pfor_read.j1 k x0 (wrap64 (rd x0 0)) bt329.1 (wrap64 (1 + bt329.2.1)) true) else (if 0 ≤ (wrap64 (1 + bt329.2.1)) then (if (wrap64 (1 + bt329.2.1)) < (x0.length : Int) then (if (rd x0 (wrap64 (1 + bt329.2.1))) > 64 then (pfor_read.j1 k x0 (wrap64 (rd x0 0)) bt329.1 (wrap64 (1 + bt329.2.1)) true) else (if 0 ≤ (wrap64 ((wrap64 (1 + bt329.2.1)) + 1)) then (if (wrap64 ((wrap64 (1 + bt329.2.1)) + 1)) < (x0.length : Int) then (pfor_read.j1 k x0 (wrap64 (rd x0 0)) bt329.1 (wrap64 (1 + bt329.2.1)) (decide ((wrap64 (rd x0 (wrap64 ((wrap64 (1 + bt329.2.1)) + 1)))) > (wrap64 (rd x0 0))))) else (none)) else (none))) else (none)) else (none))) else (pfor_read.j1 k x0 (wrap64 (rd x0 0)) bt329.1 (wrap64 (1 + bt329.2.1)) true))) else (none)) else (none))
def pfor_read.j1 : Nat → List Int → Int → Int → Int → Bool → Option (List Int × Int × Bool)
 | 0, _, _, _, _, _ => none
 | k + 1, x0, x5, x6, x9, x72 => if x72 = true then (some (([] : List Int), 0, false)) else (if 0 ≤ x9 then (if x9 < (x0.length : Int) then (if 0 ≤ (wrap64 (x9 + 1)) then (if (wrap64 (x9 + 1)) < (x0.length : Int) then (if (wrap64 ((wrap64 (x9 + 2)) + (wrap64 (Int.tdiv (wrap64 ((wrap64 (x5 * (wrap64 (rd x0 x9)))) + 7)) 8)))) > (x0.length : Int) then (some (([] : List Int), 0, false)) else (if 0 ≤ (wrap64 (x9 + 2)) then (if (wrap64 (x9 + 2)) ≤ (wrap64 ((wrap64 (x9 + 2)) + (wrap64 (Int.tdiv (wrap64 ((wrap64 (x5 * (wrap64 (rd x0 x9)))) + 7)) 8)))) then (if (wrap64 ((wrap64 (x9 + 2)) + (wrap64 (Int.tdiv (wrap64 ((wrap64 (x5 * (wrap64 (rd x0 x9)))) + 7)) 8)))) ≤ (x0.length : Int) then ((bits_Unpack.f k ((x0.take ((wrap64 ((wrap64 (x9 + 2)) + (wrap64 (Int.tdiv (wrap64 ((wrap64 (x5 * (wrap64 (rd x0 x9)))) + 7)) 8)))) : Int).toNat).drop ((wrap64 (x9 + 2)) : Int).toNat) x5 (wrap64 (rd x0 x9))).bind fun bt337 => (if bt337.2 = 0 then (pfor_read.l0 k x0 x5 x6 (wrap64 ((wrap64 (x9 + 2)) + (wrap64 (Int.tdiv (wrap64 ((wrap64 (x5 * (wrap64 (rd x0 x9)))) + 7)) 8)))) (wrap64 (rd x0 x9)) (wrap64 (rd x0 (wrap64 (x9 + 1)))) bt337.1) else (some (([] : List Int), 0, false)))) else (none)) else (none)) else (none))) else (none)) else (none)) else (none)) else (none))
def pfor_read.l0 : Nat → List Int → Int → Int → Int → Int → Int → List Int → Option (List Int × Int × Bool)
 | 0, _, _, _, _, _, _, _ => none
 | k + 1, x0, x5, x6, x9, x10, x11, x13 => if x11 > 0 then (if x9 ≥ (x0.length : Int) then (pfor_read.j3 k x0 x5 x6 x9 x10 x11 x13 true) else (if 0 ≤ x9 then (if x9 < (x0.length : Int) then (if (wrap64 (rd x0 x9)) ≥ x5 then (pfor_read.j3 k x0 x5 x6 x9 x10 x11 x13 true) else (pfor_read.j3 k x0 x5 x6 x9 x10 x11 x13 (x10 == 64))) else (none)) else (none))) else (pfor_read.l1 k x6 x9 x13 (x13.length : Int) 0)
def pfor_read.j3 : Nat → List Int → Int → Int → Int → Int → Int → List Int → Bool → Option (List Int × Int × Bool)
 | 0, _, _, _, _, _, _, _, _ => none
 | k + 1, x0, x5, x6, x9, x10, x11, x13, x130 => if x130 = true then (some (([] : List Int), 0, false)) else (if 0 ≤ x9 then (if x9 < (x0.length : Int) then (if 0 ≤ (wrap64 (x9 + 1)) then (if (wrap64 (x9 + 1)) ≤ (x0.length : Int) then ((num_Take.f k (x0.drop ((wrap64 (x9 + 1)) : Int).toNat)).bind fun bt344 => (if bt344.2.2 = 0 then (if 0 ≤ (wrap64 (rd x0 x9)) then (if (wrap64 (rd x0 x9)) < (x13.length : Int) then (if 0 ≤ x10 then (pfor_read.l0 k x0 x5 x6 (wrap64 (x9 + (wrap64 (1 + bt344.2.1)))) x10 (wrap64 (x11 - 1)) (x13.set ((wrap64 (rd x0 x9)) : Int).toNat (IntKind.u64.wrap ((rd x13 (wrap64 (rd x0 x9))) + (shl .u64 bt344.1 x10))))) else (none)) else (none)) else (none)) else (some (([] : List Int), 0, false)))) else (none)) else (none)) else (none)) else (none))
def pfor_read.l1 : Nat → Int → Int → List Int → Int → Int → Option (List Int × Int × Bool)
 | 0, _, _, _, _, _ => none
 | k + 1, x6, x9, x13, x161, x162 => if x162 < x161 then (if 0 ≤ x162 then (if x162 < (x13.length : Int) then (pfor_read.l1 k x6 x9 (x13.set (x162 : Int).toNat (IntKind.u64.wrap ((rd x13 x162) + x6))) x161 (wrap64 (x162 + 1))) else (none)) else (none)) else (some (x13, x9, true))
end
def pfor_read.f (k : Nat) (l0 : List Int) : Option (List Int × Int × Bool) := if (l0.length : Int) < 1 then (pfor_read.j0 k l0 true) else (if 0 < (l0.length : Int) then (if (rd l0 0) < 1 then (pfor_read.j0 k l0 true) else (pfor_read.j0 k l0 (decide ((rd l0 0) > 32)))) else (none))
theorem pfor_read.mono_l : ∀ k, (∀ y0 y1, LeO (pfor_read.j0 k y0 y1) (pfor_read.j0 (k + 1) y0 y1)) ∧ (∀ y0 y1 y2 y3 y4, LeO (pfor_read.j1 k y0 y1 y2 y3 y4) (pfor_read.j1 (k + 1) y0 y1 y2 y3 y4)) ∧ (∀ y0 y1 y2 y3 y4 y5 y6, LeO (pfor_read.l0 k y0 y1 y2 y3 y4 y5 y6) (pfor_read.l0 (k + 1) y0 y1 y2 y3 y4 y5 y6)) ∧ (∀ y0 y1 y2 y3 y4 y5 y6 y7, LeO (pfor_read.j3 k y0 y1 y2 y3 y4 y5 y6 y7) (pfor_read.j3 (k + 1) y0 y1 y2 y3 y4 y5 y6 y7)) ∧ (∀ y0 y1 y2 y3 y4, LeO (pfor_read.l1 k y0 y1 y2 y3 y4) (pfor_read.l1 (k + 1) y0 y1 y2 y3 y4))
 | 0 => ⟨fun _ _ r h => by simp [pfor_read.j0] at h, fun _ _ _ _ _ r h => by simp [pfor_read.j1] at h, fun _ _ _ _ _ _ _ r h => by simp [pfor_read.l0] at h, fun _ _ _ _ _ _ _ _ r h => by simp [pfor_read.j3] at h, fun _ _ _ _ _ r h => by simp [pfor_read.l1] at h⟩
 | k + 1 => by
  obtain ⟨ih0, ih1, ih2, ih3, ih4⟩ := pfor_read.mono_l k
  refine ⟨?_, ?_, ?_, ?_, ?_⟩
  ·intro y0 y1
   unfold pfor_read.j0
   repeat' first
   | (with_reducible exact ih0 _ _)
   | (with_reducible exact ih1 _ _ _ _ _)
   | (with_reducible exact ih2 _ _ _ _ _ _ _)
   | (with_reducible exact ih3 _ _ _ _ _ _ _ _)
   | (with_reducible exact ih4 _ _ _ _ _)
   | (with_reducible exact bits_Unpack.mono _ _ _ _)
   | (with_reducible exact num_Take.mono _ _)
   | (with_reducible exact LeO.refl _)
   | (with_reducible exact LeO.none _)
   | (with_reducible refine LeO.ite ?_ ?_)
   | (with_reducible refine LeO.bind ?_ (fun _ => ?_))
   | exact ih0 _ _
   | exact ih1 _ _ _ _ _
   | exact ih2 _ _ _ _ _ _ _
   | exact ih3 _ _ _ _ _ _ _ _
   | exact ih4 _ _ _ _ _
   | exact bits_Unpack.mono _ _ _ _
   | exact num_Take.mono _ _
   | exact LeO.none _
   | refine LeO.ite ?_ ?_
   | refine LeO.bind ?_ (fun _ => ?_)
  ·intro y0 y1 y2 y3 y4
   unfold pfor_read.j1
   repeat' first
   | (with_reducible exact ih0 _ _)
   | (with_reducible exact ih1 _ _ _ _ _)
   | (with_reducible exact ih2 _ _ _ _ _ _ _)
   | (with_reducible exact ih3 _ _ _ _ _ _ _ _)
   | (with_reducible exact ih4 _ _ _ _ _)
   | (with_reducible exact bits_Unpack.mono _ _ _ _)
   | (with_reducible exact num_Take.mono _ _)
   | (with_reducible exact LeO.refl _)
   | (with_reducible exact LeO.none _)
   | (with_reducible refine LeO.ite ?_ ?_)
   | (with_reducible refine LeO.bind ?_ (fun _ => ?_))
   | exact ih0 _ _
   | exact ih1 _ _ _ _ _
   | exact ih2 _ _ _ _ _ _ _
   | exact ih3 _ _ _ _ _ _ _ _
   | exact ih4 _ _ _ _ _
   | exact bits_Unpack.mono _ _ _ _
   | exact num_Take.mono _ _
   | exact LeO.none _
   | refine LeO.ite ?_ ?_
   | refine LeO.bind ?_ (fun _ => ?_)
  ·intro y0 y1 y2 y3 y4 y5 y6
   unfold pfor_read.l0
   repeat' first
   | (with_reducible exact ih0 _ _)
   | (with_reducible exact ih1 _ _ _ _ _)
   | (with_reducible exact ih2 _ _ _ _ _ _ _)
   | (with_reducible exact ih3 _ _ _ _ _ _ _ _)
   | (with_reducible exact ih4 _ _ _ _ _)
   | (with_reducible exact bits_Unpack.mono _ _ _ _)
   | (with_reducible exact num_Take.mono _ _)
   | (with_reducible exact LeO.refl _)
   | (with_reducible exact LeO.none _)
   | (with_reducible refine LeO.ite ?_ ?_)
   | (with_reducible refine LeO.bind ?_ (fun _ => ?_))
   | exact ih0 _ _
   | exact ih1 _ _ _ _ _
   | exact ih2 _ _ _ _ _ _ _
   | exact ih3 _ _ _ _ _ _ _ _
   | exact ih4 _ _ _ _ _
   | exact bits_Unpack.mono _ _ _ _
   | exact num_Take.mono _ _
   | exact LeO.none _
   | refine LeO.ite ?_ ?_
   | refine LeO.bind ?_ (fun _ => ?_)
  ·intro y0 y1 y2 y3 y4 y5 y6 y7
   unfold pfor_read.j3
   repeat' first
   | (with_reducible exact ih0 _ _)
   | (with_reducible exact ih1 _ _ _ _ _)
   | (with_reducible exact ih2 _ _ _ _ _ _ _)
   | (with_reducible exact ih3 _ _ _ _ _ _ _ _)
   | (with_reducible exact ih4 _ _ _ _ _)
   | (with_reducible exact bits_Unpack.mono _ _ _ _)
   | (with_reducible exact num_Take.mono _ _)
   | (with_reducible exact LeO.refl _)
   | (with_reducible exact LeO.none _)
   | (with_reducible refine LeO.ite ?_ ?_)
   | (with_reducible refine LeO.bind ?_ (fun _ => ?_))
   | exact ih0 _ _
   | exact ih1 _ _ _ _ _
   | exact ih2 _ _ _ _ _ _ _
   | exact ih3 _ _ _ _ _ _ _ _
   | exact ih4 _ _ _ _ _
   | exact bits_Unpack.mono _ _ _ _
   | exact num_Take.mono _ _
   | exact LeO.none _
   | refine LeO.ite ?_ ?_
   | refine LeO.bind ?_ (fun _ => ?_)
  ·intro y0 y1 y2 y3 y4
   unfold pfor_read.l1
   repeat' first
   | (with_reducible exact ih0 _ _)
   | (with_reducible exact ih1 _ _ _ _ _)
   | (with_reducible exact ih2 _ _ _ _ _ _ _)
   | (with_reducible exact ih3 _ _ _ _ _ _ _ _)
   | (with_reducible exact ih4 _ _ _ _ _)
   | (with_reducible exact bits_Unpack.mono _ _ _ _)
   | (with_reducible exact num_Take.mono _ _)
   | (with_reducible exact LeO.refl _)
   | (with_reducible exact LeO.none _)
   | (with_reducible refine LeO.ite ?_ ?_)
   | (with_reducible refine LeO.bind ?_ (fun _ => ?_))
   | exact ih0 _ _
   | exact ih1 _ _ _ _ _
   | exact ih2 _ _ _ _ _ _ _
   | exact ih3 _ _ _ _ _ _ _ _
   | exact ih4 _ _ _ _ _
   | exact bits_Unpack.mono _ _ _ _
   | exact num_Take.mono _ _
   | exact LeO.none _
   | refine LeO.ite ?_ ?_
   | refine LeO.bind ?_ (fun _ => ?_)
theorem pfor_read.mono : ∀ a0 k, LeO (pfor_read.f k a0) (pfor_read.f (k + 1) a0) := by
 intro a0 k
 obtain ⟨ih0, ih1, ih2, ih3, ih4⟩ := pfor_read.mono_l k
 unfold pfor_read.f
 repeat' first
   | (with_reducible exact ih0 _ _)
   | (with_reducible exact ih1 _ _ _ _ _)
   | (with_reducible exact ih2 _ _ _ _ _ _ _)
   | (with_reducible exact ih3 _ _ _ _ _ _ _ _)
   | (with_reducible exact ih4 _ _ _ _ _)
   | (with_reducible exact bits_Unpack.mono _ _ _ _)
   | (with_reducible exact num_Take.mono _ _)
   | (with_reducible exact LeO.refl _)
   | (with_reducible exact LeO.none _)
   | (with_reducible refine LeO.ite ?_ ?_)
   | (with_reducible refine LeO.bind ?_ (fun _ => ?_))
   | exact ih0 _ _
   | exact ih1 _ _ _ _ _
   | exact ih2 _ _ _ _ _ _ _
   | exact ih3 _ _ _ _ _ _ _ _
   | exact ih4 _ _ _ _ _
   | exact bits_Unpack.mono _ _ _ _
   | exact num_Take.mono _ _
   | exact LeO.none _
   | refine LeO.ite ?_ ?_
   | refine LeO.bind ?_ (fun _ => ?_)
def pfor_read.T8 : Bool × List (List Nat × List Nat) := (true, [([], []), ([], []), ([0, 1], [0, 1]), ([2], [2]), ([3], [3]), ([], []), ([], []), ([6], [6]), ([5, 7], [5, 7]), ([8], [8]), ([9], [9]), ([4, 0, 1, 2, 3, 4], [4]), ([10, 11, 0, 1, 2, 3, 4, 5, 6, 7, 8, 9, 10, 11], [10])])
def pfor_read.B8 : List Nat := [0, 0, 3, 7, 15, 0, 0, 64, 224, 480, 992, 31, 4095]
theorem pfor_read.tab8 : rtab .any (opsOf Try.f35 8) = pfor_read.T8 := by kernel_rfl
theorem pfor_read.bits8 : waitsOk pfor_read.T8.2 pfor_read.B8 = true := by kernel_rfl
def pfor_read.T25 : Bool × List (List Nat × List Nat) := (true, [([], []), ([], []), ([0, 1], [0, 1]), ([2], [2]), ([], []), ([], []), ([4, 5], [4, 5]), ([3, 6], [3, 6]), ([0, 1, 0, 1, 2, 3, 4, 5, 6, 7], [0, 1]), ([8, 7, 0, 1, 2, 3, 4, 5, 6, 7], [7, 8])])
def pfor_read.B25 : List Nat := [0, 0, 3, 7, 0, 0, 48, 127, 255, 511]
theorem pfor_read.tab25 : rtab .any (opsOf Try.f35 25) = pfor_read.T25 := by kernel_rfl
theorem pfor_read.bits25 : waitsOk pfor_read.T25.2 pfor_read.B25 = true := by kernel_rfl
set_option maxHeartbeats 8000000 in
set_option maxRecDepth 100000 in
theorem pfor_read.calls (k : Nat) (A0 : Option Addr) (c0 : Nat) (l0 : List Int) (r1 : List Int) (r2 : Int) (r3 : Bool) (w : World) (hr0 : Kd.C (Kd.int .u8) w A0 l0.length l0) (hc0 : l0.length ≤ c0) (h : pfor_read.f k l0 = some (r1, r2, r3)) :
  Calls Try.prog 35 #[.slice A0 l0.length c0] w fun e w' => ∃ v0_ : Value, e = .returned (.tuple #[v0_, .int .i64 r2, .bool r3]) ∧ Kd.R (Kd.int .u64) 50 w' w.heap.size (fun _ => True) v0_ r1 ∧ Below w.heap.size w w' := by
 have HR0 := Aside0.mk hr0
 have HC0 := Aside0.mk hc0
 clear hr0 hc0
 have HB := Aside0.mk (Below.refl w.heap.size w)
 have H : (if (l0.length : Int) < 1 then (pfor_read.j0 k l0 true) else (if 0 < (l0.length : Int) then (if (rd l0 0) < 1 then (pfor_read.j0 k l0 true) else (pfor_read.j0 k l0 (decide ((rd l0 0) > 32)))) else (none))) = some (r1, r2, r3) := h
 clear h
 have HC2 := Aside0.mk H
 clear H
 go_enter Try.func35, Try.ntmps35
 go_upto_region 1 with (fail)
 go_cut [33] (fun v33 wc => ∃ (kq : Nat) (x33_1 : Bool), v33 = .bool x33_1 ∧ Aside0 (pfor_read.j0 kq l0 x33_1 = some (r1, r2, r3)) ∧ Aside0 (kq ≤ k) ∧ Aside0 (Below w.heap.size w wc))
 case first =>
  have H := HC2.out
  clear HC2
  by_cases c3 : (l0.length : Int) < 1
  ·rw [if_pos c3] at H
   have c3b0 : decide ((l0.length : Int) < 1) = true := decide_eq_true c3
   have c3b1 : decide (l0.length < 1) = true := decide_eq_true (by omega)
   clear c3
   (first | rw [c3b0] | (simp only [i64_w, i32_w]; rw [c3b0]) | skip)
   have H' := Aside0.mk H
   clear H
   go_wp2
   go_meet
   case rel => exact ⟨_, (true), (by first | rfl | (simp; done) | (simp [*]; done)), H', ⟨by first | omega | exact Nat.le_refl _⟩, ⟨by repeat (first | (with_reducible first | exact HB.out | apply pbA_ | apply pbN_ | apply pb1_) | exact HB.out)⟩⟩
  ·rw [if_neg c3] at H
   have c3b0 : decide ((l0.length : Int) < 1) = false := decide_eq_false c3
   have c3b1 : decide (l0.length < 1) = false := decide_eq_false (by omega)
   clear c3
   (first | rw [c3b0] | (simp only [i64_w, i32_w]; rw [c3b0]) | skip)
   by_cases c4 : 0 < (l0.length : Int)
   ·rw [if_pos c4] at H
    have c4b0 : decide (0 < (l0.length : Int)) = true := decide_eq_true c4
    have c4b1 : decide (0 < l0.length) = true := decide_eq_true (by omega)
    clear c4
    by_cases c5 : (rd l0 0) < 1
    ·rw [if_pos c5] at H
     have c5b0 : decide ((rd l0 0) < 1) = true := decide_eq_true c5
     clear c5
     have H' := Aside0.mk H
     clear H
     have p325 : 0 ≤ (0 : Int) := (by omega)
     have q325 : 0 < (l0.length : Int) := of_decide_eq_true (by first | (with_reducible assumption) | assumption)
     obtain ⟨ad325, e325, hx325_0⟩ := Kd.at_int HR0.out 0 p325 q325
     cases e325
     have qi325 : (0 < l0.length) = True := eq_true (by omega)
     (try rw [show ((0 : Int)).toNat = 0 from rfl] at hx325_0)
     (try rw [Addr.add_zero'] at hx325_0)
     replace hx325_0 := (HB.out.cell (World.block_lt_of_cell? w _ hx325_0)).trans hx325_0
     replace p325 := eq_true p325
     replace q325 := eq_true q325
     go_wp2
     go_meet
     case rel => exact ⟨_, (true), (by first | rfl | (simp; done) | (simp [*]; done)), H', ⟨by first | omega | exact Nat.le_refl _⟩, ⟨by repeat (first | (with_reducible first | exact HB.out | apply pbA_ | apply pbN_ | apply pb1_) | exact HB.out)⟩⟩
    ·rw [if_neg c5] at H
     have c5b0 : decide ((rd l0 0) < 1) = false := decide_eq_false c5
     clear c5
     have H' := Aside0.mk H
     clear H
     have p325 : 0 ≤ (0 : Int) := (by omega)
     have q325 : 0 < (l0.length : Int) := of_decide_eq_true (by first | (with_reducible assumption) | assumption)
     obtain ⟨ad325, e325, hx325_0⟩ := Kd.at_int HR0.out 0 p325 q325
     cases e325
     have qi325 : (0 < l0.length) = True := eq_true (by omega)
     (try rw [show ((0 : Int)).toNat = 0 from rfl] at hx325_0)
     (try rw [Addr.add_zero'] at hx325_0)
     replace hx325_0 := (HB.out.cell (World.block_lt_of_cell? w _ hx325_0)).trans hx325_0
     replace p325 := eq_true p325
     replace q325 := eq_true q325
     have p326 : 0 ≤ (0 : Int) := (by omega)
     have q326 : 0 < (l0.length : Int) := of_decide_eq_true (by first | (with_reducible assumption) | assumption)
     obtain ⟨ad326, e326, hx326_0⟩ := Kd.at_int HR0.out 0 p326 q326
     obtain rfl : ad325 = ad326 := (by injection e326)
     have qi326 : (0 < l0.length) = True := eq_true (by omega)
     (try rw [show ((0 : Int)).toNat = 0 from rfl] at hx326_0)
     (try rw [Addr.add_zero'] at hx326_0)
     replace hx326_0 := (HB.out.cell (World.block_lt_of_cell? w _ hx326_0)).trans hx326_0
     replace p326 := eq_true p326
     replace q326 := eq_true q326
     go_wp2
     go_meet
     case rel => exact ⟨_, (decide ((rd l0 0) > 32)), (by first | rfl | (simp; done) | (simp [*]; done)), H', ⟨by first | omega | exact Nat.le_refl _⟩, ⟨by repeat (first | (with_reducible first | exact HB.out | apply pbA_ | apply pbN_ | apply pb1_) | exact HB.out)⟩⟩
   ·rw [if_neg c4] at H
    exact absurd H (by simp)
 case rest =>
  clear HC2
  try clear p2
  try clear c3
  try clear c3b0
  try clear c3b1
  try clear p3
  try clear q3
  try clear hx3
  try clear qi3
  try clear c4
  try clear c4b0
  try clear c4b1
  try clear c5
  try clear c5b0
  try clear hx325_0
  try clear hx326_0
  try clear p325
  try clear p326
  try clear q325
  try clear q326
  obtain ⟨kq, x33_1, rfl, HA, HJ1, HB⟩ := hcut
  cases kq with
  | zero => exact absurd HA.out (by simp [pfor_read.j0])
  | succ kj1 =>
   have H := HA.out
   clear HA
   simp only [pfor_read.j0] at H
   by_cases c6 : x33_1 = true
   ·subst c6
    have H1 : (some (([] : List Int), 0, false)) = some (r1, r2, r3) := by rw [if_pos rfl] at H; exact H
    clear H
    have H := H1
    clear H1
    simp only [Option.some.injEq, Prod.mk.injEq] at H
    obtain ⟨rfl, rfl, rfl⟩ := H
    go_wp2
    go_ret3
    exact ⟨_, by first | rfl | (simp [eWn_, eWs_] <;> rfl) | (simp [*, eWn_, eWs_] <;> rfl), by first | exact Kd.R_nil _ _ _ _ _ | exact Kd.N_nil _ _ _ _ _ | exact Kd.V_nil _ _ _ _ _ | exact Kd.Q_nil _ _ _ _ _ | exact Kd.S_nil _ _ _ _ _, by repeat (first | (with_reducible first | exact HB.out | apply pbA_ | apply pbN_ | apply pb1_) | exact HB.out)⟩
   ·replace c6 := Bool.eq_false_iff.mpr c6
    subst c6
    have H1 : (if 0 < (l0.length : Int) then (if 1 ≤ (l0.length : Int) then ((num_Take.f kj1 (l0.drop 1)).bind fun bt329 => (if bt329.2.2 = 0 then (if (l0.length : Int) < (wrap64 ((wrap64 (1 + bt329.2.1)) + 2)) then (pfor_read.j1 kj1 l0 (wrap64 (rd l0 0)) bt329.1 (wrap64 (1 + bt329.2.1)) true) else (if 0 ≤ (wrap64 (1 + bt329.2.1)) then (if (wrap64 (1 + bt329.2.1)) < (l0.length : Int) then (if (rd l0 (wrap64 (1 + bt329.2.1))) > 64 then (pfor_read.j1 kj1 l0 (wrap64 (rd l0 0)) bt329.1 (wrap64 (1 + bt329.2.1)) true) else (if 0 ≤ (wrap64 ((wrap64 (1 + bt329.2.1)) + 1)) then (if (wrap64 ((wrap64 (1 + bt329.2.1)) + 1)) < (l0.length : Int) then (pfor_read.j1 kj1 l0 (wrap64 (rd l0 0)) bt329.1 (wrap64 (1 + bt329.2.1)) (decide ((wrap64 (rd l0 (wrap64 ((wrap64 (1 + bt329.2.1)) + 1)))) > (wrap64 (rd l0 0))))) else (none)) else (none))) else (none)) else (none))) else (pfor_read.j1 kj1 l0 (wrap64 (rd l0 0)) bt329.1 (wrap64 (1 + bt329.2.1)) true))) else (none)) else (none)) = some (r1, r2, r3) := by rw [if_neg (show ¬ (false = true) by decide)] at H; exact H
    clear H
    have H := H1
    clear H1
    by_cases c7 : 0 < (l0.length : Int)
    ·rw [if_pos c7] at H
     have c7b0 : decide (0 < (l0.length : Int)) = true := decide_eq_true c7
     have c7b1 : decide (0 < l0.length) = true := decide_eq_true (by omega)
     clear c7
     by_cases c8 : 1 ≤ (l0.length : Int)
     ·rw [if_pos c8] at H
      have c8b0 := eq_true c8
      have c8b1 : decide (1 ≤ (l0.length : Int)) = true := decide_eq_true c8
      clear c8
      replace H := Option.bind_eq_some_iff.mp H
      obtain ⟨⟨t329, t330, t331⟩, A90, H⟩ := H
      replace H : (if t331 = 0 then (if (l0.length : Int) < (wrap64 ((wrap64 (1 + t330)) + 2)) then (pfor_read.j1 kj1 l0 (wrap64 (rd l0 0)) t329 (wrap64 (1 + t330)) true) else (if 0 ≤ (wrap64 (1 + t330)) then (if (wrap64 (1 + t330)) < (l0.length : Int) then (if (rd l0 (wrap64 (1 + t330))) > 64 then (pfor_read.j1 kj1 l0 (wrap64 (rd l0 0)) t329 (wrap64 (1 + t330)) true) else (if 0 ≤ (wrap64 ((wrap64 (1 + t330)) + 1)) then (if (wrap64 ((wrap64 (1 + t330)) + 1)) < (l0.length : Int) then (pfor_read.j1 kj1 l0 (wrap64 (rd l0 0)) t329 (wrap64 (1 + t330)) (decide ((wrap64 (rd l0 (wrap64 ((wrap64 (1 + t330)) + 1)))) > (wrap64 (rd l0 0))))) else (none)) else (none))) else (none)) else (none))) else (pfor_read.j1 kj1 l0 (wrap64 (rd l0 0)) t329 (wrap64 (1 + t330)) true)) = some (r1, r2, r3) := H
      have A9 := Aside0.mk A90
      clear A90
      have HC10 := Aside0.mk H
      clear H
      have p327 : 0 ≤ (0 : Int) := (by omega)
      have q327 : 0 < (l0.length : Int) := of_decide_eq_true (by first | (with_reducible assumption) | assumption)
      obtain ⟨ad327, e327, hx327_0⟩ := Kd.at_int HR0.out 0 p327 q327
      cases e327
      have qi327 : (0 < l0.length) = True := eq_true (by omega)
      (try rw [show ((0 : Int)).toNat = 0 from rfl] at hx327_0)
      (try rw [Addr.add_zero'] at hx327_0)
      replace hx327_0 := (HB.out.cell (World.block_lt_of_cell? w _ hx327_0)).trans hx327_0
      replace p327 := eq_true p327
      replace q327 := eq_true q327
      obtain ⟨i011, hi011, _, hsz11, _⟩ := info_parts info5
      obtain ⟨A11, hcut11, hA11, hC11⟩ := print_drop_of (P := Try.prog) (Value.int .u8) 0 22 5 .i64 Try.underlying22 hi011 hsz11 (some ad327) c0 l0 1 (by omega) (of_decide_eq_true (by first | (with_reducible assumption) | assumption)) HC0.out
      have HR328 := Aside0.mk (Kd.C_of_reads (h1 := fun _ => rfl) (hA11 _ (Kd.reads_of_C HR0.out)))
      have HC328 := Aside0.mk hC11
      clear hA11 hC11 hi011 hsz11
      go_upto_region 6 with (first | ((with_reducible refine gaC_ (f := 44) rfl ?_); refine goesL_ (some 41) rfl rfl Try.func44 (by kernel_rfl) rfl #[.slice A11 (l0.drop 1).length (c0 - 1)] rfl (by (try simp only [List.map_toArray, List.map_cons, List.map_nil]); first | done | (rw [show (l0.drop 1).length = (l0.length - 1) from List.length_drop] <;> rfl) | rfl | (simp only [List.length_drop, List.length_take]; rfl)) ?_; (with_reducible refine (num_Take.calls kj1 _ _ (l0.drop 1) t329 t330 t331 _ ?side1 ?side2 A9.out).mono ?_); (case side1 => repeat (first | exact (Kd.C_below HR328.out HB.out) | (with_reducible refine Kd.cA_ ?_ _) | (with_reducible refine Kd.cN_ ?_ _) | (with_reducible refine Kd.cD_ ?_))); (case side2 => exact HC328.out); rintro e w' ⟨rfl, ⟨nd, rfl⟩⟩; refine ⟨_, rfl, ?_⟩))
      (try simp only [Act.put, List.setIfInBounds_toArray, List.set_cons_zero, List.set_cons_succ])
      go_cut [72] (fun v72 wc => ∃ (kq : Nat) (x72_9 : Bool), v72 = .bool x72_9 ∧ Aside0 (pfor_read.j1 kq l0 (wrap64 (rd l0 0)) t329 (wrap64 (1 + t330)) x72_9 = some (r1, r2, r3)) ∧ Aside0 (kq ≤ kj1) ∧ Aside0 (Below w.heap.size w wc))
      case first =>
       have H := HC10.out
       clear HC10
       by_cases c12 : t331 = 0
       ·rw [if_pos c12] at H
        have c12b0 : (t331 == 0) = true := beq_iff_eq.mpr c12
        have c12b1 : (t331 != 0) = false := bne_eq_false_iff_eq.mpr c12
        clear c12
        (first | rw [c12b0] | (simp only [i64_w, i32_w]; rw [c12b0]) | skip)
        by_cases c13 : (l0.length : Int) < (wrap64 ((wrap64 (1 + t330)) + 2))
        ·rw [if_pos c13] at H
         have c13b0 : decide ((l0.length : Int) < (wrap64 ((wrap64 (1 + t330)) + 2))) = true := decide_eq_true c13
         clear c13
         have H' := Aside0.mk H
         clear H
         go_wp2
         go_meet
         case rel => exact ⟨_, (true), (by first | rfl | (simp; done) | (simp [*]; done)), H', ⟨by have := HJ1.out; first | omega | exact Nat.le_refl _⟩, ⟨by repeat (first | (with_reducible first | exact HB.out | apply pbA_ | apply pbN_ | apply pb1_) | exact HB.out)⟩⟩
        ·rw [if_neg c13] at H
         have c13b0 : decide ((l0.length : Int) < (wrap64 ((wrap64 (1 + t330)) + 2))) = false := decide_eq_false c13
         clear c13
         obtain ⟨ji14, hji14⟩ : ∃ j_ : Int, (wrap64 (1 + t330)) = j_ := ⟨_, rfl⟩
         replace H : (if 0 ≤ (ji14) then (if (ji14) < (l0.length : Int) then (if (rd l0 (ji14)) > 64 then (pfor_read.j1 kj1 l0 (wrap64 (rd l0 0)) t329 ji14 true) else (if 0 ≤ (wrap64 ((ji14) + 1)) then (if (wrap64 ((ji14) + 1)) < (l0.length : Int) then (pfor_read.j1 kj1 l0 (wrap64 (rd l0 0)) t329 ji14 (decide ((wrap64 (rd l0 (wrap64 ((ji14) + 1)))) > (wrap64 (rd l0 0))))) else (none)) else (none))) else (none)) else (none)) = some (r1, r2, r3) := by first | (rw [hji14] at H; exact H) | (simp only [hji14] at H ⊢; exact H)
         (try rw [hji14] at c13b0)
         have hji14w : (IntKind.i64.wrap (1 + t330)) = ji14 := (i64_w _).trans hji14
         by_cases c15 : 0 ≤ (ji14)
         ·rw [if_pos c15] at H
          have c15b0 : decide (0 ≤ (ji14)) = true := decide_eq_true c15
          clear c15
          by_cases c16 : (ji14) < (l0.length : Int)
          ·rw [if_pos c16] at H
           have c16b0 : decide ((ji14) < (l0.length : Int)) = true := decide_eq_true c16
           clear c16
           by_cases c17 : (rd l0 (ji14)) > 64
           ·rw [if_pos c17] at H
            have c17b0 : decide (64 < (rd l0 (ji14))) = true := decide_eq_true c17
            clear c17
            have H' := Aside0.mk H
            clear H
            have p332 : 0 ≤ ((ji14) : Int) := of_decide_eq_true (by first | (with_reducible assumption) | assumption)
            have q332 : (ji14) < (l0.length : Int) := of_decide_eq_true (by first | (with_reducible assumption) | assumption)
            obtain ⟨ad332, e332, hx332_0⟩ := Kd.at_int HR0.out (ji14) p332 q332
            obtain rfl : ad327 = ad332 := (by injection e332)
            replace hx332_0 := (HB.out.cell (World.block_lt_of_cell? w _ hx332_0)).trans hx332_0
            replace p332 := eq_true p332
            replace q332 := eq_true q332
            go_wp2
            (try subst hji14)
            go_meet
            case rel => exact ⟨_, (true), (by first | rfl | (simp; done) | (simp [*]; done)), H', ⟨by have := HJ1.out; first | omega | exact Nat.le_refl _⟩, ⟨by repeat (first | (with_reducible first | exact HB.out | apply pbA_ | apply pbN_ | apply pb1_) | exact HB.out)⟩⟩
           ·rw [if_neg c17] at H
            have c17b0 : decide (64 < (rd l0 (ji14))) = false := decide_eq_false c17
            clear c17
            obtain ⟨ji18, hji18⟩ : ∃ j_ : Int, (wrap64 ((ji14) + 1)) = j_ := ⟨_, rfl⟩
            replace H : (if 0 ≤ (ji18) then (if (ji18) < (l0.length : Int) then (pfor_read.j1 kj1 l0 (wrap64 (rd l0 0)) t329 ji14 (decide ((wrap64 (rd l0 (ji18))) > (wrap64 (rd l0 0))))) else (none)) else (none)) = some (r1, r2, r3) := by first | (rw [hji18] at H; exact H) | (simp only [hji18] at H ⊢; exact H)
            have hji18w : (IntKind.i64.wrap ((ji14) + 1)) = ji18 := (i64_w _).trans hji18
            by_cases c19 : 0 ≤ (ji18)
            ·rw [if_pos c19] at H
             have c19b0 : decide (0 ≤ (ji18)) = true := decide_eq_true c19
             clear c19
             by_cases c20 : (ji18) < (l0.length : Int)
             ·rw [if_pos c20] at H
              have c20b0 : decide ((ji18) < (l0.length : Int)) = true := decide_eq_true c20
              clear c20
              have H' := Aside0.mk H
              clear H
              have p332 : 0 ≤ ((ji14) : Int) := of_decide_eq_true (by first | (with_reducible assumption) | assumption)
              have q332 : (ji14) < (l0.length : Int) := of_decide_eq_true (by first | (with_reducible assumption) | assumption)
              obtain ⟨ad332, e332, hx332_0⟩ := Kd.at_int HR0.out (ji14) p332 q332
              obtain rfl : ad327 = ad332 := (by injection e332)
              replace hx332_0 := (HB.out.cell (World.block_lt_of_cell? w _ hx332_0)).trans hx332_0
              replace p332 := eq_true p332
              replace q332 := eq_true q332
              have p333 : 0 ≤ ((ji18) : Int) := of_decide_eq_true (by first | (with_reducible assumption) | assumption)
              have q333 : (ji18) < (l0.length : Int) := of_decide_eq_true (by first | (with_reducible assumption) | assumption)
              obtain ⟨ad333, e333, hx333_0⟩ := Kd.at_int HR0.out (ji18) p333 q333
              obtain rfl : ad327 = ad333 := (by injection e333)
              replace hx333_0 := (HB.out.cell (World.block_lt_of_cell? w _ hx333_0)).trans hx333_0
              replace p333 := eq_true p333
              replace q333 := eq_true q333
              go_wp2
              (try subst hji18 hji14)
              go_meet
              case rel => exact ⟨_, (decide ((wrap64 (rd l0 ((wrap64 (((wrap64 (1 + t330))) + 1))))) > (wrap64 (rd l0 0)))), (by first | rfl | (simp; done) | (simp only [← hji18] <;> (first | rfl | simp)) | (simp [*]; done)), H', ⟨by have := HJ1.out; first | omega | exact Nat.le_refl _⟩, ⟨by repeat (first | (with_reducible first | exact HB.out | apply pbA_ | apply pbN_ | apply pb1_) | exact HB.out)⟩⟩
             ·rw [if_neg c20] at H
              exact absurd H (by simp)
            ·rw [if_neg c19] at H
             exact absurd H (by simp)
          ·rw [if_neg c16] at H
           exact absurd H (by simp)
         ·rw [if_neg c15] at H
          exact absurd H (by simp)
       ·rw [if_neg c12] at H
        have c12b0 : (t331 == 0) = false := beq_eq_false_iff_ne.mpr c12
        have c12b1 : (t331 != 0) = true := bne_iff_ne.mpr c12
        (first | rw [c12b0] | (simp only [i64_w, i32_w]; rw [c12b0]) | skip)
        have H' := Aside0.mk H
        clear H
        go_wp2
        go_meet
        case rel => exact ⟨_, (true), (by first | rfl | (simp; done) | (simp [*]; done)), H', ⟨by have := HJ1.out; first | omega | exact Nat.le_refl _⟩, ⟨by repeat (first | (with_reducible first | exact HB.out | apply pbA_ | apply pbN_ | apply pb1_) | exact HB.out)⟩⟩
      case rest =>
       clear HC10
       try clear c1
       try clear c2
       try clear p2
       try clear c3
       try clear c3b0
       try clear c3b1
       try clear p3
       try clear q3
       try clear hx3
       try clear qi3
       try clear c4
       try clear c4b0
       try clear c4b1
       try clear c5
       try clear c5b0
       try clear c6
       try clear p6
       try clear c7
       try clear c7b0
       try clear c7b1
       try clear c8
       try clear c8b0
       try clear c8b1
       try clear c12
       try clear c12b0
       try clear c12b1
       try clear c13
       try clear c13b0
       try clear c15
       try clear c15b0
       try clear c16
       try clear c16b0
       try clear c17
       try clear c17b0
       try clear c19
       try clear c19b0
       try clear c20
       try clear c20b0
       try clear hx325_0
       try clear hx326_0
       try clear hx327_0
       try clear hx332_0
       try clear hx333_0
       try clear p2
       try clear p3
       try clear p325
       try clear p326
       try clear p327
       try clear p332
       try clear p333
       try clear q3
       try clear q325
       try clear q326
       try clear q327
       try clear q332
       try clear q333
       obtain ⟨kq, x72_9, rfl, HA, HJ9, HB⟩ := hcut
       cases kq with
       | zero => exact absurd HA.out (by simp [pfor_read.j1])
       | succ kj9 =>
        have H := HA.out
        clear HA
        simp only [pfor_read.j1] at H
        by_cases c21 : x72_9 = true
        ·subst c21
         have H1 : (some (([] : List Int), 0, false)) = some (r1, r2, r3) := by rw [if_pos rfl] at H; exact H
         clear H
         have H := H1
         clear H1
         simp only [Option.some.injEq, Prod.mk.injEq] at H
         obtain ⟨rfl, rfl, rfl⟩ := H
         go_wp2
         go_ret3
         exact ⟨_, by first | rfl | (simp [eWn_, eWs_] <;> rfl) | (simp [*, eWn_, eWs_] <;> rfl), by first | exact Kd.R_nil _ _ _ _ _ | exact Kd.N_nil _ _ _ _ _ | exact Kd.V_nil _ _ _ _ _ | exact Kd.Q_nil _ _ _ _ _ | exact Kd.S_nil _ _ _ _ _, by repeat (first | (with_reducible first | exact HB.out | apply pbA_ | apply pbN_ | apply pb1_) | exact HB.out)⟩
        ·replace c21 := Bool.eq_false_iff.mpr c21
         subst c21
         have H1 : (if 0 ≤ (wrap64 (1 + t330)) then (if (wrap64 (1 + t330)) < (l0.length : Int) then (if 0 ≤ (wrap64 ((wrap64 (1 + t330)) + 1)) then (if (wrap64 ((wrap64 (1 + t330)) + 1)) < (l0.length : Int) then (if (wrap64 ((wrap64 ((wrap64 (1 + t330)) + 2)) + (wrap64 (Int.tdiv (wrap64 ((wrap64 ((wrap64 (rd l0 0)) * (wrap64 (rd l0 (wrap64 (1 + t330)))))) + 7)) 8)))) > (l0.length : Int) then (some (([] : List Int), 0, false)) else (if 0 ≤ (wrap64 ((wrap64 (1 + t330)) + 2)) then (if (wrap64 ((wrap64 (1 + t330)) + 2)) ≤ (wrap64 ((wrap64 ((wrap64 (1 + t330)) + 2)) + (wrap64 (Int.tdiv (wrap64 ((wrap64 ((wrap64 (rd l0 0)) * (wrap64 (rd l0 (wrap64 (1 + t330)))))) + 7)) 8)))) then (if (wrap64 ((wrap64 ((wrap64 (1 + t330)) + 2)) + (wrap64 (Int.tdiv (wrap64 ((wrap64 ((wrap64 (rd l0 0)) * (wrap64 (rd l0 (wrap64 (1 + t330)))))) + 7)) 8)))) ≤ (l0.length : Int) then ((bits_Unpack.f kj9 ((l0.take ((wrap64 ((wrap64 ((wrap64 (1 + t330)) + 2)) + (wrap64 (Int.tdiv (wrap64 ((wrap64 ((wrap64 (rd l0 0)) * (wrap64 (rd l0 (wrap64 (1 + t330)))))) + 7)) 8)))) : Int).toNat).drop ((wrap64 ((wrap64 (1 + t330)) + 2)) : Int).toNat) (wrap64 (rd l0 0)) (wrap64 (rd l0 (wrap64 (1 + t330))))).bind fun bt337 => (if bt337.2 = 0 then (pfor_read.l0 kj9 l0 (wrap64 (rd l0 0)) t329 (wrap64 ((wrap64 ((wrap64 (1 + t330)) + 2)) + (wrap64 (Int.tdiv (wrap64 ((wrap64 ((wrap64 (rd l0 0)) * (wrap64 (rd l0 (wrap64 (1 + t330)))))) + 7)) 8)))) (wrap64 (rd l0 (wrap64 (1 + t330)))) (wrap64 (rd l0 (wrap64 ((wrap64 (1 + t330)) + 1)))) bt337.1) else (some (([] : List Int), 0, false)))) else (none)) else (none)) else (none))) else (none)) else (none)) else (none)) else (none)) = some (r1, r2, r3) := by rw [if_neg (show ¬ (false = true) by decide)] at H; exact H
         clear H
         have H := H1
         clear H1
         obtain ⟨ji22, hji22⟩ : ∃ j_ : Int, (wrap64 (1 + t330)) = j_ := ⟨_, rfl⟩
         replace H : (if 0 ≤ (ji22) then (if (ji22) < (l0.length : Int) then (if 0 ≤ (wrap64 ((ji22) + 1)) then (if (wrap64 ((ji22) + 1)) < (l0.length : Int) then (if (wrap64 ((wrap64 ((ji22) + 2)) + (wrap64 (Int.tdiv (wrap64 ((wrap64 ((wrap64 (rd l0 0)) * (wrap64 (rd l0 (ji22))))) + 7)) 8)))) > (l0.length : Int) then (some (([] : List Int), 0, false)) else (if 0 ≤ (wrap64 ((ji22) + 2)) then (if (wrap64 ((ji22) + 2)) ≤ (wrap64 ((wrap64 ((ji22) + 2)) + (wrap64 (Int.tdiv (wrap64 ((wrap64 ((wrap64 (rd l0 0)) * (wrap64 (rd l0 (ji22))))) + 7)) 8)))) then (if (wrap64 ((wrap64 ((ji22) + 2)) + (wrap64 (Int.tdiv (wrap64 ((wrap64 ((wrap64 (rd l0 0)) * (wrap64 (rd l0 (ji22))))) + 7)) 8)))) ≤ (l0.length : Int) then ((bits_Unpack.f kj9 ((l0.take ((wrap64 ((wrap64 ((ji22) + 2)) + (wrap64 (Int.tdiv (wrap64 ((wrap64 ((wrap64 (rd l0 0)) * (wrap64 (rd l0 (ji22))))) + 7)) 8)))) : Int).toNat).drop ((wrap64 ((ji22) + 2)) : Int).toNat) (wrap64 (rd l0 0)) (wrap64 (rd l0 (ji22)))).bind fun bt337 => (if bt337.2 = 0 then (pfor_read.l0 kj9 l0 (wrap64 (rd l0 0)) t329 (wrap64 ((wrap64 ((ji22) + 2)) + (wrap64 (Int.tdiv (wrap64 ((wrap64 ((wrap64 (rd l0 0)) * (wrap64 (rd l0 (ji22))))) + 7)) 8)))) (wrap64 (rd l0 (ji22))) (wrap64 (rd l0 (wrap64 ((ji22) + 1)))) bt337.1) else (some (([] : List Int), 0, false)))) else (none)) else (none)) else (none))) else (none)) else (none)) else (none)) else (none)) = some (r1, r2, r3) := by first | (rw [hji22] at H; exact H) | (simp only [hji22] at H ⊢; exact H)
         have hji22w : (IntKind.i64.wrap (1 + t330)) = ji22 := (i64_w _).trans hji22
         by_cases c23 : 0 ≤ (ji22)
         ·rw [if_pos c23] at H
          have c23b0 : decide (0 ≤ (ji22)) = true := decide_eq_true c23
          clear c23
          by_cases c24 : (ji22) < (l0.length : Int)
          ·rw [if_pos c24] at H
           have c24b0 : decide ((ji22) < (l0.length : Int)) = true := decide_eq_true c24
           clear c24
           obtain ⟨ji25, hji25⟩ : ∃ j_ : Int, (wrap64 ((ji22) + 1)) = j_ := ⟨_, rfl⟩
           replace H : (if 0 ≤ (ji25) then (if (ji25) < (l0.length : Int) then (if (wrap64 ((wrap64 ((ji22) + 2)) + (wrap64 (Int.tdiv (wrap64 ((wrap64 ((wrap64 (rd l0 0)) * (wrap64 (rd l0 (ji22))))) + 7)) 8)))) > (l0.length : Int) then (some (([] : List Int), 0, false)) else (if 0 ≤ (wrap64 ((ji22) + 2)) then (if (wrap64 ((ji22) + 2)) ≤ (wrap64 ((wrap64 ((ji22) + 2)) + (wrap64 (Int.tdiv (wrap64 ((wrap64 ((wrap64 (rd l0 0)) * (wrap64 (rd l0 (ji22))))) + 7)) 8)))) then (if (wrap64 ((wrap64 ((ji22) + 2)) + (wrap64 (Int.tdiv (wrap64 ((wrap64 ((wrap64 (rd l0 0)) * (wrap64 (rd l0 (ji22))))) + 7)) 8)))) ≤ (l0.length : Int) then ((bits_Unpack.f kj9 ((l0.take ((wrap64 ((wrap64 ((ji22) + 2)) + (wrap64 (Int.tdiv (wrap64 ((wrap64 ((wrap64 (rd l0 0)) * (wrap64 (rd l0 (ji22))))) + 7)) 8)))) : Int).toNat).drop ((wrap64 ((ji22) + 2)) : Int).toNat) (wrap64 (rd l0 0)) (wrap64 (rd l0 (ji22)))).bind fun bt337 => (if bt337.2 = 0 then (pfor_read.l0 kj9 l0 (wrap64 (rd l0 0)) t329 (wrap64 ((wrap64 ((ji22) + 2)) + (wrap64 (Int.tdiv (wrap64 ((wrap64 ((wrap64 (rd l0 0)) * (wrap64 (rd l0 (ji22))))) + 7)) 8)))) (wrap64 (rd l0 (ji22))) (wrap64 (rd l0 (ji25))) bt337.1) else (some (([] : List Int), 0, false)))) else (none)) else (none)) else (none))) else (none)) else (none)) = some (r1, r2, r3) := by first | (rw [hji25] at H; exact H) | (simp only [hji25] at H ⊢; exact H)
           have hji25w : (IntKind.i64.wrap ((ji22) + 1)) = ji25 := (i64_w _).trans hji25
           by_cases c26 : 0 ≤ (ji25)
           ·rw [if_pos c26] at H
            have c26b0 : decide (0 ≤ (ji25)) = true := decide_eq_true c26
            clear c26
            by_cases c27 : (ji25) < (l0.length : Int)
            ·rw [if_pos c27] at H
             have c27b0 : decide ((ji25) < (l0.length : Int)) = true := decide_eq_true c27
             clear c27
             by_cases c28 : (wrap64 ((wrap64 ((ji22) + 2)) + (wrap64 (Int.tdiv (wrap64 ((wrap64 ((wrap64 (rd l0 0)) * (wrap64 (rd l0 (ji22))))) + 7)) 8)))) > (l0.length : Int)
             ·rw [if_pos c28] at H
              have c28b0 : decide ((l0.length : Int) < (wrap64 ((wrap64 ((ji22) + 2)) + (wrap64 (Int.tdiv (wrap64 ((wrap64 ((wrap64 (rd l0 0)) * (wrap64 (rd l0 (ji22))))) + 7)) 8))))) = true := decide_eq_true c28
              clear c28
              simp only [Option.some.injEq, Prod.mk.injEq] at H
              obtain ⟨rfl, rfl, rfl⟩ := H
              try go_wp2
              (try (rw [drewN_self wc]; generalize hq_ : World.drewN wc _ = wc; have n0_ : Aside0 (Below w.heap.size w wc) := ⟨by rw [← hq_]; exact (by repeat (first | (with_reducible first | exact HB.out | apply pbA_ | apply pbN_ | apply pb1_) | exact HB.out))⟩; clear HB hq_; have HB := n0_; clear n0_))
              have n0_ := Aside0.mk (pb1_ HB.out)
              clear HB
              have HB := n0_
              clear n0_
              have p334 : 0 ≤ ((ji22) : Int) := of_decide_eq_true (by first | (with_reducible assumption) | assumption)
              have q334 : (ji22) < (l0.length : Int) := of_decide_eq_true (by first | (with_reducible assumption) | assumption)
              obtain ⟨ad334, e334, hx334_0⟩ := Kd.at_int HR0.out (ji22) p334 q334
              have hw334_0 := hx334_0
              obtain rfl : ad327 = ad334 := (by injection e334)
              replace hx334_0 := (HB.out.cell (World.block_lt_of_cell? w _ hx334_0)).trans hx334_0
              replace p334 := eq_true p334
              replace q334 := eq_true q334
              have p335 : 0 ≤ ((ji25) : Int) := of_decide_eq_true (by first | (with_reducible assumption) | assumption)
              have q335 : (ji25) < (l0.length : Int) := of_decide_eq_true (by first | (with_reducible assumption) | assumption)
              obtain ⟨ad335, e335, hx335_0⟩ := Kd.at_int HR0.out (ji25) p335 q335
              have hw335_0 := hx335_0
              obtain rfl : ad327 = ad335 := (by injection e335)
              replace hx335_0 := (HB.out.cell (World.block_lt_of_cell? w _ hx335_0)).trans hx335_0
              replace p335 := eq_true p335
              replace q335 := eq_true q335
              refine start_ (n := 13) (S := fun w' => w'.cell? (ad327.add ((ji22)).toNat) = some (.int .u8 (rd l0 (ji22))) ∧ w'.cell? (ad327.add ((ji25)).toNat) = some (.int .u8 (rd l0 (ji25)))) (ds := []) #[false, false, false, false, false, false, false, false, false, false, false, false, false] (by kernel_rfl) rfl rfl ⟨((HB.out.cell (World.block_lt_of_cell? w _ hw334_0)).trans hw334_0), ((HB.out.cell (World.block_lt_of_cell? w _ hw335_0)).trans hw335_0)⟩ (fun hHeld => ?_); refine with_tabW pfor_read.tab8 pfor_read.bits8 (fun HT_ HW_ => ?_)
              generalize wc.drew = w29 at HB hx334_0 hx335_0 hHeld ⊢
              refine pure_ (i := 0) (N := some 73) (v := ?_) (a' := ?_) #[tT,fF,fF,fF,fF,fF,fF,fF,fF,fF,fF,fF,fF] rfl rfl (any_of HT_.out (by kernel_rfl)) (fun _ _ _ h => h) (Or.inl ⟨by rfl, ?_⟩) ?_ ?_
              rotate_left
              ·intro w'
               go_simp
               with_reducible rfl
              rotate_left
              ·simp only [Act.put, List.setIfInBounds_toArray, List.set_cons_zero, List.set_cons_succ, i64_w, i32_w]
               rfl
              refine pure_ (i := 1) (N := some 74) (v := ?_) (a' := ?_) #[tT,tT,fF,fF,fF,fF,fF,fF,fF,fF,fF,fF,fF] rfl rfl (any_of HT_.out (by kernel_rfl)) (fun _ _ _ h => h) (Or.inl ⟨by rfl, ?_⟩) ?_ ?_
              rotate_left
              ·intro w'
               go_simp
               with_reducible rfl
              rotate_left
              ·simp only [Act.put, List.setIfInBounds_toArray, List.set_cons_zero, List.set_cons_succ, i64_w, i32_w]
               rfl
              refine pure_ (i := 2) (N := some 75) (v := ?_) (a' := ?_) #[tT,tT,tT,fF,fF,fF,fF,fF,fF,fF,fF,fF,fF] rfl rfl (any_of HT_.out (by kernel_rfl)) (fun _ _ _ h => h) (Or.inl ⟨by rfl, ?_⟩) ?_ ?_
              rotate_left
              ·intro w'
               go_simp
               with_reducible rfl
              rotate_left
              ·simp only [Act.put, List.setIfInBounds_toArray, List.set_cons_zero, List.set_cons_succ, i64_w, i32_w]
               rfl
              refine pure_ (i := 5) (N := some 78) (v := ?_) (a' := ?_) #[tT,tT,tT,fF,fF,tT,fF,fF,fF,fF,fF,fF,fF] rfl rfl (any_of HT_.out (by kernel_rfl)) (fun _ _ _ h => h) (Or.inl ⟨by rfl, ?_⟩) ?_ ?_
              rotate_left
              ·intro w'
               go_simp
               with_reducible rfl
              rotate_left
              ·simp only [Act.put, List.setIfInBounds_toArray, List.set_cons_zero, List.set_cons_succ, i64_w, i32_w]
               rfl
              refine pure_ (i := 6) (N := some 79) (v := ?_) (a' := ?_) #[tT,tT,tT,fF,fF,tT,tT,fF,fF,fF,fF,fF,fF] rfl rfl (any_of HT_.out (by kernel_rfl)) (fun _ _ _ h => h) (Or.inl ⟨by rfl, ?_⟩) ?_ ?_
              rotate_left
              ·intro w'
               go_simp
               with_reducible rfl
              rotate_left
              ·simp only [Act.put, List.setIfInBounds_toArray, List.set_cons_zero, List.set_cons_succ, i64_w, i32_w]
               rfl
              refine pure_ (i := 7) (N := some 80) (v := ?_) (a' := ?_) #[tT,tT,tT,fF,fF,tT,tT,tT,fF,fF,fF,fF,fF] rfl rfl (any_of HT_.out (by kernel_rfl)) (fun _ _ _ h => h) (Or.inl ⟨by rfl, ?_⟩) ?_ ?_
              rotate_left
              ·intro w'
               go_simp
               with_reducible rfl
              rotate_left
              ·simp only [Act.put, List.setIfInBounds_toArray, List.set_cons_zero, List.set_cons_succ, i64_w, i32_w]
               rfl
              refine pure_ (i := 8) (N := some 81) (v := ?_) (a' := ?_) #[tT,tT,tT,fF,fF,tT,tT,tT,tT,fF,fF,fF,fF] rfl rfl (any_of HT_.out (by kernel_rfl)) (fun _ _ _ h => h) (Or.inl ⟨by rfl, ?_⟩) ?_ ?_
              rotate_left
              ·intro w'
               go_simp
               with_reducible rfl
              rotate_left
              ·simp only [Act.put, List.setIfInBounds_toArray, List.set_cons_zero, List.set_cons_succ, i64_w, i32_w]
               rfl
              refine take_ (i := 3) (N := some 76) (v := ?_) (a' := ?_) #[tT,tT,tT,tT,fF,tT,tT,tT,tT,fF,fF,fF,fF] rfl rfl (take_ofW HT_.out HW_.out (by kernel_rfl)) (fun _ _ _ h => h) (Or.inl ⟨by rfl, ?_⟩) hHeld ?_ ?_
              rotate_left
              ·rintro w' ⟨s0, s1⟩
               go_simp
               with_reducible rfl
              rotate_left
              ·simp only [Act.put, List.setIfInBounds_toArray, List.set_cons_zero, List.set_cons_succ, i64_w, i32_w]
               rfl
              refine pure_ (i := 4) (N := some 77) (v := ?_) (a' := ?_) #[tT,tT,tT,tT,tT,tT,tT,tT,tT,fF,fF,fF,fF] rfl rfl (any_of HT_.out (by kernel_rfl)) (fun _ _ _ h => h) (Or.inl ⟨by rfl, ?_⟩) ?_ ?_
              rotate_left
              ·intro w'
               go_simp
               with_reducible rfl
              rotate_left
              ·simp only [Act.put, List.setIfInBounds_toArray, List.set_cons_zero, List.set_cons_succ, i64_w, i32_w]
               rfl
              refine pure_ (i := 11) (N := some 10) (v := ?_) (a' := ?_) #[tT,tT,tT,tT,tT,tT,tT,tT,tT,fF,fF,tT,fF] rfl rfl (any_of HT_.out (by kernel_rfl)) (fun _ _ _ h => h) (Or.inl ⟨by rfl, ?_⟩) ?_ ?_
              rotate_left
              ·intro w'
               go_simp
               with_reducible rfl
              rotate_left
              ·simp only [Act.put, List.setIfInBounds_toArray, List.set_cons_zero, List.set_cons_succ, i64_w, i32_w]
               rfl
              refine take_ (i := 9) (N := some 82) (v := ?_) (a' := ?_) #[tT,tT,tT,tT,tT,tT,tT,tT,tT,tT,fF,tT,fF] rfl rfl (take_ofW HT_.out HW_.out (by kernel_rfl)) (fun _ _ _ h => h) (Or.inl ⟨by rfl, ?_⟩) hHeld ?_ ?_
              rotate_left
              ·rintro w' ⟨s0, s1⟩
               go_simp
               with_reducible rfl
              rotate_left
              ·simp only [Act.put, List.setIfInBounds_toArray, List.set_cons_zero, List.set_cons_succ, i64_w, i32_w]
               rfl
              refine pure_ (i := 10) (N := some 83) (v := ?_) (a' := ?_) #[tT,tT,tT,tT,tT,tT,tT,tT,tT,tT,tT,tT,fF] rfl rfl (any_of HT_.out (by kernel_rfl)) (fun _ _ _ h => h) (Or.inl ⟨by rfl, ?_⟩) ?_ ?_
              rotate_left
              ·intro w'
               go_simp
               with_reducible rfl
              rotate_left
              ·simp only [Act.put, List.setIfInBounds_toArray, List.set_cons_zero, List.set_cons_succ, i64_w, i32_w]
               rfl
              refine pure_ (i := 12) (N := some 11) (v := ?_) (a' := ?_) #[tT,tT,tT,tT,tT,tT,tT,tT,tT,tT,tT,tT,tT] rfl rfl (any_of HT_.out (by kernel_rfl)) (fun _ _ _ h => h) (Or.inl ⟨by rfl, ?_⟩) ?_ ?_
              rotate_left
              ·intro w'
               go_simp
               with_reducible rfl
              rotate_left
              ·simp only [Act.put, List.setIfInBounds_toArray, List.set_cons_zero, List.set_cons_succ, i64_w, i32_w]
               rfl
              refine done_ (done_of HT_.out (by kernel_rfl)) ?_
              try go_wp2
              go_ret3
              exact ⟨_, by first | rfl | (simp [eWn_, eWs_] <;> rfl) | (simp only [← hji22, ← hji25]; first | rfl | (simp [eWn_, eWs_] <;> rfl)) | (simp [*, eWn_, eWs_] <;> rfl), by first | exact Kd.R_nil _ _ _ _ _ | exact Kd.N_nil _ _ _ _ _ | exact Kd.V_nil _ _ _ _ _ | exact Kd.Q_nil _ _ _ _ _ | exact Kd.S_nil _ _ _ _ _, by repeat (first | (with_reducible first | exact HB.out | apply pbA_ | apply pbN_ | apply pb1_) | exact HB.out)⟩
             ·rw [if_neg c28] at H
              have c28b0 : decide ((l0.length : Int) < (wrap64 ((wrap64 ((ji22) + 2)) + (wrap64 (Int.tdiv (wrap64 ((wrap64 ((wrap64 (rd l0 0)) * (wrap64 (rd l0 (ji22))))) + 7)) 8))))) = false := decide_eq_false c28
              clear c28
              obtain ⟨ji30, hji30⟩ : ∃ j_ : Int, (wrap64 ((ji22) + 2)) = j_ := ⟨_, rfl⟩
              replace H : (if 0 ≤ (ji30) then (if (ji30) ≤ (wrap64 ((ji30) + (wrap64 (Int.tdiv (wrap64 ((wrap64 ((wrap64 (rd l0 0)) * (wrap64 (rd l0 (ji22))))) + 7)) 8)))) then (if (wrap64 ((ji30) + (wrap64 (Int.tdiv (wrap64 ((wrap64 ((wrap64 (rd l0 0)) * (wrap64 (rd l0 (ji22))))) + 7)) 8)))) ≤ (l0.length : Int) then ((bits_Unpack.f kj9 ((l0.take ((wrap64 ((ji30) + (wrap64 (Int.tdiv (wrap64 ((wrap64 ((wrap64 (rd l0 0)) * (wrap64 (rd l0 (ji22))))) + 7)) 8)))) : Int).toNat).drop ((ji30) : Int).toNat) (wrap64 (rd l0 0)) (wrap64 (rd l0 (ji22)))).bind fun bt337 => (if bt337.2 = 0 then (pfor_read.l0 kj9 l0 (wrap64 (rd l0 0)) t329 (wrap64 ((ji30) + (wrap64 (Int.tdiv (wrap64 ((wrap64 ((wrap64 (rd l0 0)) * (wrap64 (rd l0 (ji22))))) + 7)) 8)))) (wrap64 (rd l0 (ji22))) (wrap64 (rd l0 (ji25))) bt337.1) else (some (([] : List Int), 0, false)))) else (none)) else (none)) else (none)) = some (r1, r2, r3) := by first | (rw [hji30] at H; exact H) | (simp only [hji30] at H ⊢; exact H)
              (try rw [hji30] at c28b0)
              have hji30w : (IntKind.i64.wrap ((ji22) + 2)) = ji30 := (i64_w _).trans hji30
              by_cases c31 : 0 ≤ (ji30)
              ·rw [if_pos c31] at H
               have c31b0 := eq_true c31
               have c31b1 : decide (0 ≤ (ji30)) = true := decide_eq_true c31
               clear c31
               by_cases c32 : (ji30) ≤ (wrap64 ((ji30) + (wrap64 (Int.tdiv (wrap64 ((wrap64 ((wrap64 (rd l0 0)) * (wrap64 (rd l0 (ji22))))) + 7)) 8))))
               ·rw [if_pos c32] at H
                have c32b0 := eq_true c32
                have c32b1 : decide ((ji30) ≤ (wrap64 ((ji30) + (wrap64 (Int.tdiv (wrap64 ((wrap64 ((wrap64 (rd l0 0)) * (wrap64 (rd l0 (ji22))))) + 7)) 8))))) = true := decide_eq_true c32
                by_cases c33 : (wrap64 ((ji30) + (wrap64 (Int.tdiv (wrap64 ((wrap64 ((wrap64 (rd l0 0)) * (wrap64 (rd l0 (ji22))))) + 7)) 8)))) ≤ (l0.length : Int)
                ·rw [if_pos c33] at H
                 have c33b0 := eq_true c33
                 have c33b1 : decide ((wrap64 ((ji30) + (wrap64 (Int.tdiv (wrap64 ((wrap64 ((wrap64 (rd l0 0)) * (wrap64 (rd l0 (ji22))))) + 7)) 8)))) ≤ (l0.length : Int)) = true := decide_eq_true c33
                 replace H := Option.bind_eq_some_iff.mp H
                 obtain ⟨⟨t337, t338⟩, A340, H⟩ := H
                 replace H : (if t338 = 0 then (pfor_read.l0 kj9 l0 (wrap64 (rd l0 0)) t329 (wrap64 ((ji30) + (wrap64 (Int.tdiv (wrap64 ((wrap64 ((wrap64 (rd l0 0)) * (wrap64 (rd l0 (ji22))))) + 7)) 8)))) (wrap64 (rd l0 (ji22))) (wrap64 (rd l0 (ji25))) t337) else (some (([] : List Int), 0, false))) = some (r1, r2, r3) := H
                 have A34 := Aside0.mk A340
                 clear A340
                 by_cases c35 : t338 = 0
                 ·rw [if_pos c35] at H
                  have c35b0 : (t338 == 0) = true := beq_iff_eq.mpr c35
                  have c35b1 : (t338 != 0) = false := bne_eq_false_iff_eq.mpr c35
                  clear c35
                  have H' := Aside0.mk H
                  clear H
                  try go_wp2
                  (try (rw [drewN_self wc]; generalize hq_ : World.drewN wc _ = wc; have n0_ : Aside0 (Below w.heap.size w wc) := ⟨by rw [← hq_]; exact (by repeat (first | (with_reducible first | exact HB.out | apply pbA_ | apply pbN_ | apply pb1_) | exact HB.out))⟩; clear HB hq_; have HB := n0_; clear n0_))
                  have n0_ := Aside0.mk (pb1_ HB.out)
                  clear HB
                  have HB := n0_
                  clear n0_
                  have p334 : 0 ≤ ((ji22) : Int) := of_decide_eq_true (by first | (with_reducible assumption) | assumption)
                  have q334 : (ji22) < (l0.length : Int) := of_decide_eq_true (by first | (with_reducible assumption) | assumption)
                  obtain ⟨ad334, e334, hx334_0⟩ := Kd.at_int HR0.out (ji22) p334 q334
                  have hw334_0 := hx334_0
                  obtain rfl : ad327 = ad334 := (by injection e334)
                  replace hx334_0 := (HB.out.cell (World.block_lt_of_cell? w _ hx334_0)).trans hx334_0
                  replace p334 := eq_true p334
                  replace q334 := eq_true q334
                  have p335 : 0 ≤ ((ji25) : Int) := of_decide_eq_true (by first | (with_reducible assumption) | assumption)
                  have q335 : (ji25) < (l0.length : Int) := of_decide_eq_true (by first | (with_reducible assumption) | assumption)
                  obtain ⟨ad335, e335, hx335_0⟩ := Kd.at_int HR0.out (ji25) p335 q335
                  have hw335_0 := hx335_0
                  obtain rfl : ad327 = ad335 := (by injection e335)
                  replace hx335_0 := (HB.out.cell (World.block_lt_of_cell? w _ hx335_0)).trans hx335_0
                  replace p335 := eq_true p335
                  replace q335 := eq_true q335
                  refine start_ (n := 13) (S := fun w' => w'.cell? (ad327.add ((ji22)).toNat) = some (.int .u8 (rd l0 (ji22))) ∧ w'.cell? (ad327.add ((ji25)).toNat) = some (.int .u8 (rd l0 (ji25)))) (ds := []) #[false, false, false, false, false, false, false, false, false, false, false, false, false] (by kernel_rfl) rfl rfl ⟨((HB.out.cell (World.block_lt_of_cell? w _ hw334_0)).trans hw334_0), ((HB.out.cell (World.block_lt_of_cell? w _ hw335_0)).trans hw335_0)⟩ (fun hHeld => ?_); refine with_tabW pfor_read.tab8 pfor_read.bits8 (fun HT_ HW_ => ?_)
                  generalize wc.drew = w36 at HB hx334_0 hx335_0 hHeld ⊢
                  refine pure_ (i := 0) (N := some 73) (v := ?_) (a' := ?_) #[tT,fF,fF,fF,fF,fF,fF,fF,fF,fF,fF,fF,fF] rfl rfl (any_of HT_.out (by kernel_rfl)) (fun _ _ _ h => h) (Or.inl ⟨by rfl, ?_⟩) ?_ ?_
                  rotate_left
                  ·intro w'
                   go_simp
                   with_reducible rfl
                  rotate_left
                  ·simp only [Act.put, List.setIfInBounds_toArray, List.set_cons_zero, List.set_cons_succ, i64_w, i32_w]
                   rfl
                  refine pure_ (i := 1) (N := some 74) (v := ?_) (a' := ?_) #[tT,tT,fF,fF,fF,fF,fF,fF,fF,fF,fF,fF,fF] rfl rfl (any_of HT_.out (by kernel_rfl)) (fun _ _ _ h => h) (Or.inl ⟨by rfl, ?_⟩) ?_ ?_
                  rotate_left
                  ·intro w'
                   go_simp
                   with_reducible rfl
                  rotate_left
                  ·simp only [Act.put, List.setIfInBounds_toArray, List.set_cons_zero, List.set_cons_succ, i64_w, i32_w]
                   rfl
                  refine pure_ (i := 2) (N := some 75) (v := ?_) (a' := ?_) #[tT,tT,tT,fF,fF,fF,fF,fF,fF,fF,fF,fF,fF] rfl rfl (any_of HT_.out (by kernel_rfl)) (fun _ _ _ h => h) (Or.inl ⟨by rfl, ?_⟩) ?_ ?_
                  rotate_left
                  ·intro w'
                   go_simp
                   with_reducible rfl
                  rotate_left
                  ·simp only [Act.put, List.setIfInBounds_toArray, List.set_cons_zero, List.set_cons_succ, i64_w, i32_w]
                   rfl
                  refine pure_ (i := 5) (N := some 78) (v := ?_) (a' := ?_) #[tT,tT,tT,fF,fF,tT,fF,fF,fF,fF,fF,fF,fF] rfl rfl (any_of HT_.out (by kernel_rfl)) (fun _ _ _ h => h) (Or.inl ⟨by rfl, ?_⟩) ?_ ?_
                  rotate_left
                  ·intro w'
                   go_simp
                   with_reducible rfl
                  rotate_left
                  ·simp only [Act.put, List.setIfInBounds_toArray, List.set_cons_zero, List.set_cons_succ, i64_w, i32_w]
                   rfl
                  refine pure_ (i := 6) (N := some 79) (v := ?_) (a' := ?_) #[tT,tT,tT,fF,fF,tT,tT,fF,fF,fF,fF,fF,fF] rfl rfl (any_of HT_.out (by kernel_rfl)) (fun _ _ _ h => h) (Or.inl ⟨by rfl, ?_⟩) ?_ ?_
                  rotate_left
                  ·intro w'
                   go_simp
                   with_reducible rfl
                  rotate_left
                  ·simp only [Act.put, List.setIfInBounds_toArray, List.set_cons_zero, List.set_cons_succ, i64_w, i32_w]
                   rfl
                  refine pure_ (i := 7) (N := some 80) (v := ?_) (a' := ?_) #[tT,tT,tT,fF,fF,tT,tT,tT,fF,fF,fF,fF,fF] rfl rfl (any_of HT_.out (by kernel_rfl)) (fun _ _ _ h => h) (Or.inl ⟨by rfl, ?_⟩) ?_ ?_
                  rotate_left
                  ·intro w'
                   go_simp
                   with_reducible rfl
                  rotate_left
                  ·simp only [Act.put, List.setIfInBounds_toArray, List.set_cons_zero, List.set_cons_succ, i64_w, i32_w]
                   rfl
                  refine pure_ (i := 8) (N := some 81) (v := ?_) (a' := ?_) #[tT,tT,tT,fF,fF,tT,tT,tT,tT,fF,fF,fF,fF] rfl rfl (any_of HT_.out (by kernel_rfl)) (fun _ _ _ h => h) (Or.inl ⟨by rfl, ?_⟩) ?_ ?_
                  rotate_left
                  ·intro w'
                   go_simp
                   with_reducible rfl
                  rotate_left
                  ·simp only [Act.put, List.setIfInBounds_toArray, List.set_cons_zero, List.set_cons_succ, i64_w, i32_w]
                   rfl
                  refine take_ (i := 3) (N := some 76) (v := ?_) (a' := ?_) #[tT,tT,tT,tT,fF,tT,tT,tT,tT,fF,fF,fF,fF] rfl rfl (take_ofW HT_.out HW_.out (by kernel_rfl)) (fun _ _ _ h => h) (Or.inl ⟨by rfl, ?_⟩) hHeld ?_ ?_
                  rotate_left
                  ·rintro w' ⟨s0, s1⟩
                   go_simp
                   with_reducible rfl
                  rotate_left
                  ·simp only [Act.put, List.setIfInBounds_toArray, List.set_cons_zero, List.set_cons_succ, i64_w, i32_w]
                   rfl
                  refine pure_ (i := 4) (N := some 77) (v := ?_) (a' := ?_) #[tT,tT,tT,tT,tT,tT,tT,tT,tT,fF,fF,fF,fF] rfl rfl (any_of HT_.out (by kernel_rfl)) (fun _ _ _ h => h) (Or.inl ⟨by rfl, ?_⟩) ?_ ?_
                  rotate_left
                  ·intro w'
                   go_simp
                   with_reducible rfl
                  rotate_left
                  ·simp only [Act.put, List.setIfInBounds_toArray, List.set_cons_zero, List.set_cons_succ, i64_w, i32_w]
                   rfl
                  refine pure_ (i := 11) (N := some 10) (v := ?_) (a' := ?_) #[tT,tT,tT,tT,tT,tT,tT,tT,tT,fF,fF,tT,fF] rfl rfl (any_of HT_.out (by kernel_rfl)) (fun _ _ _ h => h) (Or.inl ⟨by rfl, ?_⟩) ?_ ?_
                  rotate_left
                  ·intro w'
                   go_simp
                   with_reducible rfl
                  rotate_left
                  ·simp only [Act.put, List.setIfInBounds_toArray, List.set_cons_zero, List.set_cons_succ, i64_w, i32_w]
                   rfl
                  refine take_ (i := 9) (N := some 82) (v := ?_) (a' := ?_) #[tT,tT,tT,tT,tT,tT,tT,tT,tT,tT,fF,tT,fF] rfl rfl (take_ofW HT_.out HW_.out (by kernel_rfl)) (fun _ _ _ h => h) (Or.inl ⟨by rfl, ?_⟩) hHeld ?_ ?_
                  rotate_left
                  ·rintro w' ⟨s0, s1⟩
                   go_simp
                   with_reducible rfl
                  rotate_left
                  ·simp only [Act.put, List.setIfInBounds_toArray, List.set_cons_zero, List.set_cons_succ, i64_w, i32_w]
                   rfl
                  refine pure_ (i := 10) (N := some 83) (v := ?_) (a' := ?_) #[tT,tT,tT,tT,tT,tT,tT,tT,tT,tT,tT,tT,fF] rfl rfl (any_of HT_.out (by kernel_rfl)) (fun _ _ _ h => h) (Or.inl ⟨by rfl, ?_⟩) ?_ ?_
                  rotate_left
                  ·intro w'
                   go_simp
                   with_reducible rfl
                  rotate_left
                  ·simp only [Act.put, List.setIfInBounds_toArray, List.set_cons_zero, List.set_cons_succ, i64_w, i32_w]
                   rfl
                  refine pure_ (i := 12) (N := some 11) (v := ?_) (a' := ?_) #[tT,tT,tT,tT,tT,tT,tT,tT,tT,tT,tT,tT,tT] rfl rfl (any_of HT_.out (by kernel_rfl)) (fun _ _ _ h => h) (Or.inl ⟨by rfl, ?_⟩) ?_ ?_
                  rotate_left
                  ·intro w'
                   go_simp
                   with_reducible rfl
                  rotate_left
                  ·simp only [Act.put, List.setIfInBounds_toArray, List.set_cons_zero, List.set_cons_succ, i64_w, i32_w]
                   rfl
                  refine done_ (done_of HT_.out (by kernel_rfl)) ?_
                  obtain ⟨i037, hi037, _, hsz37, _⟩ := info_parts info5
                  obtain ⟨A37, hcut37, hA37, hC37⟩ := print_mid_of (P := Try.prog) (Value.int .u8) 0 22 5 .i64 .i64 Try.underlying22 hi037 hsz37 (some ad327) c0 l0 (ji30) (wrap64 ((ji30) + (wrap64 (Int.tdiv (wrap64 ((wrap64 ((wrap64 (rd l0 0)) * (wrap64 (rd l0 (ji22))))) + 7)) 8)))) (of_decide_eq_true (by first | (with_reducible assumption) | assumption)) (by first | omega | exact of_decide_eq_true (by first | (with_reducible assumption) | assumption)) (of_decide_eq_true (by first | (with_reducible assumption) | assumption)) HC0.out
                  have HR336 := Aside0.mk (Kd.C_of_reads (h1 := fun _ => rfl) (hA37 _ (Kd.reads_of_C HR0.out)))
                  have HC336 := Aside0.mk hC37
                  clear hA37 hC37 hi037 hsz37
                  try go_wp2_with (first | ((with_reducible refine gaC_ (f := 54) rfl ?_); refine goesL_ (some 104) rfl rfl Try.func54 (by kernel_rfl) rfl #[.slice A37 ((l0.take ((wrap64 ((ji30) + (wrap64 (Int.tdiv (wrap64 ((wrap64 ((wrap64 (rd l0 0)) * (wrap64 (rd l0 (ji22))))) + 7)) 8)))) : Int).toNat).drop ((ji30) : Int).toNat).length (c0 - (ji30).toNat), .int .i64 (wrap64 (rd l0 0)), .int .i64 (wrap64 (rd l0 (ji22)))] rfl (by (try simp only [List.map_toArray, List.map_cons, List.map_nil]); first | done | (rw [show ((l0.take ((wrap64 ((ji30) + (wrap64 (Int.tdiv (wrap64 ((wrap64 ((wrap64 (rd l0 0)) * (wrap64 (rd l0 (ji22))))) + 7)) 8)))) : Int).toNat).drop ((ji30) : Int).toNat).length = ((wrap64 ((ji30) + (wrap64 (Int.tdiv (wrap64 ((wrap64 ((wrap64 (rd l0 0)) * (wrap64 (rd l0 (ji22))))) + 7)) 8)))).toNat - (ji30).toNat) from (by rw [List.length_drop, List.length_take]; have h_ : ((wrap64 ((ji30) + (wrap64 (Int.tdiv (wrap64 ((wrap64 ((wrap64 (rd l0 0)) * (wrap64 (rd l0 (ji22))))) + 7)) 8)))) : Int) ≤ (l0.length : Int) := of_decide_eq_true (by first | (with_reducible assumption) | assumption); omega)] <;> rfl) | (simp only [hji22, hji30]; rfl) | rfl | (simp only [List.length_drop, List.length_take]; rfl)) ?_; (with_reducible refine (bits_Unpack.calls kj9 _ _ ((l0.take ((wrap64 ((ji30) + (wrap64 (Int.tdiv (wrap64 ((wrap64 ((wrap64 (rd l0 0)) * (wrap64 (rd l0 (ji22))))) + 7)) 8)))) : Int).toNat).drop ((ji30) : Int).toNat) (wrap64 (rd l0 0)) (wrap64 (rd l0 (ji22))) t337 t338 _ ?side1 ?side2 A34.out).mono ?_); (case side1 => repeat (first | exact (Kd.C_below HR336.out HB.out) | (with_reducible refine Kd.cA_ ?_ _) | (with_reducible refine Kd.cN_ ?_ _) | (with_reducible refine Kd.cD_ ?_))); (case side2 => exact HC336.out); rintro e w38 ⟨v339, rfl, ho0, hb⟩; refine ⟨_, rfl, ?_⟩; have n0_ := Aside0.mk (Kd.R_lower ho0 (pbS_ (by repeat (first | (with_reducible first | exact HB.out | apply pbA_ | apply pbN_ | apply pb1_) | exact HB.out)))); have n1_ := Aside0.mk (below_step (by repeat (first | (with_reducible first | exact HB.out | apply pbA_ | apply pbN_ | apply pb1_) | exact HB.out)) hb); clear HB; have HO340 := n0_; have HB := n1_; clear n0_ n1_; (try clear hb); (try clear hb2); (try clear hk); (try clear hi); (try clear ho0)))
                  go_loopg [9, 11] kj9 (fun kq v9 v11 w' => ∃ (x9_3 : Int) (x11_3 : Int) (x13_3 : List Int), v9 = .int .i64 x9_3 ∧ v11 = .int .i64 x11_3 ∧ Aside0 (pfor_read.l0 kq l0 (wrap64 (rd l0 0)) t329 x9_3 (wrap64 (rd l0 (ji22))) x11_3 x13_3 = some (r1, r2, r3)) ∧ Aside0 (kq ≤ kj9) ∧ Aside0 (Kd.R (Kd.int .u64) 50 w' w.heap.size (fun _ => True) v339 x13_3) ∧ Aside0 (Below w.heap.size w w'))
                  case atStart => exact ⟨(wrap64 ((ji30) + (wrap64 (Int.tdiv (wrap64 ((wrap64 ((wrap64 (rd l0 0)) * (wrap64 (rd l0 (ji22))))) + 7)) 8)))), (wrap64 (rd l0 (ji25))), (t337), (by first | rfl | (simp; done) | (simp only [← hji22, ← hji30] <;> (first | rfl | simp)) | (simp [*]; done)), (by first | rfl | (simp; done) | (simp only [← hji25] <;> (first | rfl | simp)) | (simp [*]; done)), H', ⟨Nat.le_refl _⟩, ⟨by (with_reducible repeat (first | apply Kd.rA_ | apply Kd.rN_ | apply Kd.rD_)); exact HO340.out⟩, ⟨by repeat (first | (with_reducible first | exact HB.out | apply pbA_ | apply pbN_ | apply pb1_) | exact HB.out)⟩⟩
                  case round =>
                   clear H'
                   try clear c1
                   try clear c2
                   try clear p2
                   try clear c3
                   try clear c3b0
                   try clear c3b1
                   try clear p3
                   try clear q3
                   try clear hx3
                   try clear qi3
                   try clear c4
                   try clear c4b0
                   try clear c4b1
                   try clear c5
                   try clear c5b0
                   try clear c6
                   try clear p6
                   try clear c7
                   try clear c7b0
                   try clear c7b1
                   try clear c8
                   try clear c8b0
                   try clear c8b1
                   try clear c12
                   try clear c12b0
                   try clear c12b1
                   try clear c13
                   try clear c13b0
                   try clear c15
                   try clear c15b0
                   try clear c16
                   try clear c16b0
                   try clear c17
                   try clear c17b0
                   try clear c19
                   try clear c19b0
                   try clear c20
                   try clear c20b0
                   try clear c21
                   try clear c23
                   try clear c23b0
                   try clear c24
                   try clear c24b0
                   try clear c26
                   try clear c26b0
                   try clear c27
                   try clear c27b0
                   try clear c28
                   try clear c28b0
                   try clear c31
                   try clear c31b0
                   try clear c31b1
                   try clear c32
                   try clear c32b0
                   try clear c32b1
                   try clear p32
                   try clear q32
                   try clear hx32
                   try clear qi32
                   try clear c33
                   try clear c33b0
                   try clear c33b1
                   try clear p33
                   try clear q33
                   try clear hx33
                   try clear c35
                   try clear c35b0
                   try clear c35b1
                   try clear hx325_0
                   try clear hx326_0
                   try clear hx327_0
                   try clear hx332_0
                   try clear hx333_0
                   try clear hx334_0
                   try clear hx335_0
                   try clear p2
                   try clear p3
                   try clear p325
                   try clear p326
                   try clear p327
                   try clear p332
                   try clear p333
                   try clear p334
                   try clear p335
                   try clear p6
                   try clear q3
                   try clear q325
                   try clear q326
                   try clear q327
                   try clear q332
                   try clear q333
                   try clear q334
                   try clear q335
                   obtain ⟨x9_3, x11_3, x13_3, rfl, rfl, HA, HK3, HO_13, HB⟩ := hrel
                   cases gk with
                   | zero => exact absurd HA.out (by simp [pfor_read.l0])
                   | succ k3 =>
                    have H := HA.out
                    clear HA
                    simp only [pfor_read.l0] at H
                    by_cases c39 : x11_3 > 0
                    ·rw [if_pos c39] at H
                     have c39b0 : decide (0 < x11_3) = true := decide_eq_true c39
                     clear c39
                     have HC40 := Aside0.mk H
                     clear H
                     go_upto_region 19 with (fail)
                     go_cut [130] (fun v130 wc => ∃ (kq : Nat) (x130_39 : Bool), v130 = .bool x130_39 ∧ Aside0 (pfor_read.j3 kq l0 (wrap64 (rd l0 0)) t329 x9_3 (wrap64 (rd l0 (ji22))) x11_3 x13_3 x130_39 = some (r1, r2, r3)) ∧ Aside0 (kq ≤ k3) ∧ Aside0 (Kd.R (Kd.int .u64) 50 wc w.heap.size (fun _ => True) v339 x13_3) ∧ Aside0 (Below w.heap.size w wc))
                     case first =>
                      have H := HC40.out
                      clear HC40
                      by_cases c41 : x9_3 ≥ (l0.length : Int)
                      ·rw [if_pos c41] at H
                       have c41b0 : decide ((l0.length : Int) ≤ x9_3) = true := decide_eq_true c41
                       clear c41
                       (first | rw [c41b0] | (simp only [i64_w, i32_w]; rw [c41b0]) | skip)
                       have H' := Aside0.mk H
                       clear H
                       go_wp2
                       go_meet
                       case rel => exact ⟨_, (true), (by first | rfl | (simp; done) | (simp [*]; done)), H', ⟨by have := HJ1.out; have := HJ9.out; have := HK3.out; first | omega | exact Nat.le_refl _⟩, ⟨by (with_reducible repeat (first | apply Kd.rA_ | apply Kd.rN_ | apply Kd.rD_)); exact HO_13.out⟩, ⟨by repeat (first | (with_reducible first | exact HB.out | apply pbA_ | apply pbN_ | apply pb1_) | exact HB.out)⟩⟩
                      ·rw [if_neg c41] at H
                       have c41b0 : decide ((l0.length : Int) ≤ x9_3) = false := decide_eq_false c41
                       clear c41
                       (first | rw [c41b0] | (simp only [i64_w, i32_w]; rw [c41b0]) | skip)
                       by_cases c42 : 0 ≤ x9_3
                       ·rw [if_pos c42] at H
                        have c42b0 : decide (0 ≤ x9_3) = true := decide_eq_true c42
                        clear c42
                        by_cases c43 : x9_3 < (l0.length : Int)
                        ·rw [if_pos c43] at H
                         have c43b0 : decide (x9_3 < (l0.length : Int)) = true := decide_eq_true c43
                         clear c43
                         by_cases c44 : (wrap64 (rd l0 x9_3)) ≥ (wrap64 (rd l0 0))
                         ·rw [if_pos c44] at H
                          have c44b0 : decide ((wrap64 (rd l0 0)) ≤ (wrap64 (rd l0 x9_3))) = true := decide_eq_true c44
                          clear c44
                          have H' := Aside0.mk H
                          clear H
                          have p341 : 0 ≤ (x9_3 : Int) := of_decide_eq_true (by first | (with_reducible assumption) | assumption)
                          have q341 : x9_3 < (l0.length : Int) := of_decide_eq_true (by first | (with_reducible assumption) | assumption)
                          obtain ⟨ad341, e341, hx341_0⟩ := Kd.at_int HR0.out x9_3 p341 q341
                          obtain rfl : ad327 = ad341 := (by injection e341)
                          replace hx341_0 := (HB.out.cell (World.block_lt_of_cell? w _ hx341_0)).trans hx341_0
                          replace p341 := eq_true p341
                          replace q341 := eq_true q341
                          go_wp2
                          go_meet
                          case rel => exact ⟨_, (true), (by first | rfl | (simp; done) | (simp [*]; done)), H', ⟨by have := HJ1.out; have := HJ9.out; have := HK3.out; first | omega | exact Nat.le_refl _⟩, ⟨by (with_reducible repeat (first | apply Kd.rA_ | apply Kd.rN_ | apply Kd.rD_)); exact HO_13.out⟩, ⟨by repeat (first | (with_reducible first | exact HB.out | apply pbA_ | apply pbN_ | apply pb1_) | exact HB.out)⟩⟩
                         ·rw [if_neg c44] at H
                          have c44b0 : decide ((wrap64 (rd l0 0)) ≤ (wrap64 (rd l0 x9_3))) = false := decide_eq_false c44
                          clear c44
                          have H' := Aside0.mk H
                          clear H
                          have p341 : 0 ≤ (x9_3 : Int) := of_decide_eq_true (by first | (with_reducible assumption) | assumption)
                          have q341 : x9_3 < (l0.length : Int) := of_decide_eq_true (by first | (with_reducible assumption) | assumption)
                          obtain ⟨ad341, e341, hx341_0⟩ := Kd.at_int HR0.out x9_3 p341 q341
                          obtain rfl : ad327 = ad341 := (by injection e341)
                          replace hx341_0 := (HB.out.cell (World.block_lt_of_cell? w _ hx341_0)).trans hx341_0
                          replace p341 := eq_true p341
                          replace q341 := eq_true q341
                          go_wp2
                          go_meet
                          case rel => exact ⟨_, (((wrap64 (rd l0 (ji22))) == 64)), (by first | rfl | (simp; done) | (simp only [← hji22] <;> (first | rfl | simp)) | (simp [*]; done)), H', ⟨by have := HJ1.out; have := HJ9.out; have := HK3.out; first | omega | exact Nat.le_refl _⟩, ⟨by (with_reducible repeat (first | apply Kd.rA_ | apply Kd.rN_ | apply Kd.rD_)); exact HO_13.out⟩, ⟨by repeat (first | (with_reducible first | exact HB.out | apply pbA_ | apply pbN_ | apply pb1_) | exact HB.out)⟩⟩
                        ·rw [if_neg c43] at H
                         exact absurd H (by simp)
                       ·rw [if_neg c42] at H
                        exact absurd H (by simp)
                     case rest =>
                      clear HC40
                      try clear c1
                      try clear c2
                      try clear p2
                      try clear c3
                      try clear c3b0
                      try clear c3b1
                      try clear p3
                      try clear q3
                      try clear hx3
                      try clear qi3
                      try clear c4
                      try clear c4b0
                      try clear c4b1
                      try clear c5
                      try clear c5b0
                      try clear c6
                      try clear p6
                      try clear c7
                      try clear c7b0
                      try clear c7b1
                      try clear c8
                      try clear c8b0
                      try clear c8b1
                      try clear c12
                      try clear c12b0
                      try clear c12b1
                      try clear c13
                      try clear c13b0
                      try clear c15
                      try clear c15b0
                      try clear c16
                      try clear c16b0
                      try clear c17
                      try clear c17b0
                      try clear c19
                      try clear c19b0
                      try clear c20
                      try clear c20b0
                      try clear c21
                      try clear c23
                      try clear c23b0
                      try clear c24
                      try clear c24b0
                      try clear c26
                      try clear c26b0
                      try clear c27
                      try clear c27b0
                      try clear c28
                      try clear c28b0
                      try clear c31
                      try clear c31b0
                      try clear c31b1
                      try clear c32
                      try clear c32b0
                      try clear c32b1
                      try clear p32
                      try clear q32
                      try clear hx32
                      try clear qi32
                      try clear c33
                      try clear c33b0
                      try clear c33b1
                      try clear p33
                      try clear q33
                      try clear hx33
                      try clear p34
                      try clear q34
                      try clear hx34
                      try clear c35
                      try clear c35b0
                      try clear c35b1
                      try clear c39
                      try clear c39b0
                      try clear c41
                      try clear c41b0
                      try clear c42
                      try clear c42b0
                      try clear c43
                      try clear c43b0
                      try clear c44
                      try clear c44b0
                      try clear hx325_0
                      try clear hx326_0
                      try clear hx327_0
                      try clear hx332_0
                      try clear hx333_0
                      try clear hx334_0
                      try clear hx335_0
                      try clear hx341_0
                      try clear p2
                      try clear p3
                      try clear p32
                      try clear p325
                      try clear p326
                      try clear p327
                      try clear p33
                      try clear p332
                      try clear p333
                      try clear p334
                      try clear p335
                      try clear p341
                      try clear p6
                      try clear q3
                      try clear q32
                      try clear q325
                      try clear q326
                      try clear q327
                      try clear q33
                      try clear q332
                      try clear q333
                      try clear q334
                      try clear q335
                      try clear q341
                      obtain ⟨kq, x130_39, rfl, HA, HJ39, HO_13, HB⟩ := hcut
                      cases kq with
                      | zero => exact absurd HA.out (by simp [pfor_read.j3])
                      | succ kj39 =>
                       have H := HA.out
                       clear HA
                       simp only [pfor_read.j3] at H
                       by_cases c45 : x130_39 = true
                       ·subst c45
                        have H1 : (some (([] : List Int), 0, false)) = some (r1, r2, r3) := by rw [if_pos rfl] at H; exact H
                        clear H
                        have H := H1
                        clear H1
                        simp only [Option.some.injEq, Prod.mk.injEq] at H
                        obtain ⟨rfl, rfl, rfl⟩ := H
                        go_wp2
                        go_ret3
                        exact ⟨_, by first | rfl | (simp [eWn_, eWs_] <;> rfl) | (simp only [← hji22, ← hji25, ← hji30]; first | rfl | (simp [eWn_, eWs_] <;> rfl)) | (simp [*, eWn_, eWs_] <;> rfl), by first | exact Kd.R_nil _ _ _ _ _ | exact Kd.N_nil _ _ _ _ _ | exact Kd.V_nil _ _ _ _ _ | exact Kd.Q_nil _ _ _ _ _ | exact Kd.S_nil _ _ _ _ _, by repeat (first | (with_reducible first | exact HB.out | apply pbA_ | apply pbN_ | apply pb1_) | exact HB.out)⟩
                       ·replace c45 := Bool.eq_false_iff.mpr c45
                        subst c45
                        have H1 : (if 0 ≤ x9_3 then (if x9_3 < (l0.length : Int) then (if 0 ≤ (wrap64 (x9_3 + 1)) then (if (wrap64 (x9_3 + 1)) ≤ (l0.length : Int) then ((num_Take.f kj39 (l0.drop ((wrap64 (x9_3 + 1)) : Int).toNat)).bind fun bt344 => (if bt344.2.2 = 0 then (if 0 ≤ (wrap64 (rd l0 x9_3)) then (if (wrap64 (rd l0 x9_3)) < (x13_3.length : Int) then (if 0 ≤ (wrap64 (rd l0 (ji22))) then (pfor_read.l0 kj39 l0 (wrap64 (rd l0 0)) t329 (wrap64 (x9_3 + (wrap64 (1 + bt344.2.1)))) (wrap64 (rd l0 (ji22))) (wrap64 (x11_3 - 1)) (x13_3.set ((wrap64 (rd l0 x9_3)) : Int).toNat (IntKind.u64.wrap ((rd x13_3 (wrap64 (rd l0 x9_3))) + (shl .u64 bt344.1 (wrap64 (rd l0 (ji22)))))))) else (none)) else (none)) else (none)) else (some (([] : List Int), 0, false)))) else (none)) else (none)) else (none)) else (none)) = some (r1, r2, r3) := by rw [if_neg (show ¬ (false = true) by decide)] at H; exact H
                        clear H
                        have H := H1
                        clear H1
                        by_cases c46 : 0 ≤ x9_3
                        ·rw [if_pos c46] at H
                         have c46b0 : decide (0 ≤ x9_3) = true := decide_eq_true c46
                         clear c46
                         by_cases c47 : x9_3 < (l0.length : Int)
                         ·rw [if_pos c47] at H
                          have c47b0 : decide (x9_3 < (l0.length : Int)) = true := decide_eq_true c47
                          clear c47
                          obtain ⟨ji48, hji48⟩ : ∃ j_ : Int, (wrap64 (x9_3 + 1)) = j_ := ⟨_, rfl⟩
                          replace H : (if 0 ≤ (ji48) then (if (ji48) ≤ (l0.length : Int) then ((num_Take.f kj39 (l0.drop ((ji48) : Int).toNat)).bind fun bt344 => (if bt344.2.2 = 0 then (if 0 ≤ (wrap64 (rd l0 x9_3)) then (if (wrap64 (rd l0 x9_3)) < (x13_3.length : Int) then (if 0 ≤ (wrap64 (rd l0 (ji22))) then (pfor_read.l0 kj39 l0 (wrap64 (rd l0 0)) t329 (wrap64 (x9_3 + (wrap64 (1 + bt344.2.1)))) (wrap64 (rd l0 (ji22))) (wrap64 (x11_3 - 1)) (x13_3.set ((wrap64 (rd l0 x9_3)) : Int).toNat (IntKind.u64.wrap ((rd x13_3 (wrap64 (rd l0 x9_3))) + (shl .u64 bt344.1 (wrap64 (rd l0 (ji22)))))))) else (none)) else (none)) else (none)) else (some (([] : List Int), 0, false)))) else (none)) else (none)) = some (r1, r2, r3) := by first | (rw [hji48] at H; exact H) | (simp only [hji48] at H ⊢; exact H)
                          have hji48w : (IntKind.i64.wrap (x9_3 + 1)) = ji48 := (i64_w _).trans hji48
                          by_cases c49 : 0 ≤ (ji48)
                          ·rw [if_pos c49] at H
                           have c49b0 := eq_true c49
                           have c49b1 : decide (0 ≤ (ji48)) = true := decide_eq_true c49
                           clear c49
                           by_cases c50 : (ji48) ≤ (l0.length : Int)
                           ·rw [if_pos c50] at H
                            have c50b0 := eq_true c50
                            have c50b1 : decide ((ji48) ≤ (l0.length : Int)) = true := decide_eq_true c50
                            clear c50
                            replace H := Option.bind_eq_some_iff.mp H
                            obtain ⟨⟨t344, t345, t346⟩, A510, H⟩ := H
                            replace H : (if t346 = 0 then (if 0 ≤ (wrap64 (rd l0 x9_3)) then (if (wrap64 (rd l0 x9_3)) < (x13_3.length : Int) then (if 0 ≤ (wrap64 (rd l0 (ji22))) then (pfor_read.l0 kj39 l0 (wrap64 (rd l0 0)) t329 (wrap64 (x9_3 + (wrap64 (1 + t345)))) (wrap64 (rd l0 (ji22))) (wrap64 (x11_3 - 1)) (x13_3.set ((wrap64 (rd l0 x9_3)) : Int).toNat (IntKind.u64.wrap ((rd x13_3 (wrap64 (rd l0 x9_3))) + (shl .u64 t344 (wrap64 (rd l0 (ji22)))))))) else (none)) else (none)) else (none)) else (some (([] : List Int), 0, false))) = some (r1, r2, r3) := H
                            have A51 := Aside0.mk A510
                            clear A510
                            by_cases c52 : t346 = 0
                            ·rw [if_pos c52] at H
                             have c52b0 : (t346 == 0) = true := beq_iff_eq.mpr c52
                             have c52b1 : (t346 != 0) = false := bne_eq_false_iff_eq.mpr c52
                             clear c52
                             obtain ⟨ji53, hji53⟩ : ∃ j_ : Int, (wrap64 (rd l0 x9_3)) = j_ := ⟨_, rfl⟩
                             replace H : (if 0 ≤ (ji53) then (if (ji53) < (x13_3.length : Int) then (if 0 ≤ (wrap64 (rd l0 (ji22))) then (pfor_read.l0 kj39 l0 (wrap64 (rd l0 0)) t329 (wrap64 (x9_3 + (wrap64 (1 + t345)))) (wrap64 (rd l0 (ji22))) (wrap64 (x11_3 - 1)) (x13_3.set ((ji53) : Int).toNat (IntKind.u64.wrap ((rd x13_3 (ji53)) + (shl .u64 t344 (wrap64 (rd l0 (ji22)))))))) else (none)) else (none)) else (none)) = some (r1, r2, r3) := by first | (rw [hji53] at H; exact H) | (simp only [hji53] at H ⊢; exact H)
                             (try rw [hji53] at A51)
                             have hji53w : (IntKind.i64.wrap (rd l0 x9_3)) = ji53 := (i64_w _).trans hji53
                             by_cases c54 : 0 ≤ (ji53)
                             ·rw [if_pos c54] at H
                              have c54b0 : decide (0 ≤ (ji53)) = true := decide_eq_true c54
                              clear c54
                              by_cases c55 : (ji53) < (x13_3.length : Int)
                              ·rw [if_pos c55] at H
                               have c55b0 : decide ((ji53) < (x13_3.length : Int)) = true := decide_eq_true c55
                               clear c55
                               obtain ⟨ji56, hji56⟩ : ∃ j_ : Int, (wrap64 (rd l0 (ji22))) = j_ := ⟨_, rfl⟩
                               replace H : (if 0 ≤ (ji56) then (pfor_read.l0 kj39 l0 (wrap64 (rd l0 0)) t329 (wrap64 (x9_3 + (wrap64 (1 + t345)))) (ji56) (wrap64 (x11_3 - 1)) (x13_3.set ((ji53) : Int).toNat (IntKind.u64.wrap ((rd x13_3 (ji53)) + (shl .u64 t344 (ji56)))))) else (none)) = some (r1, r2, r3) := by first | (rw [hji56] at H; exact H) | (simp only [hji56] at H ⊢; exact H)
                               (try rw [hji56] at c28b0)
                               (try rw [hji56] at c32b0)
                               (try rw [hji56] at c32b1)
                               (try rw [hji56] at c32)
                               (try rw [hji56] at c33b0)
                               (try rw [hji56] at c33b1)
                               (try rw [hji56] at c33)
                               (try rw [hji56] at A51)
                               have hji56w : (IntKind.i64.wrap (rd l0 (ji22))) = ji56 := (i64_w _).trans hji56
                               by_cases c57 : 0 ≤ (ji56)
                               ·rw [if_pos c57] at H
                                have c57b0 := eq_true c57
                                have c57b1 : decide (0 ≤ (ji56)) = true := decide_eq_true c57
                                clear c57
                                obtain ⟨ji58, hji58⟩ : ∃ j_ : Int, (shl .u64 t344 (ji56)) = j_ := ⟨_, rfl⟩
                                replace H : (pfor_read.l0 kj39 l0 (wrap64 (rd l0 0)) t329 (wrap64 (x9_3 + (wrap64 (1 + t345)))) (ji56) (wrap64 (x11_3 - 1)) (x13_3.set ((ji53) : Int).toNat (IntKind.u64.wrap ((rd x13_3 (ji53)) + (ji58))))) = some (r1, r2, r3) := by first | (rw [hji58] at H; exact H) | (simp only [hji58] at H ⊢; exact H)
                                (try rw [hji58] at A51)
                                have hji58_ : (IntKind.u64.wrap (t344 * 2 ^ min (ji56).toNat 64)) = ji58 := hji58
                                have hji58z : (ji56) ≤ 64 → (IntKind.u64.wrap (t344 * 2 ^ (ji56).toNat)) = ji58 := shl_small hji58
                                obtain ⟨y348, hy348⟩ : ∃ y_ : List Int, y_ = (x13_3.set ((ji53) : Int).toNat (IntKind.u64.wrap ((rd x13_3 (ji53)) + (ji58)))) := ⟨_, rfl⟩
                                replace H : (pfor_read.l0 kj39 l0 (wrap64 (rd l0 0)) t329 (wrap64 (x9_3 + (wrap64 (1 + t345)))) (ji56) (wrap64 (x11_3 - 1)) y348) = some (r1, r2, r3) := by first | (rw [hy348]; with_reducible exact H) | (have H2_ := (Option.bind_some _ _).symm.trans H; rw [hy348]; with_reducible exact H2_) | (have H2_ := (Option.bind_some _ _).symm.trans H; with_reducible exact H2_) | with_reducible exact H | (rw [hy348]; exact H) | exact H
                                have Ny348 := Aside0.mk hy348
                                clear hy348
                                have H' := Aside0.mk H
                                clear H
                                have p342 : 0 ≤ (x9_3 : Int) := of_decide_eq_true (by first | (with_reducible assumption) | assumption)
                                have q342 : x9_3 < (l0.length : Int) := of_decide_eq_true (by first | (with_reducible assumption) | assumption)
                                obtain ⟨ad342, e342, hx342_0⟩ := Kd.at_int HR0.out x9_3 p342 q342
                                obtain rfl : ad327 = ad342 := (by injection e342)
                                replace hx342_0 := (HB.out.cell (World.block_lt_of_cell? w _ hx342_0)).trans hx342_0
                                replace p342 := eq_true p342
                                replace q342 := eq_true q342
                                obtain ⟨i060, hi060, _, hsz60, _⟩ := info_parts info5
                                obtain ⟨A60, hcut60, hA60, hC60⟩ := print_drop_of (P := Try.prog) (Value.int .u8) 0 22 5 .i64 Try.underlying22 hi060 hsz60 (some ad327) c0 l0 (ji48) (of_decide_eq_true (by first | (with_reducible assumption) | assumption)) (of_decide_eq_true (by first | (with_reducible assumption) | assumption)) HC0.out
                                have HR343 := Aside0.mk (Kd.C_of_reads (h1 := fun _ => rfl) (hA60 _ (Kd.reads_of_C HR0.out)))
                                have HC343 := Aside0.mk hC60
                                clear hA60 hC60 hi060 hsz60
                                try go_wp2_with (first | ((with_reducible refine gaC_ (f := 44) rfl ?_); refine goesL_ (some 141) rfl rfl Try.func44 (by kernel_rfl) rfl #[.slice A60 (l0.drop ((ji48) : Int).toNat).length (c0 - (ji48).toNat)] rfl (by (try simp only [List.map_toArray, List.map_cons, List.map_nil]); first | done | (rw [show (l0.drop ((ji48) : Int).toNat).length = (l0.length - (ji48).toNat) from List.length_drop] <;> rfl) | (simp only [hji48]; rfl) | rfl | (simp only [List.length_drop, List.length_take]; rfl)) ?_; (with_reducible refine (num_Take.calls kj39 _ _ (l0.drop ((ji48) : Int).toNat) t344 t345 t346 _ ?side1 ?side2 A51.out).mono ?_); (case side1 => repeat (first | exact (Kd.C_below HR343.out HB.out) | (with_reducible refine Kd.cA_ ?_ _) | (with_reducible refine Kd.cN_ ?_ _) | (with_reducible refine Kd.cD_ ?_))); (case side2 => exact HC343.out); rintro e w' ⟨rfl, ⟨nd, rfl⟩⟩; refine ⟨_, rfl, ?_⟩; (try (rw [drewN_self wc]; generalize hq_ : World.drewN wc _ = wc; have n0_ : Aside0 (Kd.R (Kd.int .u64) 50 wc w.heap.size (fun _ => True) v339 x13_3) := ⟨by rw [← hq_]; exact (by (with_reducible repeat (first | apply Kd.rA_ | apply Kd.rN_ | apply Kd.rD_)); exact HO_13.out)⟩; have n1_ : Aside0 (Below w.heap.size w wc) := ⟨by rw [← hq_]; exact (by repeat (first | (with_reducible first | exact HB.out | apply pbA_ | apply pbN_ | apply pb1_) | exact HB.out))⟩; clear HO_13 HB hq_; have HO_13 := n0_; have HB := n1_; clear n0_ n1_))))
                                (try (rw [drewN_self wc]; generalize hq_ : World.drewN wc _ = wc; have n0_ : Aside0 (Kd.R (Kd.int .u64) 50 wc w.heap.size (fun _ => True) v339 x13_3) := ⟨by rw [← hq_]; exact (by (with_reducible repeat (first | apply Kd.rA_ | apply Kd.rN_ | apply Kd.rD_)); exact HO_13.out)⟩; have n1_ : Aside0 (Below w.heap.size w wc) := ⟨by rw [← hq_]; exact (by repeat (first | (with_reducible first | exact HB.out | apply pbA_ | apply pbN_ | apply pb1_) | exact HB.out))⟩; clear HO_13 HB hq_; have HO_13 := n0_; have HB := n1_; clear n0_ n1_))
                                have n0_ := Aside0.mk (Kd.rD_ HO_13.out)
                                have n1_ := Aside0.mk (pb1_ HB.out)
                                clear HO_13
                                clear HB
                                have HO_13 := n0_
                                have HB := n1_
                                clear n0_ n1_
                                obtain ⟨Ao62, co62, eo62⟩ := Kd.R_slice HO_13.out
                                (first | subst eo62 | (injection eo62 with f1_ f2_ f3_; have f4_ := f1_.symm; have f5_ := f3_.symm; clear f1_ f2_ f3_; subst f4_; subst f5_))
                                have p347 : 0 ≤ ((ji53) : Int) := of_decide_eq_true (by first | (with_reducible assumption) | assumption)
                                have q347 : (ji53) < (x13_3.length : Int) := of_decide_eq_true (by first | (with_reducible assumption) | assumption)
                                obtain ⟨ad347, e347, hx347_0⟩ := Kd.at_int (Kd.R_reads' HO_13.out).2.2 (ji53) p347 q347
                                cases e347
                                replace p347 := eq_true p347
                                replace q347 := eq_true q347
                                have p59 : 0 ≤ ((ji53) : Int) := of_decide_eq_true (by first | (with_reducible assumption) | assumption)
                                have q59 : ((ji53) : Int) < ((x13_3.length : Int) : Int) := of_decide_eq_true (by first | (with_reducible assumption) | assumption)
                                obtain ⟨go59, co59, eo59, gb59, gl59, cl59, HG59⟩ := Kd.R_form HO_13.out (by omega)
                                (first | cases eo59 | (injection eo59 with ea_ en_ ec_; (first | subst ea_ | (injection ea_ with ea_; subst ea_)); subst ec_; clear en_))
                                have GB59 := Aside0.mk gb59
                                have GG59 := Aside0.mk HG59
                                clear gb59 gl59 HG59
                                (first | simp only [add_plain] at hx347_0 | skip)
                                obtain ⟨hx59_0, hf59_0⟩ := Kd.R_celln 0 HO_13.out ((ji53) : Int) p59 q59
                                replace p59 := eq_true p59
                                replace q59 := eq_true q59
                                have HP63 := Kd.R_putn HO_13.out ((ji53) : Int) (IntKind.u64.wrap ((rd x13_3 (ji53)) + (ji58)))
                                rw [← Ny348.out] at HP63
                                have HQ63 := Aside0.mk HP63
                                clear HP63
                                refine start_ (n := 10) (S := fun w' => w'.cell? ⟨go59, ((ji53)).toNat, none⟩ = some (.int .u64 (rd x13_3 (ji53)))) (ds := [9]) #[false, false, false, false, false, false, false, false, false, false] (by kernel_rfl) rfl rfl (hx347_0) (fun hHeld => ?_); refine with_tabW pfor_read.tab25 pfor_read.bits25 (fun HT_ HW_ => ?_)
                                generalize wc.drew = w61 at HO_13 HB GG59 HQ63 hf59_0 hx347_0 hx59_0 hHeld ⊢
                                refine pure_ (i := 0) (N := some 147) (v := ?_) (a' := ?_) #[tT,fF,fF,fF,fF,fF,fF,fF,fF,fF] rfl rfl (any_of HT_.out (by kernel_rfl)) (fun _ _ _ h => h) (Or.inl ⟨by rfl, ?_⟩) ?_ ?_
                                rotate_left
                                ·intro w'
                                 go_simp
                                 with_reducible rfl
                                rotate_left
                                ·simp only [Act.put, List.setIfInBounds_toArray, List.set_cons_zero, List.set_cons_succ, i64_w, i32_w]
                                 rfl
                                refine pure_ (i := 1) (N := some 148) (v := ?_) (a' := ?_) #[tT,tT,fF,fF,fF,fF,fF,fF,fF,fF] rfl rfl (any_of HT_.out (by kernel_rfl)) (fun _ _ _ h => h) (Or.inl ⟨by rfl, ?_⟩) ?_ ?_
                                rotate_left
                                ·intro w'
                                 go_simp
                                 with_reducible rfl
                                rotate_left
                                ·simp only [Act.put, List.setIfInBounds_toArray, List.set_cons_zero, List.set_cons_succ, i64_w, i32_w]
                                 rfl
                                refine pure_ (i := 2) (N := some 149) (v := ?_) (a' := ?_) #[tT,tT,tT,fF,fF,fF,fF,fF,fF,fF] rfl rfl (any_of HT_.out (by kernel_rfl)) (fun _ _ _ h => h) (Or.inl ⟨by rfl, ?_⟩) ?_ ?_
                                rotate_left
                                ·intro w'
                                 go_simp
                                 with_reducible rfl
                                rotate_left
                                ·simp only [Act.put, List.setIfInBounds_toArray, List.set_cons_zero, List.set_cons_succ, i64_w, i32_w]
                                 rfl
                                refine pure_ (i := 4) (N := some 151) (v := ?_) (a' := ?_) #[tT,tT,tT,fF,tT,fF,fF,fF,fF,fF] rfl rfl (any_of HT_.out (by kernel_rfl)) (fun _ _ _ h => h) (Or.inl ⟨by rfl, ?_⟩) ?_ ?_
                                rotate_left
                                ·intro w'
                                 go_simp
                                 with_reducible rfl
                                rotate_left
                                ·simp only [Act.put, List.setIfInBounds_toArray, List.set_cons_zero, List.set_cons_succ, i64_w, i32_w]
                                 rfl
                                refine pure_ (i := 5) (N := some 152) (v := ?_) (a' := ?_) #[tT,tT,tT,fF,tT,tT,fF,fF,fF,fF] rfl rfl (any_of HT_.out (by kernel_rfl)) (fun _ _ _ h => h) (Or.inl ⟨by rfl, ?_⟩) ?_ ?_
                                rotate_left
                                ·intro w'
                                 go_simp
                                 with_reducible rfl
                                rotate_left
                                ·simp only [Act.put, List.setIfInBounds_toArray, List.set_cons_zero, List.set_cons_succ, i64_w, i32_w]
                                 rfl
                                refine pure_ (i := 6) (N := some 153) (v := ?_) (a' := ?_) #[tT,tT,tT,fF,tT,tT,tT,fF,fF,fF] rfl rfl (any_of HT_.out (by kernel_rfl)) (fun _ _ _ h => h) (Or.inl ⟨by rfl, ?_⟩) ?_ ?_
                                rotate_left
                                ·intro w'
                                 go_simp
                                 with_reducible rfl
                                rotate_left
                                ·simp only [Act.put, List.setIfInBounds_toArray, List.set_cons_zero, List.set_cons_succ, i64_w, i32_w]
                                 rfl
                                refine take_ (i := 3) (N := some 150) (v := ?_) (a' := ?_) #[tT,tT,tT,tT,tT,tT,tT,fF,fF,fF] rfl rfl (take_ofW HT_.out HW_.out (by kernel_rfl)) (fun _ _ _ h => h) (Or.inl ⟨by rfl, ?_⟩) hHeld ?_ ?_
                                rotate_left
                                ·intro w' s0
                                 go_simp
                                 with_reducible rfl
                                rotate_left
                                ·simp only [Act.put, List.setIfInBounds_toArray, List.set_cons_zero, List.set_cons_succ, i64_w, i32_w]
                                 rfl
                                refine pure_ (i := 7) (N := some 154) (v := ?_) (a' := ?_) #[tT,tT,tT,tT,tT,tT,tT,tT,fF,fF] rfl rfl (any_of HT_.out (by kernel_rfl)) (fun _ _ _ h => h) (Or.inl ⟨by rfl, ?_⟩) ?_ ?_
                                rotate_left
                                ·intro w'
                                 go_simp
                                 with_reducible rfl
                                rotate_left
                                ·simp only [Act.put, List.setIfInBounds_toArray, List.set_cons_zero, List.set_cons_succ, i64_w, i32_w]
                                 rfl
                                refine pure_ (i := 8) (N := some 155) (v := ?_) (a' := ?_) #[tT,tT,tT,tT,tT,tT,tT,tT,tT,fF] rfl rfl (any_of HT_.out (by kernel_rfl)) (fun _ _ _ h => h) (Or.inl ⟨by rfl, ?_⟩) ?_ ?_
                                rotate_left
                                ·intro w'
                                 go_simp
                                 with_reducible rfl
                                rotate_left
                                ·simp only [Act.put, List.setIfInBounds_toArray, List.set_cons_zero, List.set_cons_succ, i64_w, i32_w]
                                 rfl
                                refine last_ (i := 9) (N := none) #[tT,tT,tT,tT,tT,tT,tT,tT,tT,tT] rfl rfl (one_of HT_.out (by kernel_rfl)) (by decide) (fun K hK => ?_)
                                refine skip_ (w1 := ?_) (by rfl) rfl ?_ ?_
                                rotate_left
                                ·go_simp
                                 rfl
                                refine hK.out _ _ ?_
                                clear hK K
                                refine done_ (done_of HT_.out (by kernel_rfl)) ?_
                                try go_wp2
                                (try subst hji58 hji56 hji53 hji48)
                                go_roundg kj39
                                case measure => have := HJ1.out; have := HJ9.out; have := HK3.out; have := HJ39.out; omega
                                case rel => exact ⟨(wrap64 (x9_3 + (wrap64 (1 + t345)))), (wrap64 (x11_3 - 1)), (y348), (by first | rfl | (simp; done) | (simp [*]; done)), (by first | rfl | (simp; done) | (simp [*]; done)), H', ⟨by have := HJ1.out; have := HJ9.out; have := HK3.out; have := HJ39.out; omega⟩, ⟨by (with_reducible repeat (first | apply Kd.rA_ | apply Kd.rN_ | apply Kd.rD_)); exact HQ63.out⟩, ⟨by repeat (first | (with_reducible first | exact HB.out | apply pbA_ | apply pbN_ | apply pb1_ | refine below_set ?_ GB59.out) | exact HB.out)⟩⟩
                               ·rw [if_neg c57] at H
                                exact absurd H (by simp)
                              ·rw [if_neg c55] at H
                               exact absurd H (by simp)
                             ·rw [if_neg c54] at H
                              exact absurd H (by simp)
                            ·rw [if_neg c52] at H
                             have c52b0 : (t346 == 0) = false := beq_eq_false_iff_ne.mpr c52
                             have c52b1 : (t346 != 0) = true := bne_iff_ne.mpr c52
                             simp only [Option.some.injEq, Prod.mk.injEq] at H
                             obtain ⟨rfl, rfl, rfl⟩ := H
                             have p342 : 0 ≤ (x9_3 : Int) := of_decide_eq_true (by first | (with_reducible assumption) | assumption)
                             have q342 : x9_3 < (l0.length : Int) := of_decide_eq_true (by first | (with_reducible assumption) | assumption)
                             obtain ⟨ad342, e342, hx342_0⟩ := Kd.at_int HR0.out x9_3 p342 q342
                             obtain rfl : ad327 = ad342 := (by injection e342)
                             replace hx342_0 := (HB.out.cell (World.block_lt_of_cell? w _ hx342_0)).trans hx342_0
                             replace p342 := eq_true p342
                             replace q342 := eq_true q342
                             obtain ⟨i064, hi064, _, hsz64, _⟩ := info_parts info5
                             obtain ⟨A64, hcut64, hA64, hC64⟩ := print_drop_of (P := Try.prog) (Value.int .u8) 0 22 5 .i64 Try.underlying22 hi064 hsz64 (some ad327) c0 l0 (ji48) (of_decide_eq_true (by first | (with_reducible assumption) | assumption)) (of_decide_eq_true (by first | (with_reducible assumption) | assumption)) HC0.out
                             have HR343 := Aside0.mk (Kd.C_of_reads (h1 := fun _ => rfl) (hA64 _ (Kd.reads_of_C HR0.out)))
                             have HC343 := Aside0.mk hC64
                             clear hA64 hC64 hi064 hsz64
                             go_wp2_with (first | ((with_reducible refine gaC_ (f := 44) rfl ?_); refine goesL_ (some 141) rfl rfl Try.func44 (by kernel_rfl) rfl #[.slice A64 (l0.drop ((ji48) : Int).toNat).length (c0 - (ji48).toNat)] rfl (by (try simp only [List.map_toArray, List.map_cons, List.map_nil]); first | done | (rw [show (l0.drop ((ji48) : Int).toNat).length = (l0.length - (ji48).toNat) from List.length_drop] <;> rfl) | (simp only [hji48]; rfl) | rfl | (simp only [List.length_drop, List.length_take]; rfl)) ?_; (with_reducible refine (num_Take.calls kj39 _ _ (l0.drop ((ji48) : Int).toNat) t344 t345 t346 _ ?side1 ?side2 A51.out).mono ?_); (case side1 => repeat (first | exact (Kd.C_below HR343.out HB.out) | (with_reducible refine Kd.cA_ ?_ _) | (with_reducible refine Kd.cN_ ?_ _) | (with_reducible refine Kd.cD_ ?_))); (case side2 => exact HC343.out); rintro e w' ⟨rfl, ⟨nd, rfl⟩⟩; refine ⟨_, rfl, ?_⟩))
                             go_ret3
                             exact ⟨_, by first | rfl | (simp [eWn_, eWs_] <;> rfl) | (simp only [← hji22, ← hji25, ← hji30, ← hji48]; first | rfl | (simp [eWn_, eWs_] <;> rfl)) | (simp [*, eWn_, eWs_] <;> rfl), by first | exact Kd.R_nil _ _ _ _ _ | exact Kd.N_nil _ _ _ _ _ | exact Kd.V_nil _ _ _ _ _ | exact Kd.Q_nil _ _ _ _ _ | exact Kd.S_nil _ _ _ _ _, by repeat (first | (with_reducible first | exact HB.out | apply pbA_ | apply pbN_ | apply pb1_) | exact HB.out)⟩
                           ·rw [if_neg c50] at H
                            exact absurd H (by simp)
                          ·rw [if_neg c49] at H
                           exact absurd H (by simp)
                         ·rw [if_neg c47] at H
                          exact absurd H (by simp)
                        ·rw [if_neg c46] at H
                         exact absurd H (by simp)
                    ·rw [if_neg c39] at H
                     have c39b0 : decide (0 < x11_3) = false := decide_eq_false c39
                     clear c39
                     have H' := Aside0.mk H
                     clear H
                     obtain ⟨Ao65, co65, eo65⟩ := Kd.R_slice HO_13.out
                     subst eo65
                     go_wp2
                     go_loopg [162] k3 (fun kq v162 w' => ∃ (x13_4 : List Int) (x162_4 : Int), v162 = .int .i64 x162_4 ∧ Aside0 (pfor_read.l1 kq t329 x9_3 x13_4 (x13_3.length : Int) x162_4 = some (r1, r2, r3)) ∧ Aside0 (kq ≤ k3) ∧ Aside0 (Kd.R (Kd.int .u64) 50 w' w.heap.size (fun _ => True) (.slice Ao65 x13_3.length co65) x13_4) ∧ Aside0 (Below w.heap.size w w'))
                     case atStart => exact ⟨(x13_3), (0), (by first | rfl | (simp; done) | (simp [*]; done)), H', ⟨Nat.le_refl _⟩, ⟨by (with_reducible repeat (first | apply Kd.rA_ | apply Kd.rN_ | apply Kd.rD_)); exact HO_13.out⟩, ⟨by repeat (first | (with_reducible first | exact HB.out | apply pbA_ | apply pbN_ | apply pb1_) | exact HB.out)⟩⟩
                     case round =>
                      clear H'
                      try clear c1
                      try clear c2
                      try clear p2
                      try clear c3
                      try clear c3b0
                      try clear c3b1
                      try clear p3
                      try clear q3
                      try clear hx3
                      try clear qi3
                      try clear c4
                      try clear c4b0
                      try clear c4b1
                      try clear c5
                      try clear c5b0
                      try clear p5
                      try clear q5
                      try clear hx5
                      try clear hf5
                      try clear c6
                      try clear p6
                      try clear c7
                      try clear c7b0
                      try clear c7b1
                      try clear c8
                      try clear c8b0
                      try clear c8b1
                      try clear c12
                      try clear c12b0
                      try clear c12b1
                      try clear c13
                      try clear c13b0
                      try clear c15
                      try clear c15b0
                      try clear c16
                      try clear c16b0
                      try clear c17
                      try clear c17b0
                      try clear c19
                      try clear c19b0
                      try clear c20
                      try clear c20b0
                      try clear c21
                      try clear c23
                      try clear c23b0
                      try clear c24
                      try clear c24b0
                      try clear c26
                      try clear c26b0
                      try clear c27
                      try clear c27b0
                      try clear c28
                      try clear c28b0
                      try clear c31
                      try clear c31b0
                      try clear c31b1
                      try clear c32
                      try clear c32b0
                      try clear c32b1
                      try clear p32
                      try clear q32
                      try clear hx32
                      try clear qi32
                      try clear c33
                      try clear c33b0
                      try clear c33b1
                      try clear p33
                      try clear q33
                      try clear hx33
                      try clear p34
                      try clear q34
                      try clear hx34
                      try clear c35
                      try clear c35b0
                      try clear c35b1
                      try clear c39
                      try clear c39b0
                      try clear c41
                      try clear c41b0
                      try clear c42
                      try clear c42b0
                      try clear c43
                      try clear c43b0
                      try clear c44
                      try clear c44b0
                      try clear c45
                      try clear c46
                      try clear c46b0
                      try clear c47
                      try clear c47b0
                      try clear c49
                      try clear c49b0
                      try clear c49b1
                      try clear c50
                      try clear c50b0
                      try clear c50b1
                      try clear c52
                      try clear c52b0
                      try clear c52b1
                      try clear c54
                      try clear c54b0
                      try clear c55
                      try clear c55b0
                      try clear c57
                      try clear c57b0
                      try clear c57b1
                      try clear p59
                      try clear q59
                      try clear hx59
                      try clear hf59
                      try clear p64
                      try clear hx325_0
                      try clear hx326_0
                      try clear hx327_0
                      try clear hx332_0
                      try clear hx333_0
                      try clear hx334_0
                      try clear hx335_0
                      try clear hx341_0
                      try clear hx342_0
                      try clear hx347_0
                      try clear hx59_0
                      try clear p2
                      try clear p3
                      try clear p32
                      try clear p325
                      try clear p326
                      try clear p327
                      try clear p33
                      try clear p332
                      try clear p333
                      try clear p334
                      try clear p335
                      try clear p34
                      try clear p341
                      try clear p342
                      try clear p347
                      try clear p59
                      try clear p6
                      try clear q3
                      try clear q32
                      try clear q325
                      try clear q326
                      try clear q327
                      try clear q33
                      try clear q332
                      try clear q333
                      try clear q334
                      try clear q335
                      try clear q34
                      try clear q341
                      try clear q342
                      try clear q347
                      try clear q59
                      obtain ⟨x13_4, x162_4, rfl, HA, HK4, HO_13, HB⟩ := hrel
                      have hl13_4 := (Kd.R_reads' HO_13.out).1
                      rw [hl13_4] at HO_13
                      (try simp only [hl13_4])
                      cases gk with
                      | zero => exact absurd HA.out (by simp [pfor_read.l1])
                      | succ k4 =>
                       have H := HA.out
                       clear HA
                       simp only [pfor_read.l1] at H
                       by_cases c66 : x162_4 < (x13_3.length : Int)
                       ·rw [if_pos c66] at H
                        have c66b0 : decide (x162_4 < (x13_3.length : Int)) = true := decide_eq_true c66
                        (try (have c66b0h := c66b0; simp only [hl13_4] at c66b0h))
                        clear c66
                        by_cases c67 : 0 ≤ x162_4
                        ·rw [if_pos c67] at H
                         have c67b0 : decide (0 ≤ x162_4) = true := decide_eq_true c67
                         clear c67
                         by_cases c68 : x162_4 < (x13_4.length : Int)
                         ·rw [if_pos c68] at H
                          have c68b0 : decide (x162_4 < (x13_4.length : Int)) = true := decide_eq_true c68
                          (try (have c68b0h := c68b0; simp only [hl13_4] at c68b0h))
                          clear c68
                          obtain ⟨y350, hy350⟩ : ∃ y_ : List Int, y_ = (x13_4.set (x162_4 : Int).toNat (IntKind.u64.wrap ((rd x13_4 x162_4) + t329))) := ⟨_, rfl⟩
                          replace H : (pfor_read.l1 k4 t329 x9_3 y350 (x13_3.length : Int) (wrap64 (x162_4 + 1))) = some (r1, r2, r3) := by first | (rw [hy350]; with_reducible exact H) | (have H2_ := (Option.bind_some _ _).symm.trans H; rw [hy350]; with_reducible exact H2_) | (have H2_ := (Option.bind_some _ _).symm.trans H; with_reducible exact H2_) | with_reducible exact H | (rw [hy350]; exact H) | exact H
                          have Ny350 := Aside0.mk hy350
                          clear hy350
                          have H' := Aside0.mk H
                          clear H
                          have p349 : 0 ≤ (x162_4 : Int) := of_decide_eq_true (by first | (with_reducible assumption) | assumption)
                          have q349 : x162_4 < (x13_4.length : Int) := of_decide_eq_true (by first | (with_reducible assumption) | assumption)
                          obtain ⟨ad349, e349, hx349_0⟩ := Kd.at_int (Kd.R_reads' HO_13.out).2.2 x162_4 p349 q349
                          cases e349
                          replace p349 := eq_true p349
                          replace q349 := eq_true q349
                          have p69 : 0 ≤ (x162_4 : Int) := of_decide_eq_true (by first | (with_reducible assumption) | assumption)
                          have q69 : (x162_4 : Int) < ((x13_4.length : Int) : Int) := of_decide_eq_true (by first | (with_reducible assumption) | assumption)
                          obtain ⟨go69, co69, eo69, gb69, gl69, cl69, HG69⟩ := Kd.R_form HO_13.out (by omega)
                          (first | cases eo69 | (injection eo69 with ea_ en_ ec_; (first | subst ea_ | (injection ea_ with ea_; subst ea_)); subst ec_; clear en_))
                          have GB69 := Aside0.mk gb69
                          have GG69 := Aside0.mk HG69
                          clear gb69 gl69 HG69
                          (first | simp only [add_plain] at hx349_0 | skip)
                          obtain ⟨hx69_0, hf69_0⟩ := Kd.R_celln 0 HO_13.out (x162_4 : Int) p69 q69
                          replace p69 := eq_true p69
                          replace q69 := eq_true q69
                          have HP70 := Kd.R_putg HO_13.out (x162_4 : Int) (IntKind.u64.wrap ((rd x13_4 x162_4) + t329))
                          go_wp2_with (first | ((with_reducible refine gate_store (t := 50) (p := 171) rfl ?_); refine store_event (t := 50) (p := 171) (v := ?vo_w71) (w1 := (wr.setCell ⟨go69, (x162_4 : Int).toNat, none⟩ (.int .u64 (IntKind.u64.wrap ((rd x13_4 x162_4) + t329))))) ?hg ?ho ?hn ?hr ?_; (case ho => rfl); (case hg => rfl); (case hn => rfl); (case hr => first | (go_simp; done) | (go_simp; rfl)); intro w71 hw; have hg : wr.grownBy w71 (some go69) := (by rw [hw]; exact HP70.2); have hp_ : Kd.R (Kd.int .u64) 50 w71 w.heap.size (fun _ => True) (.slice (some ⟨go69, 0, none⟩) x13_4.length co65) y350 := (by rw [hw, Ny350.out]; exact HP70.1); clear HP70; have n0_ := Aside0.mk (hp_); have n1_ := Aside0.mk ((by rw [hw]; exact below_set (HB.out) GB69.out : Below w.heap.size w w71)); clear HO_13; clear HB; have HO_13 := n0_; have HB := n1_; clear n0_ n1_; clear hg hw hp_))
                          (try simp only [← hl13_4])
                          go_roundg k4
                          case measure => have := HJ1.out; have := HJ9.out; have := HK3.out; have := HK4.out; omega
                          case rel => exact ⟨(y350), (wrap64 (x162_4 + 1)), (by first | rfl | (simp; done) | (simp [*]; done)), H', ⟨by have := HJ1.out; have := HJ9.out; have := HK3.out; have := HK4.out; omega⟩, ⟨by (try simp only [hl13_4]); (with_reducible repeat (first | apply Kd.rA_ | apply Kd.rN_ | apply Kd.rD_)); exact HO_13.out⟩, ⟨by repeat (first | (with_reducible first | exact HB.out | apply pbA_ | apply pbN_ | apply pb1_) | exact HB.out)⟩⟩
                         ·rw [if_neg c68] at H
                          exact absurd H (by simp)
                        ·rw [if_neg c67] at H
                         exact absurd H (by simp)
                       ·rw [if_neg c66] at H
                        have c66b0 : decide (x162_4 < (x13_3.length : Int)) = false := decide_eq_false c66
                        (try (have c66b0h := c66b0; simp only [hl13_4] at c66b0h))
                        clear c66
                        simp only [Option.some.injEq, Prod.mk.injEq] at H
                        obtain ⟨rfl, rfl, rfl⟩ := H
                        go_wp2
                        go_ret3
                        exact ⟨_, by first | rfl | (simp [eWn_, eWs_] <;> rfl) | (simp only [← hji22, ← hji25, ← hji30]; first | rfl | (simp [eWn_, eWs_] <;> rfl)) | (simp [*, eWn_, eWs_] <;> rfl), by (with_reducible repeat (first | apply Kd.rA_ | apply Kd.rN_ | apply Kd.rD_)); exact HO_13.out, by repeat (first | (with_reducible first | exact HB.out | apply pbA_ | apply pbN_ | apply pb1_) | exact HB.out)⟩
                 ·rw [if_neg c35] at H
                  have c35b0 : (t338 == 0) = false := beq_eq_false_iff_ne.mpr c35
                  have c35b1 : (t338 != 0) = true := bne_iff_ne.mpr c35
                  simp only [Option.some.injEq, Prod.mk.injEq] at H
                  obtain ⟨rfl, rfl, rfl⟩ := H
                  try go_wp2
                  (try (rw [drewN_self wc]; generalize hq_ : World.drewN wc _ = wc; have n0_ : Aside0 (Below w.heap.size w wc) := ⟨by rw [← hq_]; exact (by repeat (first | (with_reducible first | exact HB.out | apply pbA_ | apply pbN_ | apply pb1_) | exact HB.out))⟩; clear HB hq_; have HB := n0_; clear n0_))
                  have n0_ := Aside0.mk (pb1_ HB.out)
                  clear HB
                  have HB := n0_
                  clear n0_
                  have p334 : 0 ≤ ((ji22) : Int) := of_decide_eq_true (by first | (with_reducible assumption) | assumption)
                  have q334 : (ji22) < (l0.length : Int) := of_decide_eq_true (by first | (with_reducible assumption) | assumption)
                  obtain ⟨ad334, e334, hx334_0⟩ := Kd.at_int HR0.out (ji22) p334 q334
                  have hw334_0 := hx334_0
                  obtain rfl : ad327 = ad334 := (by injection e334)
                  replace hx334_0 := (HB.out.cell (World.block_lt_of_cell? w _ hx334_0)).trans hx334_0
                  replace p334 := eq_true p334
                  replace q334 := eq_true q334
                  have p335 : 0 ≤ ((ji25) : Int) := of_decide_eq_true (by first | (with_reducible assumption) | assumption)
                  have q335 : (ji25) < (l0.length : Int) := of_decide_eq_true (by first | (with_reducible assumption) | assumption)
                  obtain ⟨ad335, e335, hx335_0⟩ := Kd.at_int HR0.out (ji25) p335 q335
                  have hw335_0 := hx335_0
                  obtain rfl : ad327 = ad335 := (by injection e335)
                  replace hx335_0 := (HB.out.cell (World.block_lt_of_cell? w _ hx335_0)).trans hx335_0
                  replace p335 := eq_true p335
                  replace q335 := eq_true q335
                  refine start_ (n := 13) (S := fun w' => w'.cell? (ad327.add ((ji22)).toNat) = some (.int .u8 (rd l0 (ji22))) ∧ w'.cell? (ad327.add ((ji25)).toNat) = some (.int .u8 (rd l0 (ji25)))) (ds := []) #[false, false, false, false, false, false, false, false, false, false, false, false, false] (by kernel_rfl) rfl rfl ⟨((HB.out.cell (World.block_lt_of_cell? w _ hw334_0)).trans hw334_0), ((HB.out.cell (World.block_lt_of_cell? w _ hw335_0)).trans hw335_0)⟩ (fun hHeld => ?_); refine with_tabW pfor_read.tab8 pfor_read.bits8 (fun HT_ HW_ => ?_)
                  generalize wc.drew = w72 at HB hx334_0 hx335_0 hHeld ⊢
                  refine pure_ (i := 0) (N := some 73) (v := ?_) (a' := ?_) #[tT,fF,fF,fF,fF,fF,fF,fF,fF,fF,fF,fF,fF] rfl rfl (any_of HT_.out (by kernel_rfl)) (fun _ _ _ h => h) (Or.inl ⟨by rfl, ?_⟩) ?_ ?_
                  rotate_left
                  ·intro w'
                   go_simp
                   with_reducible rfl
                  rotate_left
                  ·simp only [Act.put, List.setIfInBounds_toArray, List.set_cons_zero, List.set_cons_succ, i64_w, i32_w]
                   rfl
                  refine pure_ (i := 1) (N := some 74) (v := ?_) (a' := ?_) #[tT,tT,fF,fF,fF,fF,fF,fF,fF,fF,fF,fF,fF] rfl rfl (any_of HT_.out (by kernel_rfl)) (fun _ _ _ h => h) (Or.inl ⟨by rfl, ?_⟩) ?_ ?_
                  rotate_left
                  ·intro w'
                   go_simp
                   with_reducible rfl
                  rotate_left
                  ·simp only [Act.put, List.setIfInBounds_toArray, List.set_cons_zero, List.set_cons_succ, i64_w, i32_w]
                   rfl
                  refine pure_ (i := 2) (N := some 75) (v := ?_) (a' := ?_) #[tT,tT,tT,fF,fF,fF,fF,fF,fF,fF,fF,fF,fF] rfl rfl (any_of HT_.out (by kernel_rfl)) (fun _ _ _ h => h) (Or.inl ⟨by rfl, ?_⟩) ?_ ?_
                  rotate_left
                  ·intro w'
                   go_simp
                   with_reducible rfl
                  rotate_left
                  ·simp only [Act.put, List.setIfInBounds_toArray, List.set_cons_zero, List.set_cons_succ, i64_w, i32_w]
                   rfl
                  refine pure_ (i := 5) (N := some 78) (v := ?_) (a' := ?_) #[tT,tT,tT,fF,fF,tT,fF,fF,fF,fF,fF,fF,fF] rfl rfl (any_of HT_.out (by kernel_rfl)) (fun _ _ _ h => h) (Or.inl ⟨by rfl, ?_⟩) ?_ ?_
                  rotate_left
                  ·intro w'
                   go_simp
                   with_reducible rfl
                  rotate_left
                  ·simp only [Act.put, List.setIfInBounds_toArray, List.set_cons_zero, List.set_cons_succ, i64_w, i32_w]
                   rfl
                  refine pure_ (i := 6) (N := some 79) (v := ?_) (a' := ?_) #[tT,tT,tT,fF,fF,tT,tT,fF,fF,fF,fF,fF,fF] rfl rfl (any_of HT_.out (by kernel_rfl)) (fun _ _ _ h => h) (Or.inl ⟨by rfl, ?_⟩) ?_ ?_
                  rotate_left
                  ·intro w'
                   go_simp
                   with_reducible rfl
                  rotate_left
                  ·simp only [Act.put, List.setIfInBounds_toArray, List.set_cons_zero, List.set_cons_succ, i64_w, i32_w]
                   rfl
                  refine pure_ (i := 7) (N := some 80) (v := ?_) (a' := ?_) #[tT,tT,tT,fF,fF,tT,tT,tT,fF,fF,fF,fF,fF] rfl rfl (any_of HT_.out (by kernel_rfl)) (fun _ _ _ h => h) (Or.inl ⟨by rfl, ?_⟩) ?_ ?_
                  rotate_left
                  ·intro w'
                   go_simp
                   with_reducible rfl
                  rotate_left
                  ·simp only [Act.put, List.setIfInBounds_toArray, List.set_cons_zero, List.set_cons_succ, i64_w, i32_w]
                   rfl
                  refine pure_ (i := 8) (N := some 81) (v := ?_) (a' := ?_) #[tT,tT,tT,fF,fF,tT,tT,tT,tT,fF,fF,fF,fF] rfl rfl (any_of HT_.out (by kernel_rfl)) (fun _ _ _ h => h) (Or.inl ⟨by rfl, ?_⟩) ?_ ?_
                  rotate_left
                  ·intro w'
                   go_simp
                   with_reducible rfl
                  rotate_left
                  ·simp only [Act.put, List.setIfInBounds_toArray, List.set_cons_zero, List.set_cons_succ, i64_w, i32_w]
                   rfl
                  refine take_ (i := 3) (N := some 76) (v := ?_) (a' := ?_) #[tT,tT,tT,tT,fF,tT,tT,tT,tT,fF,fF,fF,fF] rfl rfl (take_ofW HT_.out HW_.out (by kernel_rfl)) (fun _ _ _ h => h) (Or.inl ⟨by rfl, ?_⟩) hHeld ?_ ?_
                  rotate_left
                  ·rintro w' ⟨s0, s1⟩
                   go_simp
                   with_reducible rfl
                  rotate_left
                  ·simp only [Act.put, List.setIfInBounds_toArray, List.set_cons_zero, List.set_cons_succ, i64_w, i32_w]
                   rfl
                  refine pure_ (i := 4) (N := some 77) (v := ?_) (a' := ?_) #[tT,tT,tT,tT,tT,tT,tT,tT,tT,fF,fF,fF,fF] rfl rfl (any_of HT_.out (by kernel_rfl)) (fun _ _ _ h => h) (Or.inl ⟨by rfl, ?_⟩) ?_ ?_
                  rotate_left
                  ·intro w'
                   go_simp
                   with_reducible rfl
                  rotate_left
                  ·simp only [Act.put, List.setIfInBounds_toArray, List.set_cons_zero, List.set_cons_succ, i64_w, i32_w]
                   rfl
                  refine pure_ (i := 11) (N := some 10) (v := ?_) (a' := ?_) #[tT,tT,tT,tT,tT,tT,tT,tT,tT,fF,fF,tT,fF] rfl rfl (any_of HT_.out (by kernel_rfl)) (fun _ _ _ h => h) (Or.inl ⟨by rfl, ?_⟩) ?_ ?_
                  rotate_left
                  ·intro w'
                   go_simp
                   with_reducible rfl
                  rotate_left
                  ·simp only [Act.put, List.setIfInBounds_toArray, List.set_cons_zero, List.set_cons_succ, i64_w, i32_w]
                   rfl
                  refine take_ (i := 9) (N := some 82) (v := ?_) (a' := ?_) #[tT,tT,tT,tT,tT,tT,tT,tT,tT,tT,fF,tT,fF] rfl rfl (take_ofW HT_.out HW_.out (by kernel_rfl)) (fun _ _ _ h => h) (Or.inl ⟨by rfl, ?_⟩) hHeld ?_ ?_
                  rotate_left
                  ·rintro w' ⟨s0, s1⟩
                   go_simp
                   with_reducible rfl
                  rotate_left
                  ·simp only [Act.put, List.setIfInBounds_toArray, List.set_cons_zero, List.set_cons_succ, i64_w, i32_w]
                   rfl
                  refine pure_ (i := 10) (N := some 83) (v := ?_) (a' := ?_) #[tT,tT,tT,tT,tT,tT,tT,tT,tT,tT,tT,tT,fF] rfl rfl (any_of HT_.out (by kernel_rfl)) (fun _ _ _ h => h) (Or.inl ⟨by rfl, ?_⟩) ?_ ?_
                  rotate_left
                  ·intro w'
                   go_simp
                   with_reducible rfl
                  rotate_left
                  ·simp only [Act.put, List.setIfInBounds_toArray, List.set_cons_zero, List.set_cons_succ, i64_w, i32_w]
                   rfl
                  refine pure_ (i := 12) (N := some 11) (v := ?_) (a' := ?_) #[tT,tT,tT,tT,tT,tT,tT,tT,tT,tT,tT,tT,tT] rfl rfl (any_of HT_.out (by kernel_rfl)) (fun _ _ _ h => h) (Or.inl ⟨by rfl, ?_⟩) ?_ ?_
                  rotate_left
                  ·intro w'
                   go_simp
                   with_reducible rfl
                  rotate_left
                  ·simp only [Act.put, List.setIfInBounds_toArray, List.set_cons_zero, List.set_cons_succ, i64_w, i32_w]
                   rfl
                  refine done_ (done_of HT_.out (by kernel_rfl)) ?_
                  obtain ⟨i073, hi073, _, hsz73, _⟩ := info_parts info5
                  obtain ⟨A73, hcut73, hA73, hC73⟩ := print_mid_of (P := Try.prog) (Value.int .u8) 0 22 5 .i64 .i64 Try.underlying22 hi073 hsz73 (some ad327) c0 l0 (ji30) (wrap64 ((ji30) + (wrap64 (Int.tdiv (wrap64 ((wrap64 ((wrap64 (rd l0 0)) * (wrap64 (rd l0 (ji22))))) + 7)) 8)))) (of_decide_eq_true (by first | (with_reducible assumption) | assumption)) (by first | omega | exact of_decide_eq_true (by first | (with_reducible assumption) | assumption)) (of_decide_eq_true (by first | (with_reducible assumption) | assumption)) HC0.out
                  have HR336 := Aside0.mk (Kd.C_of_reads (h1 := fun _ => rfl) (hA73 _ (Kd.reads_of_C HR0.out)))
                  have HC336 := Aside0.mk hC73
                  clear hA73 hC73 hi073 hsz73
                  try go_wp2_with (first | ((with_reducible refine gaC_ (f := 54) rfl ?_); refine goesL_ (some 104) rfl rfl Try.func54 (by kernel_rfl) rfl #[.slice A73 ((l0.take ((wrap64 ((ji30) + (wrap64 (Int.tdiv (wrap64 ((wrap64 ((wrap64 (rd l0 0)) * (wrap64 (rd l0 (ji22))))) + 7)) 8)))) : Int).toNat).drop ((ji30) : Int).toNat).length (c0 - (ji30).toNat), .int .i64 (wrap64 (rd l0 0)), .int .i64 (wrap64 (rd l0 (ji22)))] rfl (by (try simp only [List.map_toArray, List.map_cons, List.map_nil]); first | done | (rw [show ((l0.take ((wrap64 ((ji30) + (wrap64 (Int.tdiv (wrap64 ((wrap64 ((wrap64 (rd l0 0)) * (wrap64 (rd l0 (ji22))))) + 7)) 8)))) : Int).toNat).drop ((ji30) : Int).toNat).length = ((wrap64 ((ji30) + (wrap64 (Int.tdiv (wrap64 ((wrap64 ((wrap64 (rd l0 0)) * (wrap64 (rd l0 (ji22))))) + 7)) 8)))).toNat - (ji30).toNat) from (by rw [List.length_drop, List.length_take]; have h_ : ((wrap64 ((ji30) + (wrap64 (Int.tdiv (wrap64 ((wrap64 ((wrap64 (rd l0 0)) * (wrap64 (rd l0 (ji22))))) + 7)) 8)))) : Int) ≤ (l0.length : Int) := of_decide_eq_true (by first | (with_reducible assumption) | assumption); omega)] <;> rfl) | (simp only [hji22, hji30]; rfl) | rfl | (simp only [List.length_drop, List.length_take]; rfl)) ?_; (with_reducible refine (bits_Unpack.calls kj9 _ _ ((l0.take ((wrap64 ((ji30) + (wrap64 (Int.tdiv (wrap64 ((wrap64 ((wrap64 (rd l0 0)) * (wrap64 (rd l0 (ji22))))) + 7)) 8)))) : Int).toNat).drop ((ji30) : Int).toNat) (wrap64 (rd l0 0)) (wrap64 (rd l0 (ji22))) t337 t338 _ ?side1 ?side2 A34.out).mono ?_); (case side1 => repeat (first | exact (Kd.C_below HR336.out HB.out) | (with_reducible refine Kd.cA_ ?_ _) | (with_reducible refine Kd.cN_ ?_ _) | (with_reducible refine Kd.cD_ ?_))); (case side2 => exact HC336.out); rintro e w74 ⟨v339, rfl, ho0, hb⟩; refine ⟨_, rfl, ?_⟩; have n0_ := Aside0.mk (Kd.R_lower ho0 (pbS_ (by repeat (first | (with_reducible first | exact HB.out | apply pbA_ | apply pbN_ | apply pb1_) | exact HB.out)))); have n1_ := Aside0.mk (below_step (by repeat (first | (with_reducible first | exact HB.out | apply pbA_ | apply pbN_ | apply pb1_) | exact HB.out)) hb); clear HB; have HO340 := n0_; have HB := n1_; clear n0_ n1_; (try clear hb); (try clear hb2); (try clear hk); (try clear hi); (try clear ho0)))
                  go_ret3
                  exact ⟨_, by first | rfl | (simp [eWn_, eWs_] <;> rfl) | (simp only [← hji22, ← hji25, ← hji30]; first | rfl | (simp [eWn_, eWs_] <;> rfl)) | (simp [*, eWn_, eWs_] <;> rfl), by first | exact Kd.R_nil _ _ _ _ _ | exact Kd.N_nil _ _ _ _ _ | exact Kd.V_nil _ _ _ _ _ | exact Kd.Q_nil _ _ _ _ _ | exact Kd.S_nil _ _ _ _ _, by repeat (first | (with_reducible first | exact HB.out | apply pbA_ | apply pbN_ | apply pb1_) | exact HB.out)⟩
                ·rw [if_neg c33] at H
                 exact absurd H (by simp)
               ·rw [if_neg c32] at H
                exact absurd H (by simp)
              ·rw [if_neg c31] at H
               exact absurd H (by simp)
            ·rw [if_neg c27] at H
             exact absurd H (by simp)
           ·rw [if_neg c26] at H
            exact absurd H (by simp)
          ·rw [if_neg c24] at H
           exact absurd H (by simp)
         ·rw [if_neg c23] at H
          exact absurd H (by simp)
     ·rw [if_neg c8] at H
      exact absurd H (by simp)
    ·rw [if_neg c7] at H
     exact absurd H (by simp)
end Go.Proofs.Ytkcjjennlhgmhaa.P
end
section
namespace Go.Proofs.Ytkcjjennlhgmhaa.P
open Go.RowKit Go.Proofs.YtkcjjennlhgmhaaW.PrintWords Go.Proofs.YtkcjjennlhgmhaaW.PrintLast Go.Proofs.YtkcjjennlhgmhaaW.PrintMore
attribute [local go_sem] max2_int min2_int max_two min_two max_three min_three max_four min_four
set_option linter.unusedVariables false
set_option linter.unusedSimpArgs false
def bytes_Equal.f (l0 : List Int) (l1 : List Int) : Option (Bool) := some ((strOfNums l0).toList == (strOfNums l1).toList)
set_option maxHeartbeats 8000000 in
set_option maxRecDepth 100000 in
theorem bytes_Equal.calls (A0 : Option Addr) (c0 : Nat) (l0 : List Int) (A1 : Option Addr) (c1 : Nat) (l1 : List Int) (r : Bool) (w : World) (hr0 : Kd.C (Kd.int .u8) w A0 l0.length l0) (hc0 : l0.length ≤ c0) (hr1 : Kd.C (Kd.int .u8) w A1 l1.length l1) (hc1 : l1.length ≤ c1) (h : bytes_Equal.f l0 l1 = some r) :
  Calls Try.prog 36 #[.slice A0 l0.length c0, .slice A1 l1.length c1] w fun e w' => e = .returned (.bool r) ∧ Drawn0 w w' := by
 have HR0 := Aside0.mk hr0
 have HC0 := Aside0.mk hc0
 clear hr0 hc0
 have HR1 := Aside0.mk hr1
 have HC1 := Aside0.mk hc1
 clear hr1 hc1
 have H : (some ((strOfNums l0).toList == (strOfNums l1).toList)) = some r := h
 clear h
 obtain rfl := Option.some.inj H
 have hcv3 := Kd.C_string (P := Try.prog) (A := A0) (c := c0) Try.underlying22 Try.underlying5 Try.underlying9 HR0.out
 have hcv4 := Kd.C_string (P := Try.prog) (A := A1) (c := c1) Try.underlying22 Try.underlying5 Try.underlying9 HR1.out
 go_enter Try.func36, Try.ntmps36
 go_wp2
 go_ret
 exact ⟨by first | rfl | (simp; done) | (simp [*]; done), by repeat (first | exact Drawn0.refl _ | apply Drawn0.step)⟩
def pfor_TakeBlock.f (k : Nat) (l0 : List Int) : Option (List Int × Int × Int) := (pfor_read.f k l0).bind fun bt351 => (if bt351.2.2 = true then ((pfor_PutBlock.f k ([] : List Int) bt351.1).bind fun bt356 => (if bt356.2 = 0 then (if 0 ≤ bt351.2.1 then (if bt351.2.1 ≤ (l0.length : Int) then ((bytes_Equal.f bt356.1 (l0.take (bt351.2.1 : Int).toNat)).bind fun t361 => (if t361 = true then (some (bt351.1, bt351.2.1, 0)) else (some (([] : List Int), 0, 2)))) else (none)) else (none)) else (some (([] : List Int), 0, 2)))) else (some (([] : List Int), 0, 2)))
theorem pfor_TakeBlock.mono : ∀ a0 k, LeO (pfor_TakeBlock.f k a0) (pfor_TakeBlock.f (k + 1) a0) := by
 intro a0 k
 unfold pfor_TakeBlock.f
 repeat' first
   | (with_reducible exact pfor_PutBlock.mono _ _ _)
   | (with_reducible exact pfor_read.mono _ _)
   | (with_reducible exact LeO.refl _)
   | (with_reducible exact LeO.none _)
   | (with_reducible refine LeO.ite ?_ ?_)
   | (with_reducible refine LeO.bind ?_ (fun _ => ?_))
   | exact pfor_PutBlock.mono _ _ _
   | exact pfor_read.mono _ _
   | exact LeO.none _
   | refine LeO.ite ?_ ?_
   | refine LeO.bind ?_ (fun _ => ?_)
set_option maxHeartbeats 8000000 in
set_option maxRecDepth 100000 in
theorem pfor_TakeBlock.calls (k : Nat) (A0 : Option Addr) (c0 : Nat) (l0 : List Int) (r1 : List Int) (r2 : Int) (r3 : Int) (w : World) (hr0 : Kd.C (Kd.int .u8) w A0 l0.length l0) (hc0 : l0.length ≤ c0) (h : pfor_TakeBlock.f k l0 = some (r1, r2, r3)) :
  Calls Try.prog 16 #[.slice A0 l0.length c0] w fun e w' => ∃ v0_ : Value, e = .returned (.tuple #[v0_, .int .i64 r2, .int .i64 r3]) ∧ Kd.R (Kd.int .u64) 50 w' w.heap.size (fun _ => True) v0_ r1 ∧ Below w.heap.size w w' := by
 have HR0 := Aside0.mk hr0
 have HC0 := Aside0.mk hc0
 clear hr0 hc0
 have HB := Aside0.mk (Below.refl w.heap.size w)
 have H : ((pfor_read.f k l0).bind fun bt351 => (if bt351.2.2 = true then ((pfor_PutBlock.f k ([] : List Int) bt351.1).bind fun bt356 => (if bt356.2 = 0 then (if 0 ≤ bt351.2.1 then (if bt351.2.1 ≤ (l0.length : Int) then ((bytes_Equal.f bt356.1 (l0.take (bt351.2.1 : Int).toNat)).bind fun t361 => (if t361 = true then (some (bt351.1, bt351.2.1, 0)) else (some (([] : List Int), 0, 2)))) else (none)) else (none)) else (some (([] : List Int), 0, 2)))) else (some (([] : List Int), 0, 2)))) = some (r1, r2, r3) := h
 clear h
 replace H := Option.bind_eq_some_iff.mp H
 obtain ⟨⟨t351, t352, t353⟩, A20, H⟩ := H
 replace H : (if t353 = true then ((pfor_PutBlock.f k ([] : List Int) t351).bind fun bt356 => (if bt356.2 = 0 then (if 0 ≤ t352 then (if t352 ≤ (l0.length : Int) then ((bytes_Equal.f bt356.1 (l0.take (t352 : Int).toNat)).bind fun t361 => (if t361 = true then (some (t351, t352, 0)) else (some (([] : List Int), 0, 2)))) else (none)) else (none)) else (some (([] : List Int), 0, 2)))) else (some (([] : List Int), 0, 2))) = some (r1, r2, r3) := H
 have A2 := Aside0.mk A20
 clear A20
 by_cases c3 : t353 = true
 ·subst c3
  have H1 : ((pfor_PutBlock.f k ([] : List Int) t351).bind fun bt356 => (if bt356.2 = 0 then (if 0 ≤ t352 then (if t352 ≤ (l0.length : Int) then ((bytes_Equal.f bt356.1 (l0.take (t352 : Int).toNat)).bind fun t361 => (if t361 = true then (some (t351, t352, 0)) else (some (([] : List Int), 0, 2)))) else (none)) else (none)) else (some (([] : List Int), 0, 2)))) = some (r1, r2, r3) := by rw [if_pos rfl] at H; exact H
  clear H
  have H := H1
  clear H1
  replace H := Option.bind_eq_some_iff.mp H
  obtain ⟨⟨t356, t357⟩, A40, H⟩ := H
  replace H : (if t357 = 0 then (if 0 ≤ t352 then (if t352 ≤ (l0.length : Int) then ((bytes_Equal.f t356 (l0.take (t352 : Int).toNat)).bind fun t361 => (if t361 = true then (some (t351, t352, 0)) else (some (([] : List Int), 0, 2)))) else (none)) else (none)) else (some (([] : List Int), 0, 2))) = some (r1, r2, r3) := H
  have A4 := Aside0.mk A40
  clear A40
  by_cases c5 : t357 = 0
  ·rw [if_pos c5] at H
   have c5b0 : (t357 == 0) = true := beq_iff_eq.mpr c5
   have c5b1 : (t357 != 0) = false := bne_eq_false_iff_eq.mpr c5
   clear c5
   by_cases c6 : 0 ≤ t352
   ·rw [if_pos c6] at H
    have c6b0 := eq_true c6
    have c6b1 : decide (0 ≤ t352) = true := decide_eq_true c6
    clear c6
    by_cases c7 : t352 ≤ (l0.length : Int)
    ·rw [if_pos c7] at H
     have c7b0 := eq_true c7
     have c7b1 : decide (t352 ≤ (l0.length : Int)) = true := decide_eq_true c7
     clear c7
     replace H := Option.bind_eq_some_iff.mp H
     obtain ⟨t361, A80, H⟩ := H
     replace H : (if t361 = true then (some (t351, t352, 0)) else (some (([] : List Int), 0, 2))) = some (r1, r2, r3) := H
     have A8 := Aside0.mk A80
     clear A80
     by_cases c9 : t361 = true
     ·subst c9
      have H1 : (some (t351, t352, 0)) = some (r1, r2, r3) := by rw [if_pos rfl] at H; exact H
      clear H
      have H := H1
      clear H1
      simp only [Option.some.injEq, Prod.mk.injEq] at H
      obtain ⟨rfl, rfl, rfl⟩ := H
      go_enter Try.func16, Try.ntmps16
      go_wp2_with (first | ((with_reducible refine gaC_ (f := 35) rfl ?_); refine goesL_ (some 12) rfl rfl Try.func35 (by kernel_rfl) rfl #[.slice A0 l0.length c0] rfl (by (try simp only [List.map_toArray, List.map_cons, List.map_nil]); first | done | rfl | (simp only [List.length_drop, List.length_take]; rfl)) ?_; (with_reducible refine (pfor_read.calls k _ _ l0 t351 t352 true _ ?side1 ?side2 A2.out).mono ?_); (case side1 => repeat (first | exact HR0.out | (with_reducible refine Kd.cA_ ?_ _) | (with_reducible refine Kd.cN_ ?_ _) | (with_reducible refine Kd.cD_ ?_))); (case side2 => exact HC0.out); rintro e w10 ⟨v354, rfl, ho0, hb⟩; refine ⟨_, rfl, ?_⟩; have n0_ := Aside0.mk (Kd.R_lower ho0 (pbS_ (by repeat (first | (with_reducible first | exact HB.out | apply pbA_ | apply pbN_ | apply pb1_) | exact HB.out)))); have n1_ := Aside0.mk (below_step (by repeat (first | (with_reducible first | exact HB.out | apply pbA_ | apply pbN_ | apply pb1_) | exact HB.out)) hb); clear HB; have HO355 := n0_; have HB := n1_; clear n0_ n1_; (try clear hb); (try clear hb2); (try clear hk); (try clear hi); (try clear ho0); obtain ⟨Ao11, co11, eo11⟩ := Kd.R_slice HO355.out; subst eo11) | ((with_reducible refine gaC_ (f := 12) rfl ?_); refine goesL_ (some 20) rfl rfl Try.func12 (by kernel_rfl) rfl #[.slice none 0 0, .slice Ao11 t351.length co11] rfl (by (try simp only [List.map_toArray, List.map_cons, List.map_nil]); first | done | rfl | (simp only [List.length_drop, List.length_take]; rfl)) ?_; (refine (pfor_PutBlock.calls k _ _ ([] : List Int) _ _ t351 t356 t357 _ ?side1 ?side2 ?side3 ?side4 A4.out).mono ?_); (case side1 => exact Kd.C_nil _ _); (case side2 => exact Nat.le_refl _); (case side3 => repeat (first | exact (Kd.R_reads' HO355.out).2.2 | (with_reducible refine Kd.cA_ ?_ _) | (with_reducible refine Kd.cN_ ?_ _) | (with_reducible refine Kd.cD_ ?_))); (case side4 => exact (Kd.R_reads' HO355.out).2.1); rintro e w12 ⟨v358, rfl, ho0, hb⟩; refine ⟨_, rfl, ?_⟩; have n0_ := Aside0.mk (Kd.R_below (by (with_reducible repeat (first | apply Kd.rA_ | apply Kd.rN_ | apply Kd.rD_)); exact HO355.out) hb); have n1_ := Aside0.mk (Kd.R_lower ho0 (pbS_ (by repeat (first | (with_reducible first | exact HB.out | apply pbA_ | apply pbN_ | apply pb1_) | exact HB.out)))); have n2_ := Aside0.mk (below_step (by repeat (first | (with_reducible first | exact HB.out | apply pbA_ | apply pbN_ | apply pb1_) | exact HB.out)) hb); clear HO355; clear HB; have HO355 := n0_; have HO359 := n1_; have HB := n2_; clear n0_ n1_ n2_; (try clear hb); (try clear hb2); (try clear hk); (try clear hi); (try clear ho0); obtain ⟨i013, hi013, _, hsz13, _⟩ := info_parts info5; obtain ⟨hcut13, hA13, hC13⟩ := print_take_of (P := Try.prog) (Value.int .u8) 0 22 5 .i64 Try.underlying22 hi013 hsz13 A0 c0 l0 t352 (of_decide_eq_true (by first | (with_reducible assumption) | assumption)) (of_decide_eq_true (by first | (with_reducible assumption) | assumption)) HC0.out; have HR360 := Aside0.mk (Kd.C_of_reads (h1 := fun _ => rfl) (hA13 _ (Kd.reads_of_C HR0.out))); have HC360 := Aside0.mk hC13; clear hA13 hC13 hi013 hsz13; obtain ⟨Ao14, co14, eo14⟩ := Kd.R_slice HO359.out; subst eo14) | (go_at_call 36; refine calls_of_args (args' := #[.slice Ao14 t356.length co14, .slice A0 (l0.take (t352 : Int).toNat).length c0]) (by first | (rw [show (l0.take (t352 : Int).toNat).length = t352.toNat from (by rw [List.length_take]; have h_ : (t352 : Int) ≤ (l0.length : Int) := of_decide_eq_true (by first | (with_reducible assumption) | assumption); omega)] <;> rfl) | (simp only [List.length_take, List.length_drop, Int.toNat_natCast] <;> rfl) | rfl) ?_; (with_reducible refine (bytes_Equal.calls _ _ t356 _ _ (l0.take (t352 : Int).toNat) true _ ?side1 ?side2 ?side3 ?side4 A8.out).mono ?_); (case side1 => repeat (first | exact (Kd.R_reads' HO359.out).2.2 | (with_reducible refine Kd.cA_ ?_ _) | (with_reducible refine Kd.cN_ ?_ _) | (with_reducible refine Kd.cD_ ?_))); (case side2 => exact (Kd.R_reads' HO359.out).2.1); (case side3 => repeat (first | exact (Kd.C_below HR360.out HB.out) | (with_reducible refine Kd.cA_ ?_ _) | (with_reducible refine Kd.cN_ ?_ _) | (with_reducible refine Kd.cD_ ?_))); (case side4 => exact HC360.out); rintro e w' ⟨rfl, ⟨nd, rfl⟩⟩))
      go_ret3
      exact ⟨_, by first | rfl | (simp [eWn_, eWs_] <;> rfl) | (simp [*, eWn_, eWs_] <;> rfl), by (with_reducible repeat (first | apply Kd.rA_ | apply Kd.rN_ | apply Kd.rD_)); exact HO355.out, by repeat (first | (with_reducible first | exact HB.out | apply pbA_ | apply pbN_ | apply pb1_) | exact HB.out)⟩
     ·replace c9 := Bool.eq_false_iff.mpr c9
      subst c9
      have H1 : (some (([] : List Int), 0, 2)) = some (r1, r2, r3) := by rw [if_neg (show ¬ (false = true) by decide)] at H; exact H
      clear H
      have H := H1
      clear H1
      simp only [Option.some.injEq, Prod.mk.injEq] at H
      obtain ⟨rfl, rfl, rfl⟩ := H
      go_enter Try.func16, Try.ntmps16
      go_wp2_with (first | ((with_reducible refine gaC_ (f := 35) rfl ?_); refine goesL_ (some 12) rfl rfl Try.func35 (by kernel_rfl) rfl #[.slice A0 l0.length c0] rfl (by (try simp only [List.map_toArray, List.map_cons, List.map_nil]); first | done | rfl | (simp only [List.length_drop, List.length_take]; rfl)) ?_; (with_reducible refine (pfor_read.calls k _ _ l0 t351 t352 true _ ?side1 ?side2 A2.out).mono ?_); (case side1 => repeat (first | exact HR0.out | (with_reducible refine Kd.cA_ ?_ _) | (with_reducible refine Kd.cN_ ?_ _) | (with_reducible refine Kd.cD_ ?_))); (case side2 => exact HC0.out); rintro e w15 ⟨v354, rfl, ho0, hb⟩; refine ⟨_, rfl, ?_⟩; have n0_ := Aside0.mk (Kd.R_lower ho0 (pbS_ (by repeat (first | (with_reducible first | exact HB.out | apply pbA_ | apply pbN_ | apply pb1_) | exact HB.out)))); have n1_ := Aside0.mk (below_step (by repeat (first | (with_reducible first | exact HB.out | apply pbA_ | apply pbN_ | apply pb1_) | exact HB.out)) hb); clear HB; have HO355 := n0_; have HB := n1_; clear n0_ n1_; (try clear hb); (try clear hb2); (try clear hk); (try clear hi); (try clear ho0); obtain ⟨Ao16, co16, eo16⟩ := Kd.R_slice HO355.out; subst eo16) | ((with_reducible refine gaC_ (f := 12) rfl ?_); refine goesL_ (some 20) rfl rfl Try.func12 (by kernel_rfl) rfl #[.slice none 0 0, .slice Ao16 t351.length co16] rfl (by (try simp only [List.map_toArray, List.map_cons, List.map_nil]); first | done | rfl | (simp only [List.length_drop, List.length_take]; rfl)) ?_; (refine (pfor_PutBlock.calls k _ _ ([] : List Int) _ _ t351 t356 t357 _ ?side1 ?side2 ?side3 ?side4 A4.out).mono ?_); (case side1 => exact Kd.C_nil _ _); (case side2 => exact Nat.le_refl _); (case side3 => repeat (first | exact (Kd.R_reads' HO355.out).2.2 | (with_reducible refine Kd.cA_ ?_ _) | (with_reducible refine Kd.cN_ ?_ _) | (with_reducible refine Kd.cD_ ?_))); (case side4 => exact (Kd.R_reads' HO355.out).2.1); rintro e w17 ⟨v358, rfl, ho0, hb⟩; refine ⟨_, rfl, ?_⟩; have n0_ := Aside0.mk (Kd.R_below (by (with_reducible repeat (first | apply Kd.rA_ | apply Kd.rN_ | apply Kd.rD_)); exact HO355.out) hb); have n1_ := Aside0.mk (Kd.R_lower ho0 (pbS_ (by repeat (first | (with_reducible first | exact HB.out | apply pbA_ | apply pbN_ | apply pb1_) | exact HB.out)))); have n2_ := Aside0.mk (below_step (by repeat (first | (with_reducible first | exact HB.out | apply pbA_ | apply pbN_ | apply pb1_) | exact HB.out)) hb); clear HO355; clear HB; have HO355 := n0_; have HO359 := n1_; have HB := n2_; clear n0_ n1_ n2_; (try clear hb); (try clear hb2); (try clear hk); (try clear hi); (try clear ho0); obtain ⟨i018, hi018, _, hsz18, _⟩ := info_parts info5; obtain ⟨hcut18, hA18, hC18⟩ := print_take_of (P := Try.prog) (Value.int .u8) 0 22 5 .i64 Try.underlying22 hi018 hsz18 A0 c0 l0 t352 (of_decide_eq_true (by first | (with_reducible assumption) | assumption)) (of_decide_eq_true (by first | (with_reducible assumption) | assumption)) HC0.out; have HR360 := Aside0.mk (Kd.C_of_reads (h1 := fun _ => rfl) (hA18 _ (Kd.reads_of_C HR0.out))); have HC360 := Aside0.mk hC18; clear hA18 hC18 hi018 hsz18; obtain ⟨Ao19, co19, eo19⟩ := Kd.R_slice HO359.out; subst eo19) | (go_at_call 36; refine calls_of_args (args' := #[.slice Ao19 t356.length co19, .slice A0 (l0.take (t352 : Int).toNat).length c0]) (by first | (rw [show (l0.take (t352 : Int).toNat).length = t352.toNat from (by rw [List.length_take]; have h_ : (t352 : Int) ≤ (l0.length : Int) := of_decide_eq_true (by first | (with_reducible assumption) | assumption); omega)] <;> rfl) | (simp only [List.length_take, List.length_drop, Int.toNat_natCast] <;> rfl) | rfl) ?_; (with_reducible refine (bytes_Equal.calls _ _ t356 _ _ (l0.take (t352 : Int).toNat) false _ ?side1 ?side2 ?side3 ?side4 A8.out).mono ?_); (case side1 => repeat (first | exact (Kd.R_reads' HO359.out).2.2 | (with_reducible refine Kd.cA_ ?_ _) | (with_reducible refine Kd.cN_ ?_ _) | (with_reducible refine Kd.cD_ ?_))); (case side2 => exact (Kd.R_reads' HO359.out).2.1); (case side3 => repeat (first | exact (Kd.C_below HR360.out HB.out) | (with_reducible refine Kd.cA_ ?_ _) | (with_reducible refine Kd.cN_ ?_ _) | (with_reducible refine Kd.cD_ ?_))); (case side4 => exact HC360.out); rintro e w' ⟨rfl, ⟨nd, rfl⟩⟩))
      go_ret3
      exact ⟨_, by first | rfl | (simp [eWn_, eWs_] <;> rfl) | (simp [*, eWn_, eWs_] <;> rfl), by first | exact Kd.R_nil _ _ _ _ _ | exact Kd.N_nil _ _ _ _ _ | exact Kd.V_nil _ _ _ _ _ | exact Kd.Q_nil _ _ _ _ _ | exact Kd.S_nil _ _ _ _ _, by repeat (first | (with_reducible first | exact HB.out | apply pbA_ | apply pbN_ | apply pb1_) | exact HB.out)⟩
    ·rw [if_neg c7] at H
     exact absurd H (by simp)
   ·rw [if_neg c6] at H
    exact absurd H (by simp)
  ·rw [if_neg c5] at H
   have c5b0 : (t357 == 0) = false := beq_eq_false_iff_ne.mpr c5
   have c5b1 : (t357 != 0) = true := bne_iff_ne.mpr c5
   simp only [Option.some.injEq, Prod.mk.injEq] at H
   obtain ⟨rfl, rfl, rfl⟩ := H
   go_enter Try.func16, Try.ntmps16
   go_wp2_with (first | ((with_reducible refine gaC_ (f := 35) rfl ?_); refine goesL_ (some 12) rfl rfl Try.func35 (by kernel_rfl) rfl #[.slice A0 l0.length c0] rfl (by (try simp only [List.map_toArray, List.map_cons, List.map_nil]); first | done | rfl | (simp only [List.length_drop, List.length_take]; rfl)) ?_; (with_reducible refine (pfor_read.calls k _ _ l0 t351 t352 true _ ?side1 ?side2 A2.out).mono ?_); (case side1 => repeat (first | exact HR0.out | (with_reducible refine Kd.cA_ ?_ _) | (with_reducible refine Kd.cN_ ?_ _) | (with_reducible refine Kd.cD_ ?_))); (case side2 => exact HC0.out); rintro e w20 ⟨v354, rfl, ho0, hb⟩; refine ⟨_, rfl, ?_⟩; have n0_ := Aside0.mk (Kd.R_lower ho0 (pbS_ (by repeat (first | (with_reducible first | exact HB.out | apply pbA_ | apply pbN_ | apply pb1_) | exact HB.out)))); have n1_ := Aside0.mk (below_step (by repeat (first | (with_reducible first | exact HB.out | apply pbA_ | apply pbN_ | apply pb1_) | exact HB.out)) hb); clear HB; have HO355 := n0_; have HB := n1_; clear n0_ n1_; (try clear hb); (try clear hb2); (try clear hk); (try clear hi); (try clear ho0); obtain ⟨Ao21, co21, eo21⟩ := Kd.R_slice HO355.out; subst eo21) | ((with_reducible refine gaC_ (f := 12) rfl ?_); refine goesL_ (some 20) rfl rfl Try.func12 (by kernel_rfl) rfl #[.slice none 0 0, .slice Ao21 t351.length co21] rfl (by (try simp only [List.map_toArray, List.map_cons, List.map_nil]); first | done | rfl | (simp only [List.length_drop, List.length_take]; rfl)) ?_; (refine (pfor_PutBlock.calls k _ _ ([] : List Int) _ _ t351 t356 t357 _ ?side1 ?side2 ?side3 ?side4 A4.out).mono ?_); (case side1 => exact Kd.C_nil _ _); (case side2 => exact Nat.le_refl _); (case side3 => repeat (first | exact (Kd.R_reads' HO355.out).2.2 | (with_reducible refine Kd.cA_ ?_ _) | (with_reducible refine Kd.cN_ ?_ _) | (with_reducible refine Kd.cD_ ?_))); (case side4 => exact (Kd.R_reads' HO355.out).2.1); rintro e w22 ⟨v358, rfl, ho0, hb⟩; refine ⟨_, rfl, ?_⟩; have n0_ := Aside0.mk (Kd.R_below (by (with_reducible repeat (first | apply Kd.rA_ | apply Kd.rN_ | apply Kd.rD_)); exact HO355.out) hb); have n1_ := Aside0.mk (Kd.R_lower ho0 (pbS_ (by repeat (first | (with_reducible first | exact HB.out | apply pbA_ | apply pbN_ | apply pb1_) | exact HB.out)))); have n2_ := Aside0.mk (below_step (by repeat (first | (with_reducible first | exact HB.out | apply pbA_ | apply pbN_ | apply pb1_) | exact HB.out)) hb); clear HO355; clear HB; have HO355 := n0_; have HO359 := n1_; have HB := n2_; clear n0_ n1_ n2_; (try clear hb); (try clear hb2); (try clear hk); (try clear hi); (try clear ho0)))
   go_ret3
   exact ⟨_, by first | rfl | (simp [eWn_, eWs_] <;> rfl) | (simp [*, eWn_, eWs_] <;> rfl), by first | exact Kd.R_nil _ _ _ _ _ | exact Kd.N_nil _ _ _ _ _ | exact Kd.V_nil _ _ _ _ _ | exact Kd.Q_nil _ _ _ _ _ | exact Kd.S_nil _ _ _ _ _, by repeat (first | (with_reducible first | exact HB.out | apply pbA_ | apply pbN_ | apply pb1_) | exact HB.out)⟩
 ·replace c3 := Bool.eq_false_iff.mpr c3
  subst c3
  have H1 : (some (([] : List Int), 0, 2)) = some (r1, r2, r3) := by rw [if_neg (show ¬ (false = true) by decide)] at H; exact H
  clear H
  have H := H1
  clear H1
  simp only [Option.some.injEq, Prod.mk.injEq] at H
  obtain ⟨rfl, rfl, rfl⟩ := H
  go_enter Try.func16, Try.ntmps16
  go_wp2_with (first | ((with_reducible refine gaC_ (f := 35) rfl ?_); refine goesL_ (some 12) rfl rfl Try.func35 (by kernel_rfl) rfl #[.slice A0 l0.length c0] rfl (by (try simp only [List.map_toArray, List.map_cons, List.map_nil]); first | done | rfl | (simp only [List.length_drop, List.length_take]; rfl)) ?_; (with_reducible refine (pfor_read.calls k _ _ l0 t351 t352 false _ ?side1 ?side2 A2.out).mono ?_); (case side1 => repeat (first | exact HR0.out | (with_reducible refine Kd.cA_ ?_ _) | (with_reducible refine Kd.cN_ ?_ _) | (with_reducible refine Kd.cD_ ?_))); (case side2 => exact HC0.out); rintro e w23 ⟨v354, rfl, ho0, hb⟩; refine ⟨_, rfl, ?_⟩; have n0_ := Aside0.mk (Kd.R_lower ho0 (pbS_ (by repeat (first | (with_reducible first | exact HB.out | apply pbA_ | apply pbN_ | apply pb1_) | exact HB.out)))); have n1_ := Aside0.mk (below_step (by repeat (first | (with_reducible first | exact HB.out | apply pbA_ | apply pbN_ | apply pb1_) | exact HB.out)) hb); clear HB; have HO355 := n0_; have HB := n1_; clear n0_ n1_; (try clear hb); (try clear hb2); (try clear hk); (try clear hi); (try clear ho0)))
  go_ret3
  exact ⟨_, by first | rfl | (simp [eWn_, eWs_] <;> rfl) | (simp [*, eWn_, eWs_] <;> rfl), by first | exact Kd.R_nil _ _ _ _ _ | exact Kd.N_nil _ _ _ _ _ | exact Kd.V_nil _ _ _ _ _ | exact Kd.Q_nil _ _ _ _ _ | exact Kd.S_nil _ _ _ _ _, by repeat (first | (with_reducible first | exact HB.out | apply pbA_ | apply pbN_ | apply pb1_) | exact HB.out)⟩
def dragnetref02_Take.l0 : Nat → List Int → Int → Int → Int → Option (Int × Int × Int)
 | 0, _, _, _, _ => none
 | k + 1, x0, x5, x6, x7 => if x7 > 0 then (if 0 ≤ x7 then (if x7 < (x0.length : Int) then (dragnetref02_Take.l0 k x0 x5 (IntKind.u64.wrap ((IntKind.u64.wrap (x6 * 256)) + (IntKind.u64.wrap (rd x0 x7)))) (wrap64 (x7 - 1))) else (none)) else (none)) else ((dragnetref02_Bytes.f k x6).bind fun t366 => (if (t366.length : Int) = (wrap64 (1 + x5)) then (some (x6, wrap64 (1 + x5), 0)) else (some (0, 0, 2))))
def dragnetref02_Take.f (k : Nat) (l0 : List Int) : Option (Int × Int × Int) := if (l0.length : Int) = 0 then (some (0, 0, 3)) else (if 0 < (l0.length : Int) then (if (rd l0 0) ≤ 247 then (some (IntKind.u64.wrap (rd l0 0), 1, 0)) else (if (wrap64 ((l0.length : Int) - 1)) < (wrap64 ((wrap64 (rd l0 0)) - 247)) then (some (0, 0, 3)) else (dragnetref02_Take.l0 k l0 (wrap64 ((wrap64 (rd l0 0)) - 247)) 0 (wrap64 ((wrap64 (rd l0 0)) - 247))))) else (none))
theorem dragnetref02_Take.mono_l : ∀ k, (∀ y0 y1 y2 y3, LeO (dragnetref02_Take.l0 k y0 y1 y2 y3) (dragnetref02_Take.l0 (k + 1) y0 y1 y2 y3))
 | 0 => fun _ _ _ _ r h => by simp [dragnetref02_Take.l0] at h
 | k + 1 => by
  have ih0 := dragnetref02_Take.mono_l k
  ·intro y0 y1 y2 y3
   unfold dragnetref02_Take.l0
   repeat' first
   | (with_reducible exact ih0 _ _ _ _)
   | (with_reducible exact dragnetref02_Bytes.mono _ _)
   | (with_reducible exact LeO.refl _)
   | (with_reducible exact LeO.none _)
   | (with_reducible refine LeO.ite ?_ ?_)
   | (with_reducible refine LeO.bind ?_ (fun _ => ?_))
   | exact ih0 _ _ _ _
   | exact dragnetref02_Bytes.mono _ _
   | exact LeO.none _
   | refine LeO.ite ?_ ?_
   | refine LeO.bind ?_ (fun _ => ?_)
theorem dragnetref02_Take.mono : ∀ a0 k, LeO (dragnetref02_Take.f k a0) (dragnetref02_Take.f (k + 1) a0) := by
 intro a0 k
 have ih0 := dragnetref02_Take.mono_l k
 unfold dragnetref02_Take.f
 repeat' first
   | (with_reducible exact ih0 _ _ _ _)
   | (with_reducible exact dragnetref02_Bytes.mono _ _)
   | (with_reducible exact LeO.refl _)
   | (with_reducible exact LeO.none _)
   | (with_reducible refine LeO.ite ?_ ?_)
   | (with_reducible refine LeO.bind ?_ (fun _ => ?_))
   | exact ih0 _ _ _ _
   | exact dragnetref02_Bytes.mono _ _
   | exact LeO.none _
   | refine LeO.ite ?_ ?_
   | refine LeO.bind ?_ (fun _ => ?_)
set_option maxHeartbeats 8000000 in
set_option maxRecDepth 100000 in
theorem dragnetref02_Take.calls (k : Nat) (A0 : Option Addr) (c0 : Nat) (l0 : List Int) (r1 : Int) (r2 : Int) (r3 : Int) (w : World) (hr0 : Kd.C (Kd.int .u8) w A0 l0.length l0) (hc0 : l0.length ≤ c0) (h : dragnetref02_Take.f k l0 = some (r1, r2, r3)) :
  Calls Try.prog 45 #[.slice A0 l0.length c0] w fun e w' => e = .returned (.tuple #[.int .u64 r1, .int .i64 r2, .int .i64 r3]) ∧ Below w.heap.size w w' := by
 have HR0 := Aside0.mk hr0
 have HC0 := Aside0.mk hc0
 clear hr0 hc0
 have HB := Aside0.mk (Below.refl w.heap.size w)
 have H : (if (l0.length : Int) = 0 then (some (0, 0, 3)) else (if 0 < (l0.length : Int) then (if (rd l0 0) ≤ 247 then (some (IntKind.u64.wrap (rd l0 0), 1, 0)) else (if (wrap64 ((l0.length : Int) - 1)) < (wrap64 ((wrap64 (rd l0 0)) - 247)) then (some (0, 0, 3)) else (dragnetref02_Take.l0 k l0 (wrap64 ((wrap64 (rd l0 0)) - 247)) 0 (wrap64 ((wrap64 (rd l0 0)) - 247))))) else (none))) = some (r1, r2, r3) := h
 clear h
 by_cases c2 : (l0.length : Int) = 0
 ·rw [if_pos c2] at H
  have c2b0 : ((l0.length : Int) == 0) = true := beq_iff_eq.mpr c2
  have c2b1 : ((l0.length : Int) != 0) = false := bne_eq_false_iff_eq.mpr c2
  clear c2
  simp only [Option.some.injEq, Prod.mk.injEq] at H
  obtain ⟨rfl, rfl, rfl⟩ := H
  go_enter Try.func45, Try.ntmps45
  go_wp2
  go_ret3
  exact ⟨by first | rfl | (simp [eWn_, eWs_] <;> rfl) | (simp [*, eWn_, eWs_] <;> rfl), by repeat (first | (with_reducible first | exact HB.out | apply pbA_ | apply pbN_ | apply pb1_) | exact HB.out)⟩
 ·rw [if_neg c2] at H
  have c2b0 : ((l0.length : Int) == 0) = false := beq_eq_false_iff_ne.mpr c2
  have c2b1 : ((l0.length : Int) != 0) = true := bne_iff_ne.mpr c2
  have c2b2 : ¬ (l0 = []) := fun h_ => c2 (by rw [h_]; rfl)
  by_cases c3 : 0 < (l0.length : Int)
  ·rw [if_pos c3] at H
   have c3b0 : decide (0 < (l0.length : Int)) = true := decide_eq_true c3
   have c3b1 : decide (0 < l0.length) = true := decide_eq_true (by omega)
   clear c3
   by_cases c4 : (rd l0 0) ≤ 247
   ·rw [if_pos c4] at H
    have c4b0 : decide ((rd l0 0) ≤ 247) = true := decide_eq_true c4
    clear c4
    simp only [Option.some.injEq, Prod.mk.injEq] at H
    obtain ⟨rfl, rfl, rfl⟩ := H
    have p362 : 0 ≤ (0 : Int) := (by omega)
    have q362 : 0 < (l0.length : Int) := of_decide_eq_true (by first | (with_reducible assumption) | assumption)
    obtain ⟨ad362, e362, hx362_0⟩ := Kd.at_int HR0.out 0 p362 q362
    cases e362
    have qi362 : (0 < l0.length) = True := eq_true (by omega)
    (try rw [show ((0 : Int)).toNat = 0 from rfl] at hx362_0)
    (try rw [Addr.add_zero'] at hx362_0)
    replace p362 := eq_true p362
    replace q362 := eq_true q362
    have p363 : 0 ≤ (0 : Int) := (by omega)
    have q363 : 0 < (l0.length : Int) := of_decide_eq_true (by first | (with_reducible assumption) | assumption)
    obtain ⟨ad363, e363, hx363_0⟩ := Kd.at_int HR0.out 0 p363 q363
    obtain rfl : ad362 = ad363 := (by injection e363)
    have qi363 : (0 < l0.length) = True := eq_true (by omega)
    (try rw [show ((0 : Int)).toNat = 0 from rfl] at hx363_0)
    (try rw [Addr.add_zero'] at hx363_0)
    replace p363 := eq_true p363
    replace q363 := eq_true q363
    go_enter Try.func45, Try.ntmps45
    go_wp2
    go_ret3
    exact ⟨by first | rfl | (simp [eWn_, eWs_] <;> rfl) | (simp [*, eWn_, eWs_] <;> rfl), by repeat (first | (with_reducible first | exact HB.out | apply pbA_ | apply pbN_ | apply pb1_) | exact HB.out)⟩
   ·rw [if_neg c4] at H
    have c4b0 : decide ((rd l0 0) ≤ 247) = false := decide_eq_false c4
    clear c4
    by_cases c5 : (wrap64 ((l0.length : Int) - 1)) < (wrap64 ((wrap64 (rd l0 0)) - 247))
    ·rw [if_pos c5] at H
     have c5b0 : decide ((wrap64 ((l0.length : Int) - 1)) < (wrap64 ((wrap64 (rd l0 0)) - 247))) = true := decide_eq_true c5
     clear c5
     simp only [Option.some.injEq, Prod.mk.injEq] at H
     obtain ⟨rfl, rfl, rfl⟩ := H
     have p362 : 0 ≤ (0 : Int) := (by omega)
     have q362 : 0 < (l0.length : Int) := of_decide_eq_true (by first | (with_reducible assumption) | assumption)
     obtain ⟨ad362, e362, hx362_0⟩ := Kd.at_int HR0.out 0 p362 q362
     cases e362
     have qi362 : (0 < l0.length) = True := eq_true (by omega)
     (try rw [show ((0 : Int)).toNat = 0 from rfl] at hx362_0)
     (try rw [Addr.add_zero'] at hx362_0)
     replace p362 := eq_true p362
     replace q362 := eq_true q362
     have p364 : 0 ≤ (0 : Int) := (by omega)
     have q364 : 0 < (l0.length : Int) := of_decide_eq_true (by first | (with_reducible assumption) | assumption)
     obtain ⟨ad364, e364, hx364_0⟩ := Kd.at_int HR0.out 0 p364 q364
     obtain rfl : ad362 = ad364 := (by injection e364)
     have qi364 : (0 < l0.length) = True := eq_true (by omega)
     (try rw [show ((0 : Int)).toNat = 0 from rfl] at hx364_0)
     (try rw [Addr.add_zero'] at hx364_0)
     replace p364 := eq_true p364
     replace q364 := eq_true q364
     go_enter Try.func45, Try.ntmps45
     go_wp2
     go_ret3
     exact ⟨by first | rfl | (simp [eWn_, eWs_] <;> rfl) | (simp [*, eWn_, eWs_] <;> rfl), by repeat (first | (with_reducible first | exact HB.out | apply pbA_ | apply pbN_ | apply pb1_) | exact HB.out)⟩
    ·rw [if_neg c5] at H
     have c5b0 : decide ((wrap64 ((l0.length : Int) - 1)) < (wrap64 ((wrap64 (rd l0 0)) - 247))) = false := decide_eq_false c5
     clear c5
     have H' := Aside0.mk H
     clear H
     have p362 : 0 ≤ (0 : Int) := (by omega)
     have q362 : 0 < (l0.length : Int) := of_decide_eq_true (by first | (with_reducible assumption) | assumption)
     obtain ⟨ad362, e362, hx362_0⟩ := Kd.at_int HR0.out 0 p362 q362
     cases e362
     have qi362 : (0 < l0.length) = True := eq_true (by omega)
     (try rw [show ((0 : Int)).toNat = 0 from rfl] at hx362_0)
     (try rw [Addr.add_zero'] at hx362_0)
     replace p362 := eq_true p362
     replace q362 := eq_true q362
     have p364 : 0 ≤ (0 : Int) := (by omega)
     have q364 : 0 < (l0.length : Int) := of_decide_eq_true (by first | (with_reducible assumption) | assumption)
     obtain ⟨ad364, e364, hx364_0⟩ := Kd.at_int HR0.out 0 p364 q364
     obtain rfl : ad362 = ad364 := (by injection e364)
     have qi364 : (0 < l0.length) = True := eq_true (by omega)
     (try rw [show ((0 : Int)).toNat = 0 from rfl] at hx364_0)
     (try rw [Addr.add_zero'] at hx364_0)
     replace p364 := eq_true p364
     replace q364 := eq_true q364
     go_enter Try.func45, Try.ntmps45
     go_wp2
     go_loopg [6, 7] k (fun kq v6 v7 w' => ∃ (x6_1 : Int) (x7_1 : Int), v6 = .int .u64 x6_1 ∧ v7 = .int .i64 x7_1 ∧ Aside0 (dragnetref02_Take.l0 kq l0 (wrap64 ((wrap64 (rd l0 0)) - 247)) x6_1 x7_1 = some (r1, r2, r3)) ∧ Aside0 (kq ≤ k) ∧ Aside0 (Below w.heap.size w w'))
     case atStart => exact ⟨(0), (wrap64 ((wrap64 (rd l0 0)) - 247)), (by first | rfl | (simp; done) | (simp [*]; done)), (by first | rfl | (simp; done) | (simp [*]; done)), H', ⟨Nat.le_refl _⟩, ⟨by repeat (first | (with_reducible first | exact HB.out | apply pbA_ | apply pbN_ | apply pb1_) | exact HB.out)⟩⟩
     case round =>
      clear H'
      try clear c2
      try clear c2b0
      try clear c2b1
      try clear c2b2
      try clear p2
      try clear c3
      try clear c3b0
      try clear c3b1
      try clear p3
      try clear q3
      try clear hx3
      try clear qi3
      try clear c4
      try clear c4b0
      try clear c5
      try clear c5b0
      try clear hx362_0
      try clear hx363_0
      try clear hx364_0
      try clear p362
      try clear p363
      try clear p364
      try clear q362
      try clear q363
      try clear q364
      obtain ⟨x6_1, x7_1, rfl, rfl, HA, HK1, HB⟩ := hrel
      cases gk with
      | zero => exact absurd HA.out (by simp [dragnetref02_Take.l0])
      | succ k1 =>
       have H := HA.out
       clear HA
       simp only [dragnetref02_Take.l0] at H
       by_cases c6 : x7_1 > 0
       ·rw [if_pos c6] at H
        have c6b0 : decide (0 < x7_1) = true := decide_eq_true c6
        clear c6
        by_cases c7 : 0 ≤ x7_1
        ·rw [if_pos c7] at H
         have c7b0 : decide (0 ≤ x7_1) = true := decide_eq_true c7
         clear c7
         by_cases c8 : x7_1 < (l0.length : Int)
         ·rw [if_pos c8] at H
          have c8b0 : decide (x7_1 < (l0.length : Int)) = true := decide_eq_true c8
          clear c8
          have H' := Aside0.mk H
          clear H
          have p365 : 0 ≤ (x7_1 : Int) := of_decide_eq_true (by first | (with_reducible assumption) | assumption)
          have q365 : x7_1 < (l0.length : Int) := of_decide_eq_true (by first | (with_reducible assumption) | assumption)
          obtain ⟨ad365, e365, hx365_0⟩ := Kd.at_int HR0.out x7_1 p365 q365
          obtain rfl : ad362 = ad365 := (by injection e365)
          replace hx365_0 := (HB.out.cell (World.block_lt_of_cell? w _ hx365_0)).trans hx365_0
          replace p365 := eq_true p365
          replace q365 := eq_true q365
          go_wp2
          go_roundg k1
          case measure => have := HK1.out; omega
          case rel => exact ⟨(IntKind.u64.wrap ((IntKind.u64.wrap (x6_1 * 256)) + (IntKind.u64.wrap (rd l0 x7_1)))), (wrap64 (x7_1 - 1)), (by first | rfl | (simp; done) | (simp [*]; done)), (by first | rfl | (simp; done) | (simp [*]; done)), H', ⟨by have := HK1.out; omega⟩, ⟨by repeat (first | (with_reducible first | exact HB.out | apply pbA_ | apply pbN_ | apply pb1_) | exact HB.out)⟩⟩
         ·rw [if_neg c8] at H
          exact absurd H (by simp)
        ·rw [if_neg c7] at H
         exact absurd H (by simp)
       ·rw [if_neg c6] at H
        have c6b0 : decide (0 < x7_1) = false := decide_eq_false c6
        clear c6
        replace H := Option.bind_eq_some_iff.mp H
        obtain ⟨t366, A90, H⟩ := H
        replace H : (if (t366.length : Int) = (wrap64 (1 + (wrap64 ((wrap64 (rd l0 0)) - 247)))) then (some (x6_1, wrap64 (1 + (wrap64 ((wrap64 (rd l0 0)) - 247))), 0)) else (some (0, 0, 2))) = some (r1, r2, r3) := H
        have A9 := Aside0.mk A90
        clear A90
        by_cases c10 : (t366.length : Int) = (wrap64 (1 + (wrap64 ((wrap64 (rd l0 0)) - 247))))
        ·rw [if_pos c10] at H
         have c10b0 : ((t366.length : Int) == (wrap64 (1 + (wrap64 ((wrap64 (rd l0 0)) - 247))))) = true := beq_iff_eq.mpr c10
         have c10b1 : ((t366.length : Int) != (wrap64 (1 + (wrap64 ((wrap64 (rd l0 0)) - 247))))) = false := bne_eq_false_iff_eq.mpr c10
         clear c10
         simp only [Option.some.injEq, Prod.mk.injEq] at H
         obtain ⟨rfl, rfl, rfl⟩ := H
         go_wp2_with (first | ((with_reducible refine gaC_ (f := 41) rfl ?_); refine goesL_ (some 43) rfl rfl Try.func41 (by kernel_rfl) rfl #[.int .u64 x6_1] rfl (by (try simp only [List.map_toArray, List.map_cons, List.map_nil]); first | done | rfl | (simp only [List.length_drop, List.length_take]; rfl)) ?_; (with_reducible refine (dragnetref02_Bytes.calls k1 x6_1 t366 _ A9.out).mono ?_); rintro e w11 ⟨v367, rfl, ho0, hb⟩; refine ⟨_, rfl, ?_⟩; have n0_ := Aside0.mk (Kd.R_lower ho0 (pbS_ (by repeat (first | (with_reducible first | exact HB.out | apply pbA_ | apply pbN_ | apply pb1_) | exact HB.out)))); have n1_ := Aside0.mk (below_step (by repeat (first | (with_reducible first | exact HB.out | apply pbA_ | apply pbN_ | apply pb1_) | exact HB.out)) hb); clear HB; have HO368 := n0_; have HB := n1_; clear n0_ n1_; (try clear hb); (try clear hb2); (try clear hk); (try clear hi); (try clear ho0); obtain ⟨Ao12, co12, eo12⟩ := Kd.R_slice HO368.out; subst eo12))
         go_ret3
         exact ⟨by first | rfl | (simp [eWn_, eWs_] <;> rfl) | (simp [*, eWn_, eWs_] <;> rfl), by repeat (first | (with_reducible first | exact HB.out | apply pbA_ | apply pbN_ | apply pb1_) | exact HB.out)⟩
        ·rw [if_neg c10] at H
         have c10b0 : ((t366.length : Int) == (wrap64 (1 + (wrap64 ((wrap64 (rd l0 0)) - 247))))) = false := beq_eq_false_iff_ne.mpr c10
         have c10b1 : ((t366.length : Int) != (wrap64 (1 + (wrap64 ((wrap64 (rd l0 0)) - 247))))) = true := bne_iff_ne.mpr c10
         simp only [Option.some.injEq, Prod.mk.injEq] at H
         obtain ⟨rfl, rfl, rfl⟩ := H
         go_wp2_with (first | ((with_reducible refine gaC_ (f := 41) rfl ?_); refine goesL_ (some 43) rfl rfl Try.func41 (by kernel_rfl) rfl #[.int .u64 x6_1] rfl (by (try simp only [List.map_toArray, List.map_cons, List.map_nil]); first | done | rfl | (simp only [List.length_drop, List.length_take]; rfl)) ?_; (with_reducible refine (dragnetref02_Bytes.calls k1 x6_1 t366 _ A9.out).mono ?_); rintro e w13 ⟨v367, rfl, ho0, hb⟩; refine ⟨_, rfl, ?_⟩; have n0_ := Aside0.mk (Kd.R_lower ho0 (pbS_ (by repeat (first | (with_reducible first | exact HB.out | apply pbA_ | apply pbN_ | apply pb1_) | exact HB.out)))); have n1_ := Aside0.mk (below_step (by repeat (first | (with_reducible first | exact HB.out | apply pbA_ | apply pbN_ | apply pb1_) | exact HB.out)) hb); clear HB; have HO368 := n0_; have HB := n1_; clear n0_ n1_; (try clear hb); (try clear hb2); (try clear hk); (try clear hi); (try clear ho0); obtain ⟨Ao14, co14, eo14⟩ := Kd.R_slice HO368.out; subst eo14))
         go_ret3
         exact ⟨by first | rfl | (simp [eWn_, eWs_] <;> rfl) | (simp [*, eWn_, eWs_] <;> rfl), by repeat (first | (with_reducible first | exact HB.out | apply pbA_ | apply pbN_ | apply pb1_) | exact HB.out)⟩
  ·rw [if_neg c3] at H
   exact absurd H (by simp)
end Go.Proofs.Ytkcjjennlhgmhaa.P
end
section
namespace Go.Proofs.Ytkcjjennlhgmhaa.P
open Go.RowKit Go.Proofs.YtkcjjennlhgmhaaW.PrintWords Go.Proofs.YtkcjjennlhgmhaaW.PrintLast Go.Proofs.YtkcjjennlhgmhaaW.PrintMore
attribute [local go_sem] max2_int min2_int max_two min_two max_three min_three max_four min_four
set_option linter.unusedVariables false
set_option linter.unusedSimpArgs false
def IsS61 (w0 W : World) (g : Nat) (f0 : List Int) (f1 : Int) (f2 : Bool) : Prop := ∃ A0 c0, W.heap[g]? = some (.cells #[.slice A0 f0.length c0, .int .i64 f1, .bool f2] 61 (0, 0)) ∧ w0.heap.size ≤ g ∧ (Kd.C (Kd.int .u8) w0 A0 f0.length f0 ∧ f0.length ≤ c0)
theorem IsS61.grown {w0 W : World} {g : Nat} {f0 : List Int} {f1 : Int} {f2 : Bool} {W1 : World} {row : Option Nat} (h : IsS61 w0 W g f0 f1 f2) (hw : W.grownBy W1 row) (hne : some g ≠ row) : IsS61 w0 W1 g f0 f1 f2 := by
 obtain ⟨A0, c0, hb, hg, hr0⟩ := h
 exact ⟨A0, c0, blk_grown hb hw hne, hg, hr0⟩
theorem IsS61.kept {w0 W : World} {g : Nat} {f0 : List Int} {f1 : Int} {f2 : Bool} {W1 : World} {S : Nat → Prop} (h : IsS61 w0 W g f0 f1 f2) (hk : Kept W W1 S) (hne : ¬ S g) : IsS61 w0 W1 g f0 f1 f2 := by
 obtain ⟨A0, c0, hb, hg, hr0⟩ := h
 exact ⟨A0, c0, blk_kept hb hk hne, hg, hr0⟩
theorem IsS61.below {w0 W : World} {g : Nat} {f0 : List Int} {f1 : Int} {f2 : Bool} {W1 : World} (h : IsS61 w0 W g f0 f1 f2) (hw : Below W.heap.size W W1) : IsS61 w0 W1 g f0 f1 f2 := h.grown (grown_of_below hw none) (by simp)
theorem IsS61.alloc {w0 W : World} {g : Nat} {f0 : List Int} {f1 : Int} {f2 : Bool} (h : IsS61 w0 W g f0 f1 f2) (o : Obj) : IsS61 w0 (W.alloc o) g f0 f1 f2 := h.below (pbA_ (Below.refl _ _) o)
theorem IsS61.drewN {w0 W : World} {g : Nat} {f0 : List Int} {f1 : Int} {f2 : Bool} (h : IsS61 w0 W g f0 f1 f2) (m : Nat) : IsS61 w0 (W.drewN m) g f0 f1 f2 := h
theorem IsS61.drew {w0 W : World} {g : Nat} {f0 : List Int} {f1 : Int} {f2 : Bool} (h : IsS61 w0 W g f0 f1 f2) : IsS61 w0 W.drew g f0 f1 f2 := h
theorem IsS61.at_ {w0 W : World} {g : Nat} {f0 : List Int} {f1 : Int} {f2 : Bool} {w' : World} {m : Nat} (hq : W.drewN m = w') (h : IsS61 w0 W g f0 f1 f2) : IsS61 w0 w' g f0 f1 f2 := by subst hq; exact IsS61.drewN h m
theorem IsS61.apart {w0 W : World} {g : Nat} {f0 : List Int} {f1 : Int} {f2 : Bool} {α : Type} {d : Kd α} {e : Nat} {base : Nat} {ok : Nat → Prop} {v : Value} {xs : List α} (h : IsS61 w0 W g f0 f1 f2) (ho : d.R e W base ok v xs) (ht : ∀ q, q ∈ e :: d.E → q ≠ 61) : d.R e W base (fun k => ok k ∧ k ≠ g) v xs := by
 obtain ⟨A0, c0, hb, hg, hr0⟩ := h
 exact Kd.R_types ho hb ht
theorem IsS61.own_ne {w0 W : World} {g : Nat} {f0 : List Int} {f1 : Int} {f2 : Bool} {α : Type} {d : Kd α} {e : Nat} {base : Nat} {ok : Nat → Prop} {v : Value} {xs : List α} (h : IsS61 w0 W g f0 f1 f2) (ho : d.R e W base ok v xs) (ht : e ≠ 61) : some g ≠ v.ownBlock := by
 obtain ⟨A0, c0, hb, hg, hr0⟩ := h
 exact Kd.R_ne ho hb ht
theorem IsS61.lt {w0 W : World} {g : Nat} {f0 : List Int} {f1 : Int} {f2 : Bool} (h : IsS61 w0 W g f0 f1 f2) : g < W.heap.size := by
 obtain ⟨A0, c0, hb, hg, hr0⟩ := h
 exact blk_lt hb
theorem IsS61.ge {w0 W : World} {g : Nat} {f0 : List Int} {f1 : Int} {f2 : Bool} (h : IsS61 w0 W g f0 f1 f2) : w0.heap.size ≤ g := by
 obtain ⟨A0, c0, hb, hg, hr0⟩ := h
 exact hg
theorem IsS61.far {w0 W : World} {g : Nat} {f0 : List Int} {f1 : Int} {f2 : Bool} {p : Addr} (h : IsS61 w0 W g f0 f1 f2) (hne : g ≠ p.block) (u : Value) : IsS61 w0 (W.setCell p u) g f0 f1 f2 := by
 obtain ⟨A0, c0, hb, hg, hr0⟩ := h
 exact ⟨A0, c0, blk_far hb hne u, hg, hr0⟩
theorem cellS61_0 {W : World} {g : Nat} {A0 : Option Addr} {c0 : Nat} {f0 : List Int} {f1 : Int} {f2 : Bool} (h : W.heap[g]? = some (.cells #[.slice A0 f0.length c0, .int .i64 f1, .bool f2] 61 (0, 0))) : W.cell? ⟨g, 0, none⟩ = some (.slice A0 f0.length c0) := (blk_cell h 0).trans rfl
theorem cellS61_1 {W : World} {g : Nat} {A0 : Option Addr} {c0 : Nat} {f0 : List Int} {f1 : Int} {f2 : Bool} (h : W.heap[g]? = some (.cells #[.slice A0 f0.length c0, .int .i64 f1, .bool f2] 61 (0, 0))) : W.cell? ⟨g, 1, none⟩ = some (.int .i64 f1) := (blk_cell h 1).trans rfl
theorem IsS61.set_1 {w0 W : World} {g : Nat} {f0 : List Int} {f1 : Int} {f2 : Bool} (h : IsS61 w0 W g f0 f1 f2) (x : Int) : IsS61 w0 (W.setCell ⟨g, 1, none⟩ (.int .i64 x)) g f0 x f2 := by
 obtain ⟨A0, c0, hb, hg, hr0⟩ := h
 exact ⟨A0, c0, by simpa using blk_set hb 1 (.int .i64 x), hg, hr0⟩
theorem cellS61_2 {W : World} {g : Nat} {A0 : Option Addr} {c0 : Nat} {f0 : List Int} {f1 : Int} {f2 : Bool} (h : W.heap[g]? = some (.cells #[.slice A0 f0.length c0, .int .i64 f1, .bool f2] 61 (0, 0))) : W.cell? ⟨g, 2, none⟩ = some (.bool f2) := (blk_cell h 2).trans rfl
theorem IsS61.set_2 {w0 W : World} {g : Nat} {f0 : List Int} {f1 : Int} {f2 : Bool} (h : IsS61 w0 W g f0 f1 f2) (x : Bool) : IsS61 w0 (W.setCell ⟨g, 2, none⟩ (.bool x)) g f0 f1 x := by
 obtain ⟨A0, c0, hb, hg, hr0⟩ := h
 exact ⟨A0, c0, by simpa using blk_set hb 2 (.bool x), hg, hr0⟩
theorem IsS61.new (w0 W : World) (A0 : Option Addr) (c0 : Nat) (f0 : List Int) (f1 : Int) (f2 : Bool) (hB : Below w0.heap.size w0 W) (hr0 : Kd.C (Kd.int .u8) w0 A0 f0.length f0 ∧ f0.length ≤ c0) : IsS61 w0 (W.alloc (.cells #[.slice A0 f0.length c0, .int .i64 f1, .bool f2] 61)) W.heap.size f0 f1 f2 := ⟨A0, c0, by simpa using heap_alloc_new W _, hB.size, hr0⟩
def dragnetref02_Reader_Number.f (k : Nat) (s0_0 : List Int) (s0_1 : Int) (s0_2 : Bool) (a1 : Int) : Option (Int × Int × Bool) := if s0_2 = true then (some (0, s0_1, s0_2)) else (if 0 ≤ s0_1 then (if s0_1 ≤ (s0_0.length : Int) then ((dragnetref02_Take.f k (s0_0.drop (s0_1 : Int).toNat)).bind fun bt370 => (if bt370.2.2 = 0 then (if bt370.1 > a1 then (some (0, wrap64 (s0_1 + bt370.2.1), decide (bt370.1 > a1))) else (some (bt370.1, wrap64 (s0_1 + bt370.2.1), decide (bt370.1 > a1)))) else (some (0, wrap64 (s0_1 + bt370.2.1), true)))) else (none)) else (none))
theorem dragnetref02_Reader_Number.mono : ∀ a0 a1 a2 a3 k, LeO (dragnetref02_Reader_Number.f k a0 a1 a2 a3) (dragnetref02_Reader_Number.f (k + 1) a0 a1 a2 a3) := by
 intro a0 a1 a2 a3 k
 unfold dragnetref02_Reader_Number.f
 repeat' first
   | (with_reducible exact dragnetref02_Take.mono _ _)
   | (with_reducible exact LeO.refl _)
   | (with_reducible exact LeO.none _)
   | (with_reducible refine LeO.ite ?_ ?_)
   | (with_reducible refine LeO.bind ?_ (fun _ => ?_))
   | exact dragnetref02_Take.mono _ _
   | exact LeO.none _
   | refine LeO.ite ?_ ?_
   | refine LeO.bind ?_ (fun _ => ?_)
def dragnetref02_Reader_Number.T3 : Bool × List (List Nat × List Nat) := (true, [([], []), ([0], [0]), ([1], [1]), ([2], [2]), ([], []), ([4], [4]), ([5], [5]), ([6], [6]), ([3, 7], [3, 7]), ([8], [8]), ([9], [9]), ([10], [10]), ([10], [10]), ([10], [10]), ([11, 9, 0, 1, 2, 3, 4, 5, 6, 7, 8, 9, 10, 11], [11]), ([12, 14, 0, 1, 2, 3, 4, 5, 6, 7, 8, 9, 10, 11, 12, 14], [12]), ([13, 15, 0, 1, 2, 3, 4, 5, 6, 7, 8, 9, 10, 11, 12, 13, 14, 15], [13])])
def dragnetref02_Reader_Number.B3 : List Nat := [0, 1, 3, 7, 0, 16, 48, 112, 255, 511, 1023, 2047, 2047, 2047, 4095, 24575, 65535]
theorem dragnetref02_Reader_Number.tab3 : rtab .any (opsOf Try.f38 3) = dragnetref02_Reader_Number.T3 := by kernel_rfl
theorem dragnetref02_Reader_Number.bits3 : waitsOk dragnetref02_Reader_Number.T3.2 dragnetref02_Reader_Number.B3 = true := by kernel_rfl
set_option maxHeartbeats 8000000 in
set_option maxRecDepth 100000 in
theorem dragnetref02_Reader_Number.calls (k : Nat) (g : Nat) (s0_0 : List Int) (s0_1 : Int) (s0_2 : Bool) (a1 : Int) (r1 : Int) (r2 : Int) (r3 : Bool) (w0 w : World) (hI : IsS61 w0 w g s0_0 s0_1 s0_2) (hB : Below w0.heap.size w0 w) (h : dragnetref02_Reader_Number.f k s0_0 s0_1 s0_2 a1 = some (r1, r2, r3)) :
  Calls Try.prog 38 #[.pointer (some ⟨g, 0, none⟩), .int .u64 a1] w fun e w' => e = .returned (.int .u64 r1) ∧ IsS61 w0 w' g s0_0 r2 r3 ∧ Below w0.heap.size w0 w' ∧ KeepBut w w' g none := by
 have HI0 := Aside0.mk hI
 have HK := Aside0.mk (KeepBut.refl w g none)
 have HL := Aside0.mk hB.size
 clear hI
 have HW0 := Aside0.mk hB.size
 have HB := Aside0.mk hB
 have HBE := Aside0.mk hB
 clear hB
 have H : (if s0_2 = true then (some (0, s0_1, s0_2)) else (if 0 ≤ s0_1 then (if s0_1 ≤ (s0_0.length : Int) then ((dragnetref02_Take.f k (s0_0.drop (s0_1 : Int).toNat)).bind fun bt370 => (if bt370.2.2 = 0 then (if bt370.1 > a1 then (some (0, wrap64 (s0_1 + bt370.2.1), decide (bt370.1 > a1))) else (some (bt370.1, wrap64 (s0_1 + bt370.2.1), decide (bt370.1 > a1)))) else (some (0, wrap64 (s0_1 + bt370.2.1), true)))) else (none)) else (none))) = some (r1, r2, r3) := h
 clear h
 by_cases c3 : s0_2 = true
 ·subst c3
  have H1 : (some (0, s0_1, true)) = some (r1, r2, r3) := by rw [if_pos rfl] at H; exact H
  clear H
  have H := H1
  clear H1
  simp only [Option.some.injEq, Prod.mk.injEq] at H
  obtain ⟨rfl, rfl, rfl⟩ := H
  obtain ⟨ASz4_0, cSz4_0, HGz4, hgz4, HSz4_0⟩ := HI0.out
  have hcz4_0 := cellS61_0 HGz4
  have hcz4_1 := cellS61_1 HGz4
  have hcz4_2 := cellS61_2 HGz4
  have hfz4_1 := blk_frozen HGz4 1
  have hfz4_2 := blk_frozen HGz4 2
  clear HGz4 hgz4
  go_enter Try.func38, Try.ntmps38
  go_wp2
  go_ret
  exact ⟨by first | rfl | (simp [eWn_, eWs_] <;> rfl) | (simp [*, eWn_, eWs_] <;> rfl), by repeat (first | (with_reducible first | exact HI0.out | apply IsS61.alloc | apply IsS61.drewN | apply IsS61.drew | apply IsS61.set_1 | apply IsS61.set_2) | exact HI0.out), by repeat (first | (with_reducible first | exact HB.out | apply pbA_ | apply pbN_ | apply pb1_ | refine below_set ?_ (IsS61.ge HI0.out)) | exact HB.out), by repeat (first | (with_reducible first | exact HK.out | apply KeepBut.set_ | apply keep_drewN | apply keep_drew | apply keep_alloc) | exact HK.out)⟩
 ·replace c3 := Bool.eq_false_iff.mpr c3
  subst c3
  have H1 : (if 0 ≤ s0_1 then (if s0_1 ≤ (s0_0.length : Int) then ((dragnetref02_Take.f k (s0_0.drop (s0_1 : Int).toNat)).bind fun bt370 => (if bt370.2.2 = 0 then (if bt370.1 > a1 then (some (0, wrap64 (s0_1 + bt370.2.1), decide (bt370.1 > a1))) else (some (bt370.1, wrap64 (s0_1 + bt370.2.1), decide (bt370.1 > a1)))) else (some (0, wrap64 (s0_1 + bt370.2.1), true)))) else (none)) else (none)) = some (r1, r2, r3) := by rw [if_neg (show ¬ (false = true) by decide)] at H; exact H
  clear H
  have H := H1
  clear H1
  by_cases c5 : 0 ≤ s0_1
  ·rw [if_pos c5] at H
   have c5b0 := eq_true c5
   have c5b1 : decide (0 ≤ s0_1) = true := decide_eq_true c5
   clear c5
   by_cases c6 : s0_1 ≤ (s0_0.length : Int)
   ·rw [if_pos c6] at H
    have c6b0 := eq_true c6
    have c6b1 : decide (s0_1 ≤ (s0_0.length : Int)) = true := decide_eq_true c6
    clear c6
    replace H := Option.bind_eq_some_iff.mp H
    obtain ⟨⟨t370, t371, t372⟩, A70, H⟩ := H
    replace H : (if t372 = 0 then (if t370 > a1 then (some (0, wrap64 (s0_1 + t371), decide (t370 > a1))) else (some (t370, wrap64 (s0_1 + t371), decide (t370 > a1)))) else (some (0, wrap64 (s0_1 + t371), true))) = some (r1, r2, r3) := H
    have A7 := Aside0.mk A70
    clear A70
    by_cases c8 : t372 = 0
    ·rw [if_pos c8] at H
     have c8b0 : (t372 == 0) = true := beq_iff_eq.mpr c8
     have c8b1 : (t372 != 0) = false := bne_eq_false_iff_eq.mpr c8
     clear c8
     by_cases c9 : t370 > a1
     ·rw [if_pos c9] at H
      have c9b0 : decide (a1 < t370) = true := decide_eq_true c9
      clear c9
      simp only [Option.some.injEq, Prod.mk.injEq] at H
      obtain ⟨rfl, rfl, rfl⟩ := H
      obtain ⟨ASz10_0, cSz10_0, HGz10, hgz10, HSz10_0⟩ := HI0.out
      have hcz10_0 := cellS61_0 HGz10
      have hcz10_1 := cellS61_1 HGz10
      have hcz10_2 := cellS61_2 HGz10
      have hfz10_1 := blk_frozen HGz10 1
      have hfz10_2 := blk_frozen HGz10 2
      clear HGz10 hgz10
      go_enter Try.func38, Try.ntmps38
      try go_wp2
      (try (rw [drewN_self w]; generalize hq_ : World.drewN w _ = w; have n0_ : Aside0 (IsS61 w0 w g s0_0 s0_1 false) := ⟨by rw [← hq_]; exact (by repeat (first | (with_reducible first | exact HI0.out | apply IsS61.alloc | apply IsS61.drewN | apply IsS61.drew | apply IsS61.set_1 | apply IsS61.set_2) | exact HI0.out))⟩; have n1_ : Aside0 (KeepBut w w g none) := ⟨by rw [← hq_]; exact (by repeat (first | (with_reducible first | exact HK.out | apply KeepBut.set_ | apply keep_drewN | apply keep_drew | apply keep_alloc) | exact HK.out))⟩; have n2_ : Aside0 (Below w0.heap.size w0 w) := ⟨by rw [← hq_]; exact (by repeat (first | (with_reducible first | exact HB.out | apply pbA_ | apply pbN_ | apply pb1_ | refine below_set ?_ (IsS61.ge HI0.out)) | exact HB.out))⟩; clear HI0 HK HB hq_; have HI0 := n0_; have HK := n1_; have HB := n2_; clear n0_ n1_ n2_))
      have n0_ := Aside0.mk (IsS61.drew HI0.out)
      have n1_ := Aside0.mk (keep_drew HK.out)
      have n2_ := Aside0.mk (pb1_ HB.out)
      clear HI0
      clear HK
      clear HB
      have HI0 := n0_
      have HK := n1_
      have HB := n2_
      clear n0_ n1_ n2_
      obtain ⟨ASz12_0, cSz12_0, HGz12, hgz12, HSz12_0⟩ := HI0.out
      have hcz12_0 := cellS61_0 HGz12
      have hcz12_1 := cellS61_1 HGz12
      have hcz12_2 := cellS61_2 HGz12
      have hfz12_1 := blk_frozen HGz12 1
      have hfz12_2 := blk_frozen HGz12 2
      clear HGz12 hgz12
      obtain ⟨i013, hi013, _, hsz13, _⟩ := info_parts info5
      obtain ⟨A13, hcut13, hA13, hC13⟩ := print_drop_of (P := Try.prog) (Value.int .u8) 0 22 5 .i64 Try.underlying22 hi013 hsz13 ASz12_0 cSz12_0 s0_0 s0_1 (of_decide_eq_true (by first | (with_reducible assumption) | assumption)) (of_decide_eq_true (by first | (with_reducible assumption) | assumption)) HSz12_0.2
      have HR369 := Aside0.mk (Kd.C_below (Kd.C_of_reads (h1 := fun _ => rfl) (hA13 _ (Kd.reads_of_C HSz12_0.1))) HBE.out)
      have HC369 := Aside0.mk hC13
      have hf369 := Kd.far_C 0 (Kd.C_of_reads (h1 := fun _ => rfl) (hA13 _ (Kd.reads_of_C HSz12_0.1))) (IsS61.ge HI0.out)
      clear hA13 hC13 hi013 hsz13
      refine start_ (n := 17) (S := fun w' => w'.cell? ⟨g, 0, none⟩ = some (.slice ASz12_0 s0_0.length cSz12_0) ∧ w'.cell? ⟨g, 1, none⟩ = some (.int .i64 s0_1) ∧ w'.cell? ⟨g, 2, none⟩ = some (.bool false)) (ds := []) #[false, false, false, false, false, false, false, false, false, false, false, false, false, false, false, false, false] (by kernel_rfl) rfl rfl ⟨hcz12_0, hcz12_1, hcz12_2⟩ (fun hHeld => ?_); refine with_tabW dragnetref02_Reader_Number.tab3 dragnetref02_Reader_Number.bits3 (fun HT_ HW_ => ?_)
      generalize w.drew = w11 at HI0 HK HB HR369 hHeld ⊢
      refine pure_ (i := 0) (N := some 13) (v := ?_) (a' := ?_) #[tT,fF,fF,fF,fF,fF,fF,fF,fF,fF,fF,fF,fF,fF,fF,fF,fF] rfl rfl (any_of HT_.out (by kernel_rfl)) (fun _ _ _ h => h) (Or.inl ⟨by rfl, ?_⟩) ?_ ?_
      rotate_left
      ·intro w'
       go_simp
       with_reducible rfl
      rotate_left
      ·simp only [Act.put, List.setIfInBounds_toArray, List.set_cons_zero, List.set_cons_succ, i64_w, i32_w]
       rfl
      refine pure_ (i := 1) (N := some 14) (v := ?_) (a' := ?_) #[tT,tT,fF,fF,fF,fF,fF,fF,fF,fF,fF,fF,fF,fF,fF,fF,fF] rfl rfl (any_of HT_.out (by kernel_rfl)) (fun _ _ _ h => h) (Or.inl ⟨by rfl, ?_⟩) ?_ ?_
      rotate_left
      ·intro w'
       go_simp
       with_reducible rfl
      rotate_left
      ·simp only [Act.put, List.setIfInBounds_toArray, List.set_cons_zero, List.set_cons_succ, i64_w, i32_w]
       rfl
      refine pure_ (i := 2) (N := some 15) (v := ?_) (a' := ?_) #[tT,tT,tT,fF,fF,fF,fF,fF,fF,fF,fF,fF,fF,fF,fF,fF,fF] rfl rfl (any_of HT_.out (by kernel_rfl)) (fun _ _ _ h => h) (Or.inl ⟨by rfl, ?_⟩) ?_ ?_
      rotate_left
      ·intro w'
       go_simp
       with_reducible rfl
      rotate_left
      ·simp only [Act.put, List.setIfInBounds_toArray, List.set_cons_zero, List.set_cons_succ, i64_w, i32_w]
       rfl
      refine pure_ (i := 4) (N := some 17) (v := ?_) (a' := ?_) #[tT,tT,tT,fF,tT,fF,fF,fF,fF,fF,fF,fF,fF,fF,fF,fF,fF] rfl rfl (any_of HT_.out (by kernel_rfl)) (fun _ _ _ h => h) (Or.inl ⟨by rfl, ?_⟩) ?_ ?_
      rotate_left
      ·intro w'
       go_simp
       with_reducible rfl
      rotate_left
      ·simp only [Act.put, List.setIfInBounds_toArray, List.set_cons_zero, List.set_cons_succ, i64_w, i32_w]
       rfl
      refine pure_ (i := 5) (N := some 18) (v := ?_) (a' := ?_) #[tT,tT,tT,fF,tT,tT,fF,fF,fF,fF,fF,fF,fF,fF,fF,fF,fF] rfl rfl (any_of HT_.out (by kernel_rfl)) (fun _ _ _ h => h) (Or.inl ⟨by rfl, ?_⟩) ?_ ?_
      rotate_left
      ·intro w'
       go_simp
       with_reducible rfl
      rotate_left
      ·simp only [Act.put, List.setIfInBounds_toArray, List.set_cons_zero, List.set_cons_succ, i64_w, i32_w]
       rfl
      refine pure_ (i := 6) (N := some 19) (v := ?_) (a' := ?_) #[tT,tT,tT,fF,tT,tT,tT,fF,fF,fF,fF,fF,fF,fF,fF,fF,fF] rfl rfl (any_of HT_.out (by kernel_rfl)) (fun _ _ _ h => h) (Or.inl ⟨by rfl, ?_⟩) ?_ ?_
      rotate_left
      ·intro w'
       go_simp
       with_reducible rfl
      rotate_left
      ·simp only [Act.put, List.setIfInBounds_toArray, List.set_cons_zero, List.set_cons_succ, i64_w, i32_w]
       rfl
      refine take_ (i := 3) (N := some 16) (v := ?_) (a' := ?_) #[tT,tT,tT,tT,tT,tT,tT,fF,fF,fF,fF,fF,fF,fF,fF,fF,fF] rfl rfl (take_ofW HT_.out HW_.out (by kernel_rfl)) (fun _ _ _ h => h) (Or.inl ⟨by rfl, ?_⟩) hHeld ?_ ?_
      rotate_left
      ·rintro w' ⟨s0, s1, s2⟩
       go_simp
       with_reducible rfl
      rotate_left
      ·simp only [Act.put, List.setIfInBounds_toArray, List.set_cons_zero, List.set_cons_succ, i64_w, i32_w]
       rfl
      refine take_ (i := 7) (N := some 20) (v := ?_) (a' := ?_) #[tT,tT,tT,tT,tT,tT,tT,tT,fF,fF,fF,fF,fF,fF,fF,fF,fF] rfl rfl (take_ofW HT_.out HW_.out (by kernel_rfl)) (fun _ _ _ h => h) (Or.inl ⟨by rfl, ?_⟩) hHeld ?_ ?_
      rotate_left
      ·rintro w' ⟨s0, s1, s2⟩
       go_simp
       with_reducible rfl
      rotate_left
      ·simp only [Act.put, List.setIfInBounds_toArray, List.set_cons_zero, List.set_cons_succ, i64_w, i32_w]
       rfl
      refine pure_ (i := 8) (N := some 21) (v := ?_) (a' := ?_) #[tT,tT,tT,tT,tT,tT,tT,tT,tT,fF,fF,fF,fF,fF,fF,fF,fF] rfl rfl (any_of HT_.out (by kernel_rfl)) (fun _ _ _ h => h) (Or.inl ⟨by rfl, ?_⟩) ?_ ?_
      rotate_left
      ·intro w'
       go_simp
       with_reducible rfl
      rotate_left
      ·simp only [Act.put, List.setIfInBounds_toArray, List.set_cons_zero, List.set_cons_succ, i64_w, i32_w]
       rfl
      refine one_ (i := 9) (N := some 22) #[tT,tT,tT,tT,tT,tT,tT,tT,tT,tT,fF,fF,fF,fF,fF,fF,fF] rfl rfl (one_of HT_.out (by kernel_rfl)) (by decide) (fun K hK => ?_)
      refine goes_ Try.func45 (by kernel_rfl) rfl #[.slice A13 (s0_0.drop (s0_1 : Int).toNat).length (cSz12_0 - s0_1.toNat)] (by rfl) rfl rfl (by (try simp only [List.map_toArray, List.map_cons, List.map_nil]); first | done | (rw [show (s0_0.drop (s0_1 : Int).toNat).length = (s0_0.length - s0_1.toNat) from List.length_drop] <;> rfl) | rfl | (simp only [List.length_drop, List.length_take]; rfl)) ?_
      with_reducible refine (dragnetref02_Take.calls k _ _ (s0_0.drop (s0_1 : Int).toNat) t370 t371 t372 _ ?side1 ?side2 A7.out).mono ?_
      (case side1 => exact Kd.C_keep 0 HR369.out (by repeat (first | (with_reducible first | exact HK.out | apply KeepBut.set_ | apply keep_drewN | apply keep_drew | apply keep_alloc) | exact HK.out)) hf369)
      (case side2 => exact HC369.out)
      rintro e w14 ⟨rfl, hb⟩
      have HS0_ := (hb.cell (World.block_lt_of_cell? _ _ (hHeld.1))).trans (hHeld.1)
      have HS1_ := (hb.cell (World.block_lt_of_cell? _ _ (hHeld.2.1))).trans (hHeld.2.1)
      have HS2_ := (hb.cell (World.block_lt_of_cell? _ _ (hHeld.2.2))).trans (hHeld.2.2)
      refine ⟨_, rfl, ?_⟩
      have n0_ := Aside0.mk (IsS61.below (by repeat (first | (with_reducible first | exact HI0.out | apply IsS61.alloc | apply IsS61.drewN | apply IsS61.drew | apply IsS61.set_1 | apply IsS61.set_2) | exact HI0.out)) hb)
      have n1_ := Aside0.mk (KeepBut.trans (by repeat (first | (with_reducible first | exact HK.out | apply KeepBut.set_ | apply keep_drewN | apply keep_drew | apply keep_alloc) | exact HK.out)) (KeepBut.of_below hb g none) (.inl rfl))
      have n2_ := Aside0.mk (below_step (by repeat (first | (with_reducible first | exact HB.out | apply pbA_ | apply pbN_ | apply pb1_ | refine below_set ?_ (IsS61.ge HI0.out)) | exact HB.out)) hb)
      clear HI0
      clear HK
      clear HB
      have HI0 := n0_
      have HK := n1_
      have HB := n2_
      clear n0_ n1_ n2_
      (try clear hb)
      (try clear hb2)
      (try clear hk)
      (try clear hi)
      refine hK.out _ _ ⟨HS0_, HS1_, HS2_⟩ (fun hHeld => ?_)
      clear hK K
      refine norm_ (a' := ?_) ?_ ?_
      rotate_left
      ·show Act.put _ (some 22) _ = _
       simp only [Act.put, List.setIfInBounds_toArray, List.set_cons_zero, List.set_cons_succ, i64_w, i32_w]
       rfl
      refine pure_ (i := 10) (N := some 12) (v := ?_) (a' := ?_) #[tT,tT,tT,tT,tT,tT,tT,tT,tT,tT,tT,fF,fF,fF,fF,fF,fF] rfl rfl (any_of HT_.out (by kernel_rfl)) (fun _ _ _ h => h) (Or.inl ⟨by rfl, ?_⟩) ?_ ?_
      rotate_left
      ·intro w'
       go_simp
       with_reducible rfl
      rotate_left
      ·simp only [Act.put, List.setIfInBounds_toArray, List.set_cons_zero, List.set_cons_succ, i64_w, i32_w]
       rfl
      refine pure_ (i := 11) (N := some 23) (v := ?_) (a' := ?_) #[tT,tT,tT,tT,tT,tT,tT,tT,tT,tT,tT,tT,fF,fF,fF,fF,fF] rfl rfl (any_of HT_.out (by kernel_rfl)) (fun _ _ _ h => h) (Or.inl ⟨by rfl, ?_⟩) ?_ ?_
      rotate_left
      ·intro w'
       go_simp
       with_reducible rfl
      rotate_left
      ·simp only [Act.put, List.setIfInBounds_toArray, List.set_cons_zero, List.set_cons_succ, i64_w, i32_w]
       rfl
      refine pure_ (i := 12) (N := some 24) (v := ?_) (a' := ?_) #[tT,tT,tT,tT,tT,tT,tT,tT,tT,tT,tT,tT,tT,fF,fF,fF,fF] rfl rfl (any_of HT_.out (by kernel_rfl)) (fun _ _ _ h => h) (Or.inl ⟨by rfl, ?_⟩) ?_ ?_
      rotate_left
      ·intro w'
       go_simp
       with_reducible rfl
      rotate_left
      ·simp only [Act.put, List.setIfInBounds_toArray, List.set_cons_zero, List.set_cons_succ, i64_w, i32_w]
       rfl
      refine pure_ (i := 13) (N := some 25) (v := ?_) (a' := ?_) #[tT,tT,tT,tT,tT,tT,tT,tT,tT,tT,tT,tT,tT,tT,fF,fF,fF] rfl rfl (any_of HT_.out (by kernel_rfl)) (fun _ _ _ h => h) (Or.inl ⟨by rfl, ?_⟩) ?_ ?_
      rotate_left
      ·intro w'
       go_simp
       with_reducible rfl
      rotate_left
      ·simp only [Act.put, List.setIfInBounds_toArray, List.set_cons_zero, List.set_cons_succ, i64_w, i32_w]
       rfl
      refine pure_ (i := 14) (N := some 5) (v := ?_) (a' := ?_) #[tT,tT,tT,tT,tT,tT,tT,tT,tT,tT,tT,tT,tT,tT,tT,fF,fF] rfl rfl (any_of HT_.out (by kernel_rfl)) (fun _ _ _ h => h) (Or.inl ⟨by rfl, ?_⟩) ?_ ?_
      rotate_left
      ·intro w'
       go_simp
       with_reducible rfl
      rotate_left
      ·simp only [Act.put, List.setIfInBounds_toArray, List.set_cons_zero, List.set_cons_succ, i64_w, i32_w]
       rfl
      refine pure_ (i := 15) (N := some 6) (v := ?_) (a' := ?_) #[tT,tT,tT,tT,tT,tT,tT,tT,tT,tT,tT,tT,tT,tT,tT,tT,fF] rfl rfl (any_of HT_.out (by kernel_rfl)) (fun _ _ _ h => h) (Or.inl ⟨by rfl, ?_⟩) ?_ ?_
      rotate_left
      ·intro w'
       go_simp
       with_reducible rfl
      rotate_left
      ·simp only [Act.put, List.setIfInBounds_toArray, List.set_cons_zero, List.set_cons_succ, i64_w, i32_w]
       rfl
      refine pure_ (i := 16) (N := some 7) (v := ?_) (a' := ?_) #[tT,tT,tT,tT,tT,tT,tT,tT,tT,tT,tT,tT,tT,tT,tT,tT,tT] rfl rfl (any_of HT_.out (by kernel_rfl)) (fun _ _ _ h => h) (Or.inl ⟨by rfl, ?_⟩) ?_ ?_
      rotate_left
      ·intro w'
       go_simp
       with_reducible rfl
      rotate_left
      ·simp only [Act.put, List.setIfInBounds_toArray, List.set_cons_zero, List.set_cons_succ, i64_w, i32_w]
       rfl
      refine done_ (done_of HT_.out (by kernel_rfl)) ?_
      obtain ⟨ASz15_0, cSz15_0, HGz15, hgz15, HSz15_0⟩ := HI0.out
      have hcz15_0 := cellS61_0 HGz15
      have hcz15_1 := cellS61_1 HGz15
      have hcz15_2 := cellS61_2 HGz15
      have hfz15_1 := blk_frozen HGz15 1
      have hfz15_2 := blk_frozen HGz15 2
      clear HGz15 hgz15
      try go_wp2
      go_ret
      exact ⟨by first | rfl | (simp [eWn_, eWs_] <;> rfl) | (simp [*, eWn_, eWs_] <;> rfl), by first | ((repeat (first | (with_reducible first | exact HI0.out | apply IsS61.alloc | apply IsS61.drewN | apply IsS61.drew | apply IsS61.set_1 | apply IsS61.set_2) | exact HI0.out)); done) | ((try simp only [gt_iff_lt, ge_iff_le]); (try simp only [c8b0]); (try simp only [c9b0]); repeat (first | (with_reducible first | exact HI0.out | apply IsS61.alloc | apply IsS61.drewN | apply IsS61.drew | apply IsS61.set_1 | apply IsS61.set_2) | exact HI0.out)), by repeat (first | (with_reducible first | exact HB.out | apply pbA_ | apply pbN_ | apply pb1_ | refine below_set ?_ (IsS61.ge HI0.out)) | exact HB.out), by repeat (first | (with_reducible first | exact HK.out | apply KeepBut.set_ | apply keep_drewN | apply keep_drew | apply keep_alloc) | exact HK.out)⟩
     ·rw [if_neg c9] at H
      have c9b0 : decide (a1 < t370) = false := decide_eq_false c9
      clear c9
      simp only [Option.some.injEq, Prod.mk.injEq] at H
      obtain ⟨rfl, rfl, rfl⟩ := H
      obtain ⟨ASz16_0, cSz16_0, HGz16, hgz16, HSz16_0⟩ := HI0.out
      have hcz16_0 := cellS61_0 HGz16
      have hcz16_1 := cellS61_1 HGz16
      have hcz16_2 := cellS61_2 HGz16
      have hfz16_1 := blk_frozen HGz16 1
      have hfz16_2 := blk_frozen HGz16 2
      clear HGz16 hgz16
      go_enter Try.func38, Try.ntmps38
      try go_wp2
      (try (rw [drewN_self w]; generalize hq_ : World.drewN w _ = w; have n0_ : Aside0 (IsS61 w0 w g s0_0 s0_1 false) := ⟨by rw [← hq_]; exact (by repeat (first | (with_reducible first | exact HI0.out | apply IsS61.alloc | apply IsS61.drewN | apply IsS61.drew | apply IsS61.set_1 | apply IsS61.set_2) | exact HI0.out))⟩; have n1_ : Aside0 (KeepBut w w g none) := ⟨by rw [← hq_]; exact (by repeat (first | (with_reducible first | exact HK.out | apply KeepBut.set_ | apply keep_drewN | apply keep_drew | apply keep_alloc) | exact HK.out))⟩; have n2_ : Aside0 (Below w0.heap.size w0 w) := ⟨by rw [← hq_]; exact (by repeat (first | (with_reducible first | exact HB.out | apply pbA_ | apply pbN_ | apply pb1_ | refine below_set ?_ (IsS61.ge HI0.out)) | exact HB.out))⟩; clear HI0 HK HB hq_; have HI0 := n0_; have HK := n1_; have HB := n2_; clear n0_ n1_ n2_))
      have n0_ := Aside0.mk (IsS61.drew HI0.out)
      have n1_ := Aside0.mk (keep_drew HK.out)
      have n2_ := Aside0.mk (pb1_ HB.out)
      clear HI0
      clear HK
      clear HB
      have HI0 := n0_
      have HK := n1_
      have HB := n2_
      clear n0_ n1_ n2_
      obtain ⟨ASz18_0, cSz18_0, HGz18, hgz18, HSz18_0⟩ := HI0.out
      have hcz18_0 := cellS61_0 HGz18
      have hcz18_1 := cellS61_1 HGz18
      have hcz18_2 := cellS61_2 HGz18
      have hfz18_1 := blk_frozen HGz18 1
      have hfz18_2 := blk_frozen HGz18 2
      clear HGz18 hgz18
      obtain ⟨i019, hi019, _, hsz19, _⟩ := info_parts info5
      obtain ⟨A19, hcut19, hA19, hC19⟩ := print_drop_of (P := Try.prog) (Value.int .u8) 0 22 5 .i64 Try.underlying22 hi019 hsz19 ASz18_0 cSz18_0 s0_0 s0_1 (of_decide_eq_true (by first | (with_reducible assumption) | assumption)) (of_decide_eq_true (by first | (with_reducible assumption) | assumption)) HSz18_0.2
      have HR369 := Aside0.mk (Kd.C_below (Kd.C_of_reads (h1 := fun _ => rfl) (hA19 _ (Kd.reads_of_C HSz18_0.1))) HBE.out)
      have HC369 := Aside0.mk hC19
      have hf369 := Kd.far_C 0 (Kd.C_of_reads (h1 := fun _ => rfl) (hA19 _ (Kd.reads_of_C HSz18_0.1))) (IsS61.ge HI0.out)
      clear hA19 hC19 hi019 hsz19
      refine start_ (n := 17) (S := fun w' => w'.cell? ⟨g, 0, none⟩ = some (.slice ASz18_0 s0_0.length cSz18_0) ∧ w'.cell? ⟨g, 1, none⟩ = some (.int .i64 s0_1) ∧ w'.cell? ⟨g, 2, none⟩ = some (.bool false)) (ds := []) #[false, false, false, false, false, false, false, false, false, false, false, false, false, false, false, false, false] (by kernel_rfl) rfl rfl ⟨hcz18_0, hcz18_1, hcz18_2⟩ (fun hHeld => ?_); refine with_tabW dragnetref02_Reader_Number.tab3 dragnetref02_Reader_Number.bits3 (fun HT_ HW_ => ?_)
      generalize w.drew = w17 at HI0 HK HB HR369 hHeld ⊢
      refine pure_ (i := 0) (N := some 13) (v := ?_) (a' := ?_) #[tT,fF,fF,fF,fF,fF,fF,fF,fF,fF,fF,fF,fF,fF,fF,fF,fF] rfl rfl (any_of HT_.out (by kernel_rfl)) (fun _ _ _ h => h) (Or.inl ⟨by rfl, ?_⟩) ?_ ?_
      rotate_left
      ·intro w'
       go_simp
       with_reducible rfl
      rotate_left
      ·simp only [Act.put, List.setIfInBounds_toArray, List.set_cons_zero, List.set_cons_succ, i64_w, i32_w]
       rfl
      refine pure_ (i := 1) (N := some 14) (v := ?_) (a' := ?_) #[tT,tT,fF,fF,fF,fF,fF,fF,fF,fF,fF,fF,fF,fF,fF,fF,fF] rfl rfl (any_of HT_.out (by kernel_rfl)) (fun _ _ _ h => h) (Or.inl ⟨by rfl, ?_⟩) ?_ ?_
      rotate_left
      ·intro w'
       go_simp
       with_reducible rfl
      rotate_left
      ·simp only [Act.put, List.setIfInBounds_toArray, List.set_cons_zero, List.set_cons_succ, i64_w, i32_w]
       rfl
      refine pure_ (i := 2) (N := some 15) (v := ?_) (a' := ?_) #[tT,tT,tT,fF,fF,fF,fF,fF,fF,fF,fF,fF,fF,fF,fF,fF,fF] rfl rfl (any_of HT_.out (by kernel_rfl)) (fun _ _ _ h => h) (Or.inl ⟨by rfl, ?_⟩) ?_ ?_
      rotate_left
      ·intro w'
       go_simp
       with_reducible rfl
      rotate_left
      ·simp only [Act.put, List.setIfInBounds_toArray, List.set_cons_zero, List.set_cons_succ, i64_w, i32_w]
       rfl
      refine pure_ (i := 4) (N := some 17) (v := ?_) (a' := ?_) #[tT,tT,tT,fF,tT,fF,fF,fF,fF,fF,fF,fF,fF,fF,fF,fF,fF] rfl rfl (any_of HT_.out (by kernel_rfl)) (fun _ _ _ h => h) (Or.inl ⟨by rfl, ?_⟩) ?_ ?_
      rotate_left
      ·intro w'
       go_simp
       with_reducible rfl
      rotate_left
      ·simp only [Act.put, List.setIfInBounds_toArray, List.set_cons_zero, List.set_cons_succ, i64_w, i32_w]
       rfl
      refine pure_ (i := 5) (N := some 18) (v := ?_) (a' := ?_) #[tT,tT,tT,fF,tT,tT,fF,fF,fF,fF,fF,fF,fF,fF,fF,fF,fF] rfl rfl (any_of HT_.out (by kernel_rfl)) (fun _ _ _ h => h) (Or.inl ⟨by rfl, ?_⟩) ?_ ?_
      rotate_left
      ·intro w'
       go_simp
       with_reducible rfl
      rotate_left
      ·simp only [Act.put, List.setIfInBounds_toArray, List.set_cons_zero, List.set_cons_succ, i64_w, i32_w]
       rfl
      refine pure_ (i := 6) (N := some 19) (v := ?_) (a' := ?_) #[tT,tT,tT,fF,tT,tT,tT,fF,fF,fF,fF,fF,fF,fF,fF,fF,fF] rfl rfl (any_of HT_.out (by kernel_rfl)) (fun _ _ _ h => h) (Or.inl ⟨by rfl, ?_⟩) ?_ ?_
      rotate_left
      ·intro w'
       go_simp
       with_reducible rfl
      rotate_left
      ·simp only [Act.put, List.setIfInBounds_toArray, List.set_cons_zero, List.set_cons_succ, i64_w, i32_w]
       rfl
      refine take_ (i := 3) (N := some 16) (v := ?_) (a' := ?_) #[tT,tT,tT,tT,tT,tT,tT,fF,fF,fF,fF,fF,fF,fF,fF,fF,fF] rfl rfl (take_ofW HT_.out HW_.out (by kernel_rfl)) (fun _ _ _ h => h) (Or.inl ⟨by rfl, ?_⟩) hHeld ?_ ?_
      rotate_left
      ·rintro w' ⟨s0, s1, s2⟩
       go_simp
       with_reducible rfl
      rotate_left
      ·simp only [Act.put, List.setIfInBounds_toArray, List.set_cons_zero, List.set_cons_succ, i64_w, i32_w]
       rfl
      refine take_ (i := 7) (N := some 20) (v := ?_) (a' := ?_) #[tT,tT,tT,tT,tT,tT,tT,tT,fF,fF,fF,fF,fF,fF,fF,fF,fF] rfl rfl (take_ofW HT_.out HW_.out (by kernel_rfl)) (fun _ _ _ h => h) (Or.inl ⟨by rfl, ?_⟩) hHeld ?_ ?_
      rotate_left
      ·rintro w' ⟨s0, s1, s2⟩
       go_simp
       with_reducible rfl
      rotate_left
      ·simp only [Act.put, List.setIfInBounds_toArray, List.set_cons_zero, List.set_cons_succ, i64_w, i32_w]
       rfl
      refine pure_ (i := 8) (N := some 21) (v := ?_) (a' := ?_) #[tT,tT,tT,tT,tT,tT,tT,tT,tT,fF,fF,fF,fF,fF,fF,fF,fF] rfl rfl (any_of HT_.out (by kernel_rfl)) (fun _ _ _ h => h) (Or.inl ⟨by rfl, ?_⟩) ?_ ?_
      rotate_left
      ·intro w'
       go_simp
       with_reducible rfl
      rotate_left
      ·simp only [Act.put, List.setIfInBounds_toArray, List.set_cons_zero, List.set_cons_succ, i64_w, i32_w]
       rfl
      refine one_ (i := 9) (N := some 22) #[tT,tT,tT,tT,tT,tT,tT,tT,tT,tT,fF,fF,fF,fF,fF,fF,fF] rfl rfl (one_of HT_.out (by kernel_rfl)) (by decide) (fun K hK => ?_)
      refine goes_ Try.func45 (by kernel_rfl) rfl #[.slice A19 (s0_0.drop (s0_1 : Int).toNat).length (cSz18_0 - s0_1.toNat)] (by rfl) rfl rfl (by (try simp only [List.map_toArray, List.map_cons, List.map_nil]); first | done | (rw [show (s0_0.drop (s0_1 : Int).toNat).length = (s0_0.length - s0_1.toNat) from List.length_drop] <;> rfl) | rfl | (simp only [List.length_drop, List.length_take]; rfl)) ?_
      with_reducible refine (dragnetref02_Take.calls k _ _ (s0_0.drop (s0_1 : Int).toNat) t370 t371 t372 _ ?side1 ?side2 A7.out).mono ?_
      (case side1 => exact Kd.C_keep 0 HR369.out (by repeat (first | (with_reducible first | exact HK.out | apply KeepBut.set_ | apply keep_drewN | apply keep_drew | apply keep_alloc) | exact HK.out)) hf369)
      (case side2 => exact HC369.out)
      rintro e w20 ⟨rfl, hb⟩
      have HS0_ := (hb.cell (World.block_lt_of_cell? _ _ (hHeld.1))).trans (hHeld.1)
      have HS1_ := (hb.cell (World.block_lt_of_cell? _ _ (hHeld.2.1))).trans (hHeld.2.1)
      have HS2_ := (hb.cell (World.block_lt_of_cell? _ _ (hHeld.2.2))).trans (hHeld.2.2)
      refine ⟨_, rfl, ?_⟩
      have n0_ := Aside0.mk (IsS61.below (by repeat (first | (with_reducible first | exact HI0.out | apply IsS61.alloc | apply IsS61.drewN | apply IsS61.drew | apply IsS61.set_1 | apply IsS61.set_2) | exact HI0.out)) hb)
      have n1_ := Aside0.mk (KeepBut.trans (by repeat (first | (with_reducible first | exact HK.out | apply KeepBut.set_ | apply keep_drewN | apply keep_drew | apply keep_alloc) | exact HK.out)) (KeepBut.of_below hb g none) (.inl rfl))
      have n2_ := Aside0.mk (below_step (by repeat (first | (with_reducible first | exact HB.out | apply pbA_ | apply pbN_ | apply pb1_ | refine below_set ?_ (IsS61.ge HI0.out)) | exact HB.out)) hb)
      clear HI0
      clear HK
      clear HB
      have HI0 := n0_
      have HK := n1_
      have HB := n2_
      clear n0_ n1_ n2_
      (try clear hb)
      (try clear hb2)
      (try clear hk)
      (try clear hi)
      refine hK.out _ _ ⟨HS0_, HS1_, HS2_⟩ (fun hHeld => ?_)
      clear hK K
      refine norm_ (a' := ?_) ?_ ?_
      rotate_left
      ·show Act.put _ (some 22) _ = _
       simp only [Act.put, List.setIfInBounds_toArray, List.set_cons_zero, List.set_cons_succ, i64_w, i32_w]
       rfl
      refine pure_ (i := 10) (N := some 12) (v := ?_) (a' := ?_) #[tT,tT,tT,tT,tT,tT,tT,tT,tT,tT,tT,fF,fF,fF,fF,fF,fF] rfl rfl (any_of HT_.out (by kernel_rfl)) (fun _ _ _ h => h) (Or.inl ⟨by rfl, ?_⟩) ?_ ?_
      rotate_left
      ·intro w'
       go_simp
       with_reducible rfl
      rotate_left
      ·simp only [Act.put, List.setIfInBounds_toArray, List.set_cons_zero, List.set_cons_succ, i64_w, i32_w]
       rfl
      refine pure_ (i := 11) (N := some 23) (v := ?_) (a' := ?_) #[tT,tT,tT,tT,tT,tT,tT,tT,tT,tT,tT,tT,fF,fF,fF,fF,fF] rfl rfl (any_of HT_.out (by kernel_rfl)) (fun _ _ _ h => h) (Or.inl ⟨by rfl, ?_⟩) ?_ ?_
      rotate_left
      ·intro w'
       go_simp
       with_reducible rfl
      rotate_left
      ·simp only [Act.put, List.setIfInBounds_toArray, List.set_cons_zero, List.set_cons_succ, i64_w, i32_w]
       rfl
      refine pure_ (i := 12) (N := some 24) (v := ?_) (a' := ?_) #[tT,tT,tT,tT,tT,tT,tT,tT,tT,tT,tT,tT,tT,fF,fF,fF,fF] rfl rfl (any_of HT_.out (by kernel_rfl)) (fun _ _ _ h => h) (Or.inl ⟨by rfl, ?_⟩) ?_ ?_
      rotate_left
      ·intro w'
       go_simp
       with_reducible rfl
      rotate_left
      ·simp only [Act.put, List.setIfInBounds_toArray, List.set_cons_zero, List.set_cons_succ, i64_w, i32_w]
       rfl
      refine pure_ (i := 13) (N := some 25) (v := ?_) (a' := ?_) #[tT,tT,tT,tT,tT,tT,tT,tT,tT,tT,tT,tT,tT,tT,fF,fF,fF] rfl rfl (any_of HT_.out (by kernel_rfl)) (fun _ _ _ h => h) (Or.inl ⟨by rfl, ?_⟩) ?_ ?_
      rotate_left
      ·intro w'
       go_simp
       with_reducible rfl
      rotate_left
      ·simp only [Act.put, List.setIfInBounds_toArray, List.set_cons_zero, List.set_cons_succ, i64_w, i32_w]
       rfl
      refine pure_ (i := 14) (N := some 5) (v := ?_) (a' := ?_) #[tT,tT,tT,tT,tT,tT,tT,tT,tT,tT,tT,tT,tT,tT,tT,fF,fF] rfl rfl (any_of HT_.out (by kernel_rfl)) (fun _ _ _ h => h) (Or.inl ⟨by rfl, ?_⟩) ?_ ?_
      rotate_left
      ·intro w'
       go_simp
       with_reducible rfl
      rotate_left
      ·simp only [Act.put, List.setIfInBounds_toArray, List.set_cons_zero, List.set_cons_succ, i64_w, i32_w]
       rfl
      refine pure_ (i := 15) (N := some 6) (v := ?_) (a' := ?_) #[tT,tT,tT,tT,tT,tT,tT,tT,tT,tT,tT,tT,tT,tT,tT,tT,fF] rfl rfl (any_of HT_.out (by kernel_rfl)) (fun _ _ _ h => h) (Or.inl ⟨by rfl, ?_⟩) ?_ ?_
      rotate_left
      ·intro w'
       go_simp
       with_reducible rfl
      rotate_left
      ·simp only [Act.put, List.setIfInBounds_toArray, List.set_cons_zero, List.set_cons_succ, i64_w, i32_w]
       rfl
      refine pure_ (i := 16) (N := some 7) (v := ?_) (a' := ?_) #[tT,tT,tT,tT,tT,tT,tT,tT,tT,tT,tT,tT,tT,tT,tT,tT,tT] rfl rfl (any_of HT_.out (by kernel_rfl)) (fun _ _ _ h => h) (Or.inl ⟨by rfl, ?_⟩) ?_ ?_
      rotate_left
      ·intro w'
       go_simp
       with_reducible rfl
      rotate_left
      ·simp only [Act.put, List.setIfInBounds_toArray, List.set_cons_zero, List.set_cons_succ, i64_w, i32_w]
       rfl
      refine done_ (done_of HT_.out (by kernel_rfl)) ?_
      obtain ⟨ASz21_0, cSz21_0, HGz21, hgz21, HSz21_0⟩ := HI0.out
      have hcz21_0 := cellS61_0 HGz21
      have hcz21_1 := cellS61_1 HGz21
      have hcz21_2 := cellS61_2 HGz21
      have hfz21_1 := blk_frozen HGz21 1
      have hfz21_2 := blk_frozen HGz21 2
      clear HGz21 hgz21
      try go_wp2
      go_ret
      exact ⟨by first | rfl | (simp [eWn_, eWs_] <;> rfl) | (simp [*, eWn_, eWs_] <;> rfl), by first | ((repeat (first | (with_reducible first | exact HI0.out | apply IsS61.alloc | apply IsS61.drewN | apply IsS61.drew | apply IsS61.set_1 | apply IsS61.set_2) | exact HI0.out)); done) | ((try simp only [gt_iff_lt, ge_iff_le]); (try simp only [c8b0]); (try simp only [c9b0]); repeat (first | (with_reducible first | exact HI0.out | apply IsS61.alloc | apply IsS61.drewN | apply IsS61.drew | apply IsS61.set_1 | apply IsS61.set_2) | exact HI0.out)), by repeat (first | (with_reducible first | exact HB.out | apply pbA_ | apply pbN_ | apply pb1_ | refine below_set ?_ (IsS61.ge HI0.out)) | exact HB.out), by repeat (first | (with_reducible first | exact HK.out | apply KeepBut.set_ | apply keep_drewN | apply keep_drew | apply keep_alloc) | exact HK.out)⟩
    ·rw [if_neg c8] at H
     have c8b0 : (t372 == 0) = false := beq_eq_false_iff_ne.mpr c8
     have c8b1 : (t372 != 0) = true := bne_iff_ne.mpr c8
     simp only [Option.some.injEq, Prod.mk.injEq] at H
     obtain ⟨rfl, rfl, rfl⟩ := H
     obtain ⟨ASz22_0, cSz22_0, HGz22, hgz22, HSz22_0⟩ := HI0.out
     have hcz22_0 := cellS61_0 HGz22
     have hcz22_1 := cellS61_1 HGz22
     have hcz22_2 := cellS61_2 HGz22
     have hfz22_1 := blk_frozen HGz22 1
     have hfz22_2 := blk_frozen HGz22 2
     clear HGz22 hgz22
     go_enter Try.func38, Try.ntmps38
     try go_wp2
     (try (rw [drewN_self w]; generalize hq_ : World.drewN w _ = w; have n0_ : Aside0 (IsS61 w0 w g s0_0 s0_1 false) := ⟨by rw [← hq_]; exact (by repeat (first | (with_reducible first | exact HI0.out | apply IsS61.alloc | apply IsS61.drewN | apply IsS61.drew | apply IsS61.set_1 | apply IsS61.set_2) | exact HI0.out))⟩; have n1_ : Aside0 (KeepBut w w g none) := ⟨by rw [← hq_]; exact (by repeat (first | (with_reducible first | exact HK.out | apply KeepBut.set_ | apply keep_drewN | apply keep_drew | apply keep_alloc) | exact HK.out))⟩; have n2_ : Aside0 (Below w0.heap.size w0 w) := ⟨by rw [← hq_]; exact (by repeat (first | (with_reducible first | exact HB.out | apply pbA_ | apply pbN_ | apply pb1_ | refine below_set ?_ (IsS61.ge HI0.out)) | exact HB.out))⟩; clear HI0 HK HB hq_; have HI0 := n0_; have HK := n1_; have HB := n2_; clear n0_ n1_ n2_))
     have n0_ := Aside0.mk (IsS61.drew HI0.out)
     have n1_ := Aside0.mk (keep_drew HK.out)
     have n2_ := Aside0.mk (pb1_ HB.out)
     clear HI0
     clear HK
     clear HB
     have HI0 := n0_
     have HK := n1_
     have HB := n2_
     clear n0_ n1_ n2_
     obtain ⟨ASz24_0, cSz24_0, HGz24, hgz24, HSz24_0⟩ := HI0.out
     have hcz24_0 := cellS61_0 HGz24
     have hcz24_1 := cellS61_1 HGz24
     have hcz24_2 := cellS61_2 HGz24
     have hfz24_1 := blk_frozen HGz24 1
     have hfz24_2 := blk_frozen HGz24 2
     clear HGz24 hgz24
     obtain ⟨i025, hi025, _, hsz25, _⟩ := info_parts info5
     obtain ⟨A25, hcut25, hA25, hC25⟩ := print_drop_of (P := Try.prog) (Value.int .u8) 0 22 5 .i64 Try.underlying22 hi025 hsz25 ASz24_0 cSz24_0 s0_0 s0_1 (of_decide_eq_true (by first | (with_reducible assumption) | assumption)) (of_decide_eq_true (by first | (with_reducible assumption) | assumption)) HSz24_0.2
     have HR369 := Aside0.mk (Kd.C_below (Kd.C_of_reads (h1 := fun _ => rfl) (hA25 _ (Kd.reads_of_C HSz24_0.1))) HBE.out)
     have HC369 := Aside0.mk hC25
     have hf369 := Kd.far_C 0 (Kd.C_of_reads (h1 := fun _ => rfl) (hA25 _ (Kd.reads_of_C HSz24_0.1))) (IsS61.ge HI0.out)
     clear hA25 hC25 hi025 hsz25
     refine start_ (n := 17) (S := fun w' => w'.cell? ⟨g, 0, none⟩ = some (.slice ASz24_0 s0_0.length cSz24_0) ∧ w'.cell? ⟨g, 1, none⟩ = some (.int .i64 s0_1) ∧ w'.cell? ⟨g, 2, none⟩ = some (.bool false)) (ds := []) #[false, false, false, false, false, false, false, false, false, false, false, false, false, false, false, false, false] (by kernel_rfl) rfl rfl ⟨hcz24_0, hcz24_1, hcz24_2⟩ (fun hHeld => ?_); refine with_tabW dragnetref02_Reader_Number.tab3 dragnetref02_Reader_Number.bits3 (fun HT_ HW_ => ?_)
     generalize w.drew = w23 at HI0 HK HB HR369 hHeld ⊢
     refine pure_ (i := 0) (N := some 13) (v := ?_) (a' := ?_) #[tT,fF,fF,fF,fF,fF,fF,fF,fF,fF,fF,fF,fF,fF,fF,fF,fF] rfl rfl (any_of HT_.out (by kernel_rfl)) (fun _ _ _ h => h) (Or.inl ⟨by rfl, ?_⟩) ?_ ?_
     rotate_left
     ·intro w'
      go_simp
      with_reducible rfl
     rotate_left
     ·simp only [Act.put, List.setIfInBounds_toArray, List.set_cons_zero, List.set_cons_succ, i64_w, i32_w]
      rfl
     refine pure_ (i := 1) (N := some 14) (v := ?_) (a' := ?_) #[tT,tT,fF,fF,fF,fF,fF,fF,fF,fF,fF,fF,fF,fF,fF,fF,fF] rfl rfl (any_of HT_.out (by kernel_rfl)) (fun _ _ _ h => h) (Or.inl ⟨by rfl, ?_⟩) ?_ ?_
     rotate_left
     ·intro w'
      go_simp
      with_reducible rfl
     rotate_left
     ·simp only [Act.put, List.setIfInBounds_toArray, List.set_cons_zero, List.set_cons_succ, i64_w, i32_w]
      rfl
     refine pure_ (i := 2) (N := some 15) (v := ?_) (a' := ?_) #[tT,tT,tT,fF,fF,fF,fF,fF,fF,fF,fF,fF,fF,fF,fF,fF,fF] rfl rfl (any_of HT_.out (by kernel_rfl)) (fun _ _ _ h => h) (Or.inl ⟨by rfl, ?_⟩) ?_ ?_
     rotate_left
     ·intro w'
      go_simp
      with_reducible rfl
     rotate_left
     ·simp only [Act.put, List.setIfInBounds_toArray, List.set_cons_zero, List.set_cons_succ, i64_w, i32_w]
      rfl
     refine pure_ (i := 4) (N := some 17) (v := ?_) (a' := ?_) #[tT,tT,tT,fF,tT,fF,fF,fF,fF,fF,fF,fF,fF,fF,fF,fF,fF] rfl rfl (any_of HT_.out (by kernel_rfl)) (fun _ _ _ h => h) (Or.inl ⟨by rfl, ?_⟩) ?_ ?_
     rotate_left
     ·intro w'
      go_simp
      with_reducible rfl
     rotate_left
     ·simp only [Act.put, List.setIfInBounds_toArray, List.set_cons_zero, List.set_cons_succ, i64_w, i32_w]
      rfl
     refine pure_ (i := 5) (N := some 18) (v := ?_) (a' := ?_) #[tT,tT,tT,fF,tT,tT,fF,fF,fF,fF,fF,fF,fF,fF,fF,fF,fF] rfl rfl (any_of HT_.out (by kernel_rfl)) (fun _ _ _ h => h) (Or.inl ⟨by rfl, ?_⟩) ?_ ?_
     rotate_left
     ·intro w'
      go_simp
      with_reducible rfl
     rotate_left
     ·simp only [Act.put, List.setIfInBounds_toArray, List.set_cons_zero, List.set_cons_succ, i64_w, i32_w]
      rfl
     refine pure_ (i := 6) (N := some 19) (v := ?_) (a' := ?_) #[tT,tT,tT,fF,tT,tT,tT,fF,fF,fF,fF,fF,fF,fF,fF,fF,fF] rfl rfl (any_of HT_.out (by kernel_rfl)) (fun _ _ _ h => h) (Or.inl ⟨by rfl, ?_⟩) ?_ ?_
     rotate_left
     ·intro w'
      go_simp
      with_reducible rfl
     rotate_left
     ·simp only [Act.put, List.setIfInBounds_toArray, List.set_cons_zero, List.set_cons_succ, i64_w, i32_w]
      rfl
     refine take_ (i := 3) (N := some 16) (v := ?_) (a' := ?_) #[tT,tT,tT,tT,tT,tT,tT,fF,fF,fF,fF,fF,fF,fF,fF,fF,fF] rfl rfl (take_ofW HT_.out HW_.out (by kernel_rfl)) (fun _ _ _ h => h) (Or.inl ⟨by rfl, ?_⟩) hHeld ?_ ?_
     rotate_left
     ·rintro w' ⟨s0, s1, s2⟩
      go_simp
      with_reducible rfl
     rotate_left
     ·simp only [Act.put, List.setIfInBounds_toArray, List.set_cons_zero, List.set_cons_succ, i64_w, i32_w]
      rfl
     refine take_ (i := 7) (N := some 20) (v := ?_) (a' := ?_) #[tT,tT,tT,tT,tT,tT,tT,tT,fF,fF,fF,fF,fF,fF,fF,fF,fF] rfl rfl (take_ofW HT_.out HW_.out (by kernel_rfl)) (fun _ _ _ h => h) (Or.inl ⟨by rfl, ?_⟩) hHeld ?_ ?_
     rotate_left
     ·rintro w' ⟨s0, s1, s2⟩
      go_simp
      with_reducible rfl
     rotate_left
     ·simp only [Act.put, List.setIfInBounds_toArray, List.set_cons_zero, List.set_cons_succ, i64_w, i32_w]
      rfl
     refine pure_ (i := 8) (N := some 21) (v := ?_) (a' := ?_) #[tT,tT,tT,tT,tT,tT,tT,tT,tT,fF,fF,fF,fF,fF,fF,fF,fF] rfl rfl (any_of HT_.out (by kernel_rfl)) (fun _ _ _ h => h) (Or.inl ⟨by rfl, ?_⟩) ?_ ?_
     rotate_left
     ·intro w'
      go_simp
      with_reducible rfl
     rotate_left
     ·simp only [Act.put, List.setIfInBounds_toArray, List.set_cons_zero, List.set_cons_succ, i64_w, i32_w]
      rfl
     refine one_ (i := 9) (N := some 22) #[tT,tT,tT,tT,tT,tT,tT,tT,tT,tT,fF,fF,fF,fF,fF,fF,fF] rfl rfl (one_of HT_.out (by kernel_rfl)) (by decide) (fun K hK => ?_)
     refine goes_ Try.func45 (by kernel_rfl) rfl #[.slice A25 (s0_0.drop (s0_1 : Int).toNat).length (cSz24_0 - s0_1.toNat)] (by rfl) rfl rfl (by (try simp only [List.map_toArray, List.map_cons, List.map_nil]); first | done | (rw [show (s0_0.drop (s0_1 : Int).toNat).length = (s0_0.length - s0_1.toNat) from List.length_drop] <;> rfl) | rfl | (simp only [List.length_drop, List.length_take]; rfl)) ?_
     with_reducible refine (dragnetref02_Take.calls k _ _ (s0_0.drop (s0_1 : Int).toNat) t370 t371 t372 _ ?side1 ?side2 A7.out).mono ?_
     (case side1 => exact Kd.C_keep 0 HR369.out (by repeat (first | (with_reducible first | exact HK.out | apply KeepBut.set_ | apply keep_drewN | apply keep_drew | apply keep_alloc) | exact HK.out)) hf369)
     (case side2 => exact HC369.out)
     rintro e w26 ⟨rfl, hb⟩
     have HS0_ := (hb.cell (World.block_lt_of_cell? _ _ (hHeld.1))).trans (hHeld.1)
     have HS1_ := (hb.cell (World.block_lt_of_cell? _ _ (hHeld.2.1))).trans (hHeld.2.1)
     have HS2_ := (hb.cell (World.block_lt_of_cell? _ _ (hHeld.2.2))).trans (hHeld.2.2)
     refine ⟨_, rfl, ?_⟩
     have n0_ := Aside0.mk (IsS61.below (by repeat (first | (with_reducible first | exact HI0.out | apply IsS61.alloc | apply IsS61.drewN | apply IsS61.drew | apply IsS61.set_1 | apply IsS61.set_2) | exact HI0.out)) hb)
     have n1_ := Aside0.mk (KeepBut.trans (by repeat (first | (with_reducible first | exact HK.out | apply KeepBut.set_ | apply keep_drewN | apply keep_drew | apply keep_alloc) | exact HK.out)) (KeepBut.of_below hb g none) (.inl rfl))
     have n2_ := Aside0.mk (below_step (by repeat (first | (with_reducible first | exact HB.out | apply pbA_ | apply pbN_ | apply pb1_ | refine below_set ?_ (IsS61.ge HI0.out)) | exact HB.out)) hb)
     clear HI0
     clear HK
     clear HB
     have HI0 := n0_
     have HK := n1_
     have HB := n2_
     clear n0_ n1_ n2_
     (try clear hb)
     (try clear hb2)
     (try clear hk)
     (try clear hi)
     refine hK.out _ _ ⟨HS0_, HS1_, HS2_⟩ (fun hHeld => ?_)
     clear hK K
     refine norm_ (a' := ?_) ?_ ?_
     rotate_left
     ·show Act.put _ (some 22) _ = _
      simp only [Act.put, List.setIfInBounds_toArray, List.set_cons_zero, List.set_cons_succ, i64_w, i32_w]
      rfl
     refine pure_ (i := 10) (N := some 12) (v := ?_) (a' := ?_) #[tT,tT,tT,tT,tT,tT,tT,tT,tT,tT,tT,fF,fF,fF,fF,fF,fF] rfl rfl (any_of HT_.out (by kernel_rfl)) (fun _ _ _ h => h) (Or.inl ⟨by rfl, ?_⟩) ?_ ?_
     rotate_left
     ·intro w'
      go_simp
      with_reducible rfl
     rotate_left
     ·simp only [Act.put, List.setIfInBounds_toArray, List.set_cons_zero, List.set_cons_succ, i64_w, i32_w]
      rfl
     refine pure_ (i := 11) (N := some 23) (v := ?_) (a' := ?_) #[tT,tT,tT,tT,tT,tT,tT,tT,tT,tT,tT,tT,fF,fF,fF,fF,fF] rfl rfl (any_of HT_.out (by kernel_rfl)) (fun _ _ _ h => h) (Or.inl ⟨by rfl, ?_⟩) ?_ ?_
     rotate_left
     ·intro w'
      go_simp
      with_reducible rfl
     rotate_left
     ·simp only [Act.put, List.setIfInBounds_toArray, List.set_cons_zero, List.set_cons_succ, i64_w, i32_w]
      rfl
     refine pure_ (i := 12) (N := some 24) (v := ?_) (a' := ?_) #[tT,tT,tT,tT,tT,tT,tT,tT,tT,tT,tT,tT,tT,fF,fF,fF,fF] rfl rfl (any_of HT_.out (by kernel_rfl)) (fun _ _ _ h => h) (Or.inl ⟨by rfl, ?_⟩) ?_ ?_
     rotate_left
     ·intro w'
      go_simp
      with_reducible rfl
     rotate_left
     ·simp only [Act.put, List.setIfInBounds_toArray, List.set_cons_zero, List.set_cons_succ, i64_w, i32_w]
      rfl
     refine pure_ (i := 13) (N := some 25) (v := ?_) (a' := ?_) #[tT,tT,tT,tT,tT,tT,tT,tT,tT,tT,tT,tT,tT,tT,fF,fF,fF] rfl rfl (any_of HT_.out (by kernel_rfl)) (fun _ _ _ h => h) (Or.inl ⟨by rfl, ?_⟩) ?_ ?_
     rotate_left
     ·intro w'
      go_simp
      with_reducible rfl
     rotate_left
     ·simp only [Act.put, List.setIfInBounds_toArray, List.set_cons_zero, List.set_cons_succ, i64_w, i32_w]
      rfl
     refine pure_ (i := 14) (N := some 5) (v := ?_) (a' := ?_) #[tT,tT,tT,tT,tT,tT,tT,tT,tT,tT,tT,tT,tT,tT,tT,fF,fF] rfl rfl (any_of HT_.out (by kernel_rfl)) (fun _ _ _ h => h) (Or.inl ⟨by rfl, ?_⟩) ?_ ?_
     rotate_left
     ·intro w'
      go_simp
      with_reducible rfl
     rotate_left
     ·simp only [Act.put, List.setIfInBounds_toArray, List.set_cons_zero, List.set_cons_succ, i64_w, i32_w]
      rfl
     refine pure_ (i := 15) (N := some 6) (v := ?_) (a' := ?_) #[tT,tT,tT,tT,tT,tT,tT,tT,tT,tT,tT,tT,tT,tT,tT,tT,fF] rfl rfl (any_of HT_.out (by kernel_rfl)) (fun _ _ _ h => h) (Or.inl ⟨by rfl, ?_⟩) ?_ ?_
     rotate_left
     ·intro w'
      go_simp
      with_reducible rfl
     rotate_left
     ·simp only [Act.put, List.setIfInBounds_toArray, List.set_cons_zero, List.set_cons_succ, i64_w, i32_w]
      rfl
     refine pure_ (i := 16) (N := some 7) (v := ?_) (a' := ?_) #[tT,tT,tT,tT,tT,tT,tT,tT,tT,tT,tT,tT,tT,tT,tT,tT,tT] rfl rfl (any_of HT_.out (by kernel_rfl)) (fun _ _ _ h => h) (Or.inl ⟨by rfl, ?_⟩) ?_ ?_
     rotate_left
     ·intro w'
      go_simp
      with_reducible rfl
     rotate_left
     ·simp only [Act.put, List.setIfInBounds_toArray, List.set_cons_zero, List.set_cons_succ, i64_w, i32_w]
      rfl
     refine done_ (done_of HT_.out (by kernel_rfl)) ?_
     obtain ⟨ASz27_0, cSz27_0, HGz27, hgz27, HSz27_0⟩ := HI0.out
     have hcz27_0 := cellS61_0 HGz27
     have hcz27_1 := cellS61_1 HGz27
     have hcz27_2 := cellS61_2 HGz27
     have hfz27_1 := blk_frozen HGz27 1
     have hfz27_2 := blk_frozen HGz27 2
     clear HGz27 hgz27
     try go_wp2
     go_ret
     exact ⟨by first | rfl | (simp [eWn_, eWs_] <;> rfl) | (simp [*, eWn_, eWs_] <;> rfl), by first | ((repeat (first | (with_reducible first | exact HI0.out | apply IsS61.alloc | apply IsS61.drewN | apply IsS61.drew | apply IsS61.set_1 | apply IsS61.set_2) | exact HI0.out)); done) | ((try simp only [gt_iff_lt, ge_iff_le]); (try simp only [c8b0]); repeat (first | (with_reducible first | exact HI0.out | apply IsS61.alloc | apply IsS61.drewN | apply IsS61.drew | apply IsS61.set_1 | apply IsS61.set_2) | exact HI0.out)), by repeat (first | (with_reducible first | exact HB.out | apply pbA_ | apply pbN_ | apply pb1_ | refine below_set ?_ (IsS61.ge HI0.out)) | exact HB.out), by repeat (first | (with_reducible first | exact HK.out | apply KeepBut.set_ | apply keep_drewN | apply keep_drew | apply keep_alloc) | exact HK.out)⟩
   ·rw [if_neg c6] at H
    exact absurd H (by simp)
  ·rw [if_neg c5] at H
   exact absurd H (by simp)
def dragnetref02_Reader_Count.f (k : Nat) (s0_0 : List Int) (s0_1 : Int) (s0_2 : Bool) (a1 : Int) : Option (Int × Int × Bool) := (dragnetref02_Reader_Number.f k s0_0 s0_1 s0_2 (IntKind.u64.wrap (a1))).bind fun bt373 => (some (wrap64 (bt373.1), bt373.2.1, bt373.2.2))
theorem dragnetref02_Reader_Count.mono : ∀ a0 a1 a2 a3 k, LeO (dragnetref02_Reader_Count.f k a0 a1 a2 a3) (dragnetref02_Reader_Count.f (k + 1) a0 a1 a2 a3) := by
 intro a0 a1 a2 a3 k
 unfold dragnetref02_Reader_Count.f
 repeat' first
   | (with_reducible exact dragnetref02_Reader_Number.mono _ _ _ _ _)
   | (with_reducible exact LeO.refl _)
   | (with_reducible exact LeO.none _)
   | (with_reducible refine LeO.ite ?_ ?_)
   | (with_reducible refine LeO.bind ?_ (fun _ => ?_))
   | exact dragnetref02_Reader_Number.mono _ _ _ _ _
   | exact LeO.none _
   | refine LeO.ite ?_ ?_
   | refine LeO.bind ?_ (fun _ => ?_)
set_option maxHeartbeats 8000000 in
set_option maxRecDepth 100000 in
theorem dragnetref02_Reader_Count.calls (k : Nat) (g : Nat) (s0_0 : List Int) (s0_1 : Int) (s0_2 : Bool) (a1 : Int) (r1 : Int) (r2 : Int) (r3 : Bool) (w0 w : World) (hI : IsS61 w0 w g s0_0 s0_1 s0_2) (hB : Below w0.heap.size w0 w) (h : dragnetref02_Reader_Count.f k s0_0 s0_1 s0_2 a1 = some (r1, r2, r3)) :
  Calls Try.prog 37 #[.pointer (some ⟨g, 0, none⟩), .int .i64 a1] w fun e w' => e = .returned (.int .i64 r1) ∧ IsS61 w0 w' g s0_0 r2 r3 ∧ Below w0.heap.size w0 w' ∧ KeepBut w w' g none := by
 have HI0 := Aside0.mk hI
 have HK := Aside0.mk (KeepBut.refl w g none)
 have HL := Aside0.mk hB.size
 clear hI
 have HW0 := Aside0.mk hB.size
 have HB := Aside0.mk hB
 have HBE := Aside0.mk hB
 clear hB
 have H : ((dragnetref02_Reader_Number.f k s0_0 s0_1 s0_2 (IntKind.u64.wrap (a1))).bind fun bt373 => (some (wrap64 (bt373.1), bt373.2.1, bt373.2.2))) = some (r1, r2, r3) := h
 clear h
 replace H := Option.bind_eq_some_iff.mp H
 obtain ⟨⟨t373, t374, t375⟩, A30, H⟩ := H
 replace H : (some (wrap64 (t373), t374, t375)) = some (r1, r2, r3) := H
 have A3 := Aside0.mk A30
 clear A30
 simp only [Option.some.injEq, Prod.mk.injEq] at H
 obtain ⟨rfl, rfl, rfl⟩ := H
 go_enter Try.func37, Try.ntmps37
 go_wp2_with (first | ((with_reducible refine gaC_ (f := 38) rfl ?_); refine goesL_ (some 8) rfl rfl Try.func38 (by kernel_rfl) rfl #[.pointer (some ⟨g, 0, none⟩), .int .u64 (IntKind.u64.wrap (a1))] rfl (by (try simp only [List.map_toArray, List.map_cons, List.map_nil]); first | done | rfl | (simp only [List.length_drop, List.length_take]; rfl)) ?_; (with_reducible refine (dragnetref02_Reader_Number.calls k g s0_0 s0_1 s0_2 (IntKind.u64.wrap (a1)) t373 t374 t375 w0 _ ?side1 ?side2 A3.out).mono ?_); (case side1 => repeat (first | (with_reducible first | exact HI0.out | apply IsS61.alloc | apply IsS61.drewN | apply IsS61.drew | apply IsS61.set_1 | apply IsS61.set_2) | exact HI0.out)); (case side2 => repeat (first | (with_reducible first | exact HB.out | apply pbA_ | apply pbN_ | apply pb1_ | refine below_set ?_ (IsS61.ge HI0.out)) | exact HB.out)); rintro e w4 ⟨rfl, hi, hb, hk⟩; refine ⟨_, rfl, ?_⟩; have n0_ := Aside0.mk (KeepBut.trans (by repeat (first | (with_reducible first | exact HK.out | apply KeepBut.set_ | apply keep_drewN | apply keep_drew | apply keep_alloc) | exact HK.out)) hk (.inl rfl)); have n1_ := Aside0.mk (hb); have n2_ := Aside0.mk (hi); clear HK; clear HB; clear HI0; have HK := n0_; have HB := n1_; have HI0 := n2_; clear n0_ n1_ n2_; (try clear hb); (try clear hb2); (try clear hk); (try clear hi)))
 go_ret
 exact ⟨by first | rfl | (simp [eWn_, eWs_] <;> rfl) | (simp [*, eWn_, eWs_] <;> rfl), by repeat (first | (with_reducible first | exact HI0.out | apply IsS61.alloc | apply IsS61.drewN | apply IsS61.drew | apply IsS61.set_1 | apply IsS61.set_2) | exact HI0.out), by repeat (first | (with_reducible first | exact HB.out | apply pbA_ | apply pbN_ | apply pb1_ | refine below_set ?_ (IsS61.ge HI0.out)) | exact HB.out), by repeat (first | (with_reducible first | exact HK.out | apply KeepBut.set_ | apply keep_drewN | apply keep_drew | apply keep_alloc) | exact HK.out)⟩
end Go.Proofs.Ytkcjjennlhgmhaa.P
end
