/- Words and proofs that UpPforBack leans on; put together by wip/tools/shake.py. -/
import Derived.Test.YtkcjjennlhgmhaaZUpPforBack11
import Derived.ArgAppend
import Derived.Below
import Derived.BigQuiet
import Derived.Deep.AppendLies
import Derived.Deep.CutBlock
import Derived.Deep.DeepCutAuto
import Derived.Deep.Draws
import Derived.Deep.LoopGhost
import Derived.Deep.OwnRows
import Derived.Deep.QuietTactic
import Derived.Deep.RegionHeld3
import Derived.KernelRfl
import Derived.Laws.BitsLemmas
import Derived.Laws.BytesArg
import Derived.Laws.Cover1
import Derived.Laws.IdiomCopy
import Derived.Laws.MakeOwn
import Derived.Laws.OwnMore
import Derived.Laws.Rows
import Derived.Laws.Slices
import Derived.Laws.StructEq
import Derived.Lib.AppendStr
import Derived.Lib.BitFns
import Derived.Lib.ConvBytes
import Derived.Lib.Slices
import Derived.Lib.Small
import Derived.Lib.Strings
import Derived.Lib.Walk
import Derived.LoopIn
import Derived.LoopNIn
import Derived.Maps.AppendAt
import Derived.OrdersHeld
import Derived.OwnWalk
import Derived.OwnWalkIn
import Derived.RangeFuncBound
import Derived.RangeFuncBox
import Derived.RangeFuncCalls
import Derived.RangeFuncFrom
import Derived.RangeFuncLeaves
import Derived.RangeFuncNested
import Derived.RowKit
import Derived.RowKit3
import Derived.ScopeJumps
import Derived.Shelf.Abstract
import Derived.Sort.QuietIn
import Derived.Tactics
import Derived.TacticsInMore
import Derived.Test.YtkcjjennlhgmhaaChecked
import Derived.Test.YtkcjjennlhgmhaaProg
import Derived.WalkKit
import Derived.WalkMore
import Derived.WalkSpells
import Derived.WideLaws
section
namespace Go.Proofs.Ytkcjjennlhgmhaa.P
open Go.RowKit Go.Proofs.YtkcjjennlhgmhaaW.PrintWords Go.Proofs.YtkcjjennlhgmhaaW.PrintLast Go.Proofs.YtkcjjennlhgmhaaW.PrintMore
attribute [local go_sem] max2_int min2_int max_two min_two max_three min_three max_four min_four
set_option linter.unusedVariables false
set_option linter.unusedSimpArgs false
def num_Take.l0 : Nat → Int → Int → List Int → Int → Int → Option (Int × Int × Int)
 | 0, _, _, _, _, _ => none
 | k + 1, x2, x5, x34, x35, x36 => if x36 < x35 then (if 0 ≤ x36 then (if x36 < (x34.length : Int) then (if 0 ≤ (wrap64 (8 * x36)) then (num_Take.l0 k (Go.bits .or .u64 x2 (shl .u64 (IntKind.u64.wrap (rd x34 x36)) (wrap64 (8 * x36)))) x5 x34 x35 (wrap64 (x36 + 1))) else (none)) else (none)) else (none)) else (if x2 ≤ 247 then (some (0, 0, 2)) else ((num_size.f x2).bind fun t317 => (if t317 < x5 then (some (0, 0, 2)) else (some (x2, wrap64 (1 + x5), 0)))))
def num_Take.f (k : Nat) (l0 : List Int) : Option (Int × Int × Int) := if (l0.length : Int) = 0 then (some (0, 0, 3)) else (if 0 < (l0.length : Int) then (if (rd l0 0) ≤ 247 then (some (IntKind.u64.wrap (rd l0 0), 1, 0)) else (if (wrap64 ((wrap64 (rd l0 0)) - 247)) > (wrap64 ((l0.length : Int) - 1)) then (some (0, 0, 3)) else (if 1 ≤ (wrap64 (1 + (wrap64 ((wrap64 (rd l0 0)) - 247)))) then (if (wrap64 (1 + (wrap64 ((wrap64 (rd l0 0)) - 247)))) ≤ (l0.length : Int) then ((some ((l0.take ((wrap64 (1 + (wrap64 ((wrap64 (rd l0 0)) - 247)))) : Int).toNat).drop 1 : List Int)).bind fun y312 => (num_Take.l0 k 0 (wrap64 ((wrap64 (rd l0 0)) - 247)) y312 (y312.length : Int) 0)) else (none)) else (none)))) else (none))
theorem num_Take.mono_l : ∀ k, (∀ y0 y1 y2 y3 y4, LeO (num_Take.l0 k y0 y1 y2 y3 y4) (num_Take.l0 (k + 1) y0 y1 y2 y3 y4))
 | 0 => fun _ _ _ _ _ r h => by simp [num_Take.l0] at h
 | k + 1 => by
  have ih0 := num_Take.mono_l k
  ·intro y0 y1 y2 y3 y4
   unfold num_Take.l0
   repeat' first
   | (with_reducible exact ih0 _ _ _ _ _)
   | (with_reducible exact LeO.refl _)
   | (with_reducible exact LeO.none _)
   | (with_reducible refine LeO.ite ?_ ?_)
   | (with_reducible refine LeO.bind ?_ (fun _ => ?_))
   | exact ih0 _ _ _ _ _
   | exact LeO.none _
   | refine LeO.ite ?_ ?_
   | refine LeO.bind ?_ (fun _ => ?_)
theorem num_Take.mono : ∀ a0 k, LeO (num_Take.f k a0) (num_Take.f (k + 1) a0) := by
 intro a0 k
 have ih0 := num_Take.mono_l k
 unfold num_Take.f
 repeat' first
   | (with_reducible exact ih0 _ _ _ _ _)
   | (with_reducible exact LeO.refl _)
   | (with_reducible exact LeO.none _)
   | (with_reducible refine LeO.ite ?_ ?_)
   | (with_reducible refine LeO.bind ?_ (fun _ => ?_))
   | exact ih0 _ _ _ _ _
   | exact LeO.none _
   | refine LeO.ite ?_ ?_
   | refine LeO.bind ?_ (fun _ => ?_)
set_option maxHeartbeats 8000000 in
set_option maxRecDepth 100000 in
theorem num_Take.calls (k : Nat) (A0 : Option Addr) (c0 : Nat) (l0 : List Int) (r1 : Int) (r2 : Int) (r3 : Int) (w : World) (hr0 : Kd.C (Kd.int .u8) w A0 l0.length l0) (hc0 : l0.length ≤ c0) (h : num_Take.f k l0 = some (r1, r2, r3)) :
  Calls Try.prog 44 #[.slice A0 l0.length c0] w fun e w' => e = .returned (.tuple #[.int .u64 r1, .int .i64 r2, .int .i64 r3]) ∧ Drawn0 w w' := by
 have HR0 := Aside0.mk hr0
 have HC0 := Aside0.mk hc0
 clear hr0 hc0
 have H : (if (l0.length : Int) = 0 then (some (0, 0, 3)) else (if 0 < (l0.length : Int) then (if (rd l0 0) ≤ 247 then (some (IntKind.u64.wrap (rd l0 0), 1, 0)) else (if (wrap64 ((wrap64 (rd l0 0)) - 247)) > (wrap64 ((l0.length : Int) - 1)) then (some (0, 0, 3)) else (if 1 ≤ (wrap64 (1 + (wrap64 ((wrap64 (rd l0 0)) - 247)))) then (if (wrap64 (1 + (wrap64 ((wrap64 (rd l0 0)) - 247)))) ≤ (l0.length : Int) then ((some ((l0.take ((wrap64 (1 + (wrap64 ((wrap64 (rd l0 0)) - 247)))) : Int).toNat).drop 1 : List Int)).bind fun y312 => (num_Take.l0 k 0 (wrap64 ((wrap64 (rd l0 0)) - 247)) y312 (y312.length : Int) 0)) else (none)) else (none)))) else (none))) = some (r1, r2, r3) := h
 clear h
 by_cases c2 : (l0.length : Int) = 0
 ·rw [if_pos c2] at H
  have c2b0 : ((l0.length : Int) == 0) = true := beq_iff_eq.mpr c2
  have c2b1 : ((l0.length : Int) != 0) = false := bne_eq_false_iff_eq.mpr c2
  clear c2
  simp only [Option.some.injEq, Prod.mk.injEq] at H
  obtain ⟨rfl, rfl, rfl⟩ := H
  go_enter Try.func44, Try.ntmps44
  go_wp2
  go_ret3
  exact ⟨by first | rfl | (simp; done) | (simp [*]; done), by repeat (first | exact Drawn0.refl _ | apply Drawn0.step)⟩
 ·rw [if_neg c2] at H
  have c2b0 : ((l0.length : Int) == 0) = false := beq_eq_false_iff_ne.mpr c2
  have c2b1 : ((l0.length : Int) != 0) = true := bne_iff_ne.mpr c2
  have c2b2 : ¬ (l0 = []) := fun h_ => c2 (by rw [h_]; rfl)
  by_cases c3 : 0 < (l0.length : Int)
  ·rw [if_pos c3] at H
   have c3b0 : decide (0 < (l0.length : Int)) = true := decide_eq_true c3
   have c3b1 : decide (0 < l0.length) = true := decide_eq_true (by omega)
   clear c3
   by_cases c4 : (rd l0 0) ≤ 247
   ·rw [if_pos c4] at H
    have c4b0 : decide ((rd l0 0) ≤ 247) = true := decide_eq_true c4
    clear c4
    simp only [Option.some.injEq, Prod.mk.injEq] at H
    obtain ⟨rfl, rfl, rfl⟩ := H
    have p309 : 0 ≤ (0 : Int) := (by omega)
    have q309 : 0 < (l0.length : Int) := of_decide_eq_true (by first | (with_reducible assumption) | assumption)
    obtain ⟨ad309, e309, hx309_0⟩ := Kd.at_int HR0.out 0 p309 q309
    cases e309
    have qi309 : (0 < l0.length) = True := eq_true (by omega)
    (try rw [show ((0 : Int)).toNat = 0 from rfl] at hx309_0)
    (try rw [Addr.add_zero'] at hx309_0)
    replace p309 := eq_true p309
    replace q309 := eq_true q309
    have p310 : 0 ≤ (0 : Int) := (by omega)
    have q310 : 0 < (l0.length : Int) := of_decide_eq_true (by first | (with_reducible assumption) | assumption)
    obtain ⟨ad310, e310, hx310_0⟩ := Kd.at_int HR0.out 0 p310 q310
    obtain rfl : ad309 = ad310 := (by injection e310)
    have qi310 : (0 < l0.length) = True := eq_true (by omega)
    (try rw [show ((0 : Int)).toNat = 0 from rfl] at hx310_0)
    (try rw [Addr.add_zero'] at hx310_0)
    replace p310 := eq_true p310
    replace q310 := eq_true q310
    go_enter Try.func44, Try.ntmps44
    go_wp2
    go_ret3
    exact ⟨by first | rfl | (simp; done) | (simp [*]; done), by repeat (first | exact Drawn0.refl _ | apply Drawn0.step)⟩
   ·rw [if_neg c4] at H
    have c4b0 : decide ((rd l0 0) ≤ 247) = false := decide_eq_false c4
    clear c4
    by_cases c5 : (wrap64 ((wrap64 (rd l0 0)) - 247)) > (wrap64 ((l0.length : Int) - 1))
    ·rw [if_pos c5] at H
     have c5b0 : decide ((wrap64 ((l0.length : Int) - 1)) < (wrap64 ((wrap64 (rd l0 0)) - 247))) = true := decide_eq_true c5
     clear c5
     simp only [Option.some.injEq, Prod.mk.injEq] at H
     obtain ⟨rfl, rfl, rfl⟩ := H
     have p309 : 0 ≤ (0 : Int) := (by omega)
     have q309 : 0 < (l0.length : Int) := of_decide_eq_true (by first | (with_reducible assumption) | assumption)
     obtain ⟨ad309, e309, hx309_0⟩ := Kd.at_int HR0.out 0 p309 q309
     cases e309
     have qi309 : (0 < l0.length) = True := eq_true (by omega)
     (try rw [show ((0 : Int)).toNat = 0 from rfl] at hx309_0)
     (try rw [Addr.add_zero'] at hx309_0)
     replace p309 := eq_true p309
     replace q309 := eq_true q309
     have p311 : 0 ≤ (0 : Int) := (by omega)
     have q311 : 0 < (l0.length : Int) := of_decide_eq_true (by first | (with_reducible assumption) | assumption)
     obtain ⟨ad311, e311, hx311_0⟩ := Kd.at_int HR0.out 0 p311 q311
     obtain rfl : ad309 = ad311 := (by injection e311)
     have qi311 : (0 < l0.length) = True := eq_true (by omega)
     (try rw [show ((0 : Int)).toNat = 0 from rfl] at hx311_0)
     (try rw [Addr.add_zero'] at hx311_0)
     replace p311 := eq_true p311
     replace q311 := eq_true q311
     go_enter Try.func44, Try.ntmps44
     go_wp2
     go_ret3
     exact ⟨by first | rfl | (simp; done) | (simp [*]; done), by repeat (first | exact Drawn0.refl _ | apply Drawn0.step)⟩
    ·rw [if_neg c5] at H
     have c5b0 : decide ((wrap64 ((l0.length : Int) - 1)) < (wrap64 ((wrap64 (rd l0 0)) - 247))) = false := decide_eq_false c5
     clear c5
     by_cases c6 : 1 ≤ (wrap64 (1 + (wrap64 ((wrap64 (rd l0 0)) - 247))))
     ·rw [if_pos c6] at H
      have c6b0 := eq_true c6
      have c6b1 : decide (1 ≤ (wrap64 (1 + (wrap64 ((wrap64 (rd l0 0)) - 247))))) = true := decide_eq_true c6
      by_cases c7 : (wrap64 (1 + (wrap64 ((wrap64 (rd l0 0)) - 247)))) ≤ (l0.length : Int)
      ·rw [if_pos c7] at H
       have c7b0 := eq_true c7
       have c7b1 : decide ((wrap64 (1 + (wrap64 ((wrap64 (rd l0 0)) - 247)))) ≤ (l0.length : Int)) = true := decide_eq_true c7
       obtain ⟨y312, hy312⟩ : ∃ y_ : List Int, y_ = ((l0.take ((wrap64 (1 + (wrap64 ((wrap64 (rd l0 0)) - 247)))) : Int).toNat).drop 1) := ⟨_, rfl⟩
       replace H : (num_Take.l0 k 0 (wrap64 ((wrap64 (rd l0 0)) - 247)) y312 (y312.length : Int) 0) = some (r1, r2, r3) := by first | (rw [hy312]; with_reducible exact H) | (have H2_ := (Option.bind_some _ _).symm.trans H; rw [hy312]; with_reducible exact H2_) | (have H2_ := (Option.bind_some _ _).symm.trans H; with_reducible exact H2_) | with_reducible exact H | (rw [hy312]; exact H) | exact H
       have Ny312 := Aside0.mk hy312
       clear hy312
       have H' := Aside0.mk H
       clear H
       have p309 : 0 ≤ (0 : Int) := (by omega)
       have q309 : 0 < (l0.length : Int) := of_decide_eq_true (by first | (with_reducible assumption) | assumption)
       obtain ⟨ad309, e309, hx309_0⟩ := Kd.at_int HR0.out 0 p309 q309
       cases e309
       have qi309 : (0 < l0.length) = True := eq_true (by omega)
       (try rw [show ((0 : Int)).toNat = 0 from rfl] at hx309_0)
       (try rw [Addr.add_zero'] at hx309_0)
       replace p309 := eq_true p309
       replace q309 := eq_true q309
       have p311 : 0 ≤ (0 : Int) := (by omega)
       have q311 : 0 < (l0.length : Int) := of_decide_eq_true (by first | (with_reducible assumption) | assumption)
       obtain ⟨ad311, e311, hx311_0⟩ := Kd.at_int HR0.out 0 p311 q311
       obtain rfl : ad309 = ad311 := (by injection e311)
       have qi311 : (0 < l0.length) = True := eq_true (by omega)
       (try rw [show ((0 : Int)).toNat = 0 from rfl] at hx311_0)
       (try rw [Addr.add_zero'] at hx311_0)
       replace p311 := eq_true p311
       replace q311 := eq_true q311
       have q8 : ((wrap64 (1 + (wrap64 ((wrap64 (rd l0 0)) - 247)))) : Int) ≤ ((l0.length : Int) : Int) := of_decide_eq_true (by first | (with_reducible assumption) | assumption)
       obtain ⟨i08, hi08, _, hsz8, _⟩ := info_parts info5
       have hroom8 : l0.length ≤ c0 := HC0.out
       have hC8 : Kd.C (Kd.int .u8) _ (some ad309) l0.length l0 := HR0.out
       have ql8 : (1 : Int) ≤ ((wrap64 (1 + (wrap64 ((wrap64 (rd l0 0)) - 247)))) : Int) := of_decide_eq_true (by first | (with_reducible assumption) | assumption)
       have hcut8 := cut_mid (P := Try.prog) 22 5 .i64 .i64 Try.underlying22 hi08 1 hsz8 (some ad309) l0.length c0 1 (wrap64 (1 + (wrap64 ((wrap64 (rd l0 0)) - 247)))) (by omega) ql8 q8 hroom8
       have hr8 := Kd.C_mid (lo := (1 : Int).toNat) (hi := ((wrap64 (1 + (wrap64 ((wrap64 (rd l0 0)) - 247)))) : Int).toNat) (c := c0) hC8 (by omega) (by omega) hroom8
       obtain ⟨A8, hA8⟩ : ∃ A1, A1 = (if c0 = (1 : Int).toNat then (some ad309) else ((some ad309) : Option Addr).map (·.add ((1 : Int).toNat * 1))) := ⟨_, rfl⟩
       obtain ⟨c8, hc8⟩ : ∃ c1, c1 = c0 - (1 : Int).toNat := ⟨_, rfl⟩
       have hy8 : y312.length = ((wrap64 (1 + (wrap64 ((wrap64 (rd l0 0)) - 247)))) : Int).toNat - (1 : Int).toNat := (by rw [Ny312.out, List.length_drop, List.length_take] <;> omega)
       rw [show ((l0).take ((wrap64 (1 + (wrap64 ((wrap64 (rd l0 0)) - 247)))) : Int).toNat).drop (1 : Int).toNat = y312 from Ny312.out.symm] at hr8
       replace hr8 : Kd.C (Kd.int .u8) _ A8 y312.length y312 := (by rw [hA8]; exact hr8)
       rw [← hy8, ← hA8, ← hc8] at hcut8
       have HR315 := Aside0.mk hr8
       have HC315 := Aside0.mk (show y312.length ≤ c8 from by rw [hy8, hc8]; exact Nat.sub_le_sub_right (Nat.le_trans (by omega) hroom8) _)
       clear hr8 hC8 hroom8 hi08 hsz8 hc8
       have KY8 := Aside0.mk hy8
       have KA8 := Aside0.mk hA8
       clear hy8 hA8
       replace q8 := eq_true q8
       go_enter Try.func44, Try.ntmps44
       go_wp2
       go_loopg [2, 36] k (fun kq v2 v36 w' => ∃ (x2_1 : Int) (x36_1 : Int), v2 = .int .u64 x2_1 ∧ v36 = .int .i64 x36_1 ∧ Aside0 (num_Take.l0 kq x2_1 (wrap64 ((wrap64 (rd l0 0)) - 247)) y312 (y312.length : Int) x36_1 = some (r1, r2, r3)) ∧ Aside0 (kq ≤ k) ∧ Drawn0 w w')
       case atStart => exact ⟨(0), (0), (by first | rfl | (simp; done) | (simp [*]; done)), (by first | rfl | (simp; done) | (simp [*]; done)), H', ⟨Nat.le_refl _⟩, by repeat (first | exact Drawn0.refl _ | apply Drawn0.step)⟩
       case round =>
        clear H'
        try clear c1
        try clear c2
        try clear c2b0
        try clear c2b1
        try clear c2b2
        try clear p2
        try clear c3
        try clear c3b0
        try clear c3b1
        try clear p3
        try clear q3
        try clear hx3
        try clear qi3
        try clear c4
        try clear c4b0
        try clear c5
        try clear c5b0
        try clear c6
        try clear c6b0
        try clear c6b1
        try clear p6
        try clear c7
        try clear c7b0
        try clear c7b1
        try clear c8
        try clear q8
        try clear hx309_0
        try clear hx310_0
        try clear hx311_0
        try clear p309
        try clear p310
        try clear p311
        try clear q309
        try clear q310
        try clear q311
        try clear q8
        obtain ⟨x2_1, x36_1, rfl, rfl, HA, HK1, ⟨m1, rfl⟩⟩ := hrel
        cases gk with
        | zero => exact absurd HA.out (by simp [num_Take.l0])
        | succ k1 =>
         have H := HA.out
         clear HA
         simp only [num_Take.l0] at H
         by_cases c9 : x36_1 < (y312.length : Int)
         ·rw [if_pos c9] at H
          have c9b0 : decide (x36_1 < (y312.length : Int)) = true := decide_eq_true c9
          clear c9
          by_cases c10 : 0 ≤ x36_1
          ·rw [if_pos c10] at H
           have c10b0 : decide (0 ≤ x36_1) = true := decide_eq_true c10
           clear c10
           by_cases c11 : x36_1 < (y312.length : Int)
           ·rw [if_pos c11] at H
            have c11b0 : decide (x36_1 < (y312.length : Int)) = true := decide_eq_true c11
            clear c11
            obtain ⟨ji12, hji12⟩ : ∃ j_ : Int, (wrap64 (8 * x36_1)) = j_ := ⟨_, rfl⟩
            replace H : (if 0 ≤ (ji12) then (num_Take.l0 k1 (Go.bits .or .u64 x2_1 (shl .u64 (IntKind.u64.wrap (rd y312 x36_1)) (ji12))) (wrap64 ((wrap64 (rd l0 0)) - 247)) y312 (y312.length : Int) (wrap64 (x36_1 + 1))) else (none)) = some (r1, r2, r3) := by first | (rw [hji12] at H; exact H) | (simp only [hji12] at H ⊢; exact H)
            have hji12w : (IntKind.i64.wrap (8 * x36_1)) = ji12 := (i64_w _).trans hji12
            by_cases c13 : 0 ≤ (ji12)
            ·rw [if_pos c13] at H
             have c13b0 := eq_true c13
             have c13b1 : decide (0 ≤ (ji12)) = true := decide_eq_true c13
             clear c13
             obtain ⟨ji14, hji14⟩ : ∃ j_ : Int, (shl .u64 (IntKind.u64.wrap (rd y312 x36_1)) (ji12)) = j_ := ⟨_, rfl⟩
             replace H : (num_Take.l0 k1 (Go.bits .or .u64 x2_1 (ji14)) (wrap64 ((wrap64 (rd l0 0)) - 247)) y312 (y312.length : Int) (wrap64 (x36_1 + 1))) = some (r1, r2, r3) := by first | (rw [hji14] at H; exact H) | (simp only [hji14] at H ⊢; exact H)
             have hji14_ : (IntKind.u64.wrap ((IntKind.u64.wrap (rd y312 x36_1)) * 2 ^ min (ji12).toNat 64)) = ji14 := hji14
             have hji14z : (ji12) ≤ 64 → (IntKind.u64.wrap ((IntKind.u64.wrap (rd y312 x36_1)) * 2 ^ (ji12).toNat)) = ji14 := shl_small hji14
             have H' := Aside0.mk H
             clear H
             have p316 : 0 ≤ (x36_1 : Int) := of_decide_eq_true (by first | (with_reducible assumption) | assumption)
             have q316 : x36_1 < (y312.length : Int) := of_decide_eq_true (by first | (with_reducible assumption) | assumption)
             obtain ⟨ad316, e316, hx316_0⟩ := Kd.at_int HR315.out x36_1 p316 q316
             cases e316
             replace p316 := eq_true p316
             replace q316 := eq_true q316
             go_wp2
             (try subst hji14 hji12)
             go_roundg k1
             case measure => have := HK1.out; omega
             case rel => exact ⟨(Go.bits .or .u64 x2_1 ((shl .u64 (IntKind.u64.wrap (rd y312 x36_1)) ((wrap64 (8 * x36_1)))))), (wrap64 (x36_1 + 1)), (by first | rfl | (simp; done) | (simp only [← hji14] <;> (first | rfl | simp)) | (simp [*]; done)), (by first | rfl | (simp; done) | (simp [*]; done)), H', ⟨by have := HK1.out; omega⟩, by repeat (first | exact Drawn0.refl _ | apply Drawn0.step)⟩
            ·rw [if_neg c13] at H
             exact absurd H (by simp)
           ·rw [if_neg c11] at H
            exact absurd H (by simp)
          ·rw [if_neg c10] at H
           exact absurd H (by simp)
         ·rw [if_neg c9] at H
          have c9b0 : decide (x36_1 < (y312.length : Int)) = false := decide_eq_false c9
          clear c9
          by_cases c15 : x2_1 ≤ 247
          ·rw [if_pos c15] at H
           have c15b0 : decide (x2_1 ≤ 247) = true := decide_eq_true c15
           clear c15
           simp only [Option.some.injEq, Prod.mk.injEq] at H
           obtain ⟨rfl, rfl, rfl⟩ := H
           go_wp2
           go_ret3
           exact ⟨by first | rfl | (simp; done) | (simp [*]; done), by repeat (first | exact Drawn0.refl _ | apply Drawn0.step)⟩
          ·rw [if_neg c15] at H
           have c15b0 : decide (x2_1 ≤ 247) = false := decide_eq_false c15
           clear c15
           replace H := Option.bind_eq_some_iff.mp H
           obtain ⟨t317, A160, H⟩ := H
           replace H : (if t317 < (wrap64 ((wrap64 (rd l0 0)) - 247)) then (some (0, 0, 2)) else (some (x2_1, wrap64 (1 + (wrap64 ((wrap64 (rd l0 0)) - 247))), 0))) = some (r1, r2, r3) := H
           have A16 := Aside0.mk A160
           clear A160
           by_cases c17 : t317 < (wrap64 ((wrap64 (rd l0 0)) - 247))
           ·rw [if_pos c17] at H
            have c17b0 : decide (t317 < (wrap64 ((wrap64 (rd l0 0)) - 247))) = true := decide_eq_true c17
            clear c17
            simp only [Option.some.injEq, Prod.mk.injEq] at H
            obtain ⟨rfl, rfl, rfl⟩ := H
            go_wp2_with (first | (go_at_call 52; (with_reducible refine (num_size.calls x2_1 t317 _ A16.out).mono ?_); rintro e w' ⟨rfl, ⟨nd, rfl⟩⟩))
            go_ret3
            exact ⟨by first | rfl | (simp; done) | (simp [*]; done), by repeat (first | exact Drawn0.refl _ | apply Drawn0.step)⟩
           ·rw [if_neg c17] at H
            have c17b0 : decide (t317 < (wrap64 ((wrap64 (rd l0 0)) - 247))) = false := decide_eq_false c17
            clear c17
            simp only [Option.some.injEq, Prod.mk.injEq] at H
            obtain ⟨rfl, rfl, rfl⟩ := H
            go_wp2_with (first | (go_at_call 52; (with_reducible refine (num_size.calls x2_1 t317 _ A16.out).mono ?_); rintro e w' ⟨rfl, ⟨nd, rfl⟩⟩))
            go_ret3
            exact ⟨by first | rfl | (simp; done) | (simp [*]; done), by repeat (first | exact Drawn0.refl _ | apply Drawn0.step)⟩
      ·rw [if_neg c7] at H
       exact absurd H (by simp)
     ·rw [if_neg c6] at H
      exact absurd H (by simp)
  ·rw [if_neg c3] at H
   exact absurd H (by simp)
end Go.Proofs.Ytkcjjennlhgmhaa.P
end
section
namespace Go.Proofs.Ytkcjjennlhgmhaa.P
open Go.RowKit Go.Proofs.YtkcjjennlhgmhaaW.PrintWords Go.Proofs.YtkcjjennlhgmhaaW.PrintLast Go.Proofs.YtkcjjennlhgmhaaW.PrintMore
attribute [local go_sem] max2_int min2_int max_two min_two max_three min_three max_four min_four
set_option linter.unusedVariables false
set_option linter.unusedSimpArgs false
mutual
def bits_Unpack.j0 : Nat → List Int → Int → Int → Bool → Option (List Int × Int)
 | 0, _, _, _, _ => none
 | k + 1, x0, x1, x2, x28 => if x28 = true then (some (([] : List Int), 1)) else (if (x0.length : Int) < (wrap64 (Int.tdiv (wrap64 ((wrap64 (x1 * x2)) + 7)) 8)) then (some (([] : List Int), 3)) else (if (x0.length : Int) > (wrap64 (Int.tdiv (wrap64 ((wrap64 (x1 * x2)) + 7)) 8)) then (some (([] : List Int), 2)) else (if (Int.tmod (wrap64 (x1 * x2)) 8) > 0 then (if 0 ≤ (wrap64 ((wrap64 (Int.tdiv (wrap64 ((wrap64 (x1 * x2)) + 7)) 8)) - 1)) then (if (wrap64 ((wrap64 (Int.tdiv (wrap64 ((wrap64 (x1 * x2)) + 7)) 8)) - 1)) < (x0.length : Int) then (if 0 ≤ (Int.tmod (wrap64 (x1 * x2)) 8) then (bits_Unpack.j1 k x0 x1 x2 ((shr .u8 (rd x0 (wrap64 ((wrap64 (Int.tdiv (wrap64 ((wrap64 (x1 * x2)) + 7)) 8)) - 1))) (Int.tmod (wrap64 (x1 * x2)) 8)) != 0)) else (none)) else (none)) else (none)) else (bits_Unpack.j1 k x0 x1 x2 false))))
def bits_Unpack.j1 : Nat → List Int → Int → Int → Bool → Option (List Int × Int)
 | 0, _, _, _, _ => none
 | k + 1, x0, x1, x2, x59 => if x59 = true then (some (([] : List Int), 2)) else (if 0 ≤ x1 then (if (x1 : Int).toNat ≤ 35184372088832 then ((some (List.replicate (x1 : Int).toNat 0 : List Int)).bind fun y319 => (bits_Unpack.l0 k x0 x2 y319 0 (y319.length : Int) 0)) else (none)) else (none))
def bits_Unpack.l0 : Nat → List Int → Int → List Int → Int → Int → Int → Option (List Int × Int)
 | 0, _, _, _, _, _, _ => none
 | k + 1, x0, x2, x10, x11, x63, x64 => if x64 < x63 then (bits_Unpack.l1 k x0 x2 x10 x11 x64 0 x63 x64) else (some (x10, 0))
def bits_Unpack.l1 : Nat → List Int → Int → List Int → Int → Int → Int → Int → Int → Option (List Int × Int)
 | 0, _, _, _, _, _, _, _, _ => none
 | k + 1, x0, x2, x10, x11, x12, x13, x63, x64 => if x13 < x2 then (if 0 ≤ x12 then (if x12 < (x10.length : Int) then (if 0 ≤ (wrap64 (Int.tdiv x11 8)) then (if (wrap64 (Int.tdiv x11 8)) < (x0.length : Int) then (if 0 ≤ (Int.tmod x11 8) then (if 0 ≤ (mn (wrap64 (x2 - x13)) (wrap64 (8 - (Int.tmod x11 8)))) then (if 0 ≤ x13 then (bits_Unpack.l1 k x0 x2 (x10.set (x12 : Int).toNat (Go.bits .or .u64 (rd x10 x12) (shl .u64 (IntKind.u64.wrap (Go.bits .and .u8 (shr .u8 (rd x0 (wrap64 (Int.tdiv x11 8))) (Int.tmod x11 8)) (((shl .u8 1 (mn (wrap64 (x2 - x13)) (wrap64 (8 - (Int.tmod x11 8))))) - 1) % 256))) x13))) (wrap64 (x11 + (mn (wrap64 (x2 - x13)) (wrap64 (8 - (Int.tmod x11 8)))))) x12 (wrap64 (x13 + (mn (wrap64 (x2 - x13)) (wrap64 (8 - (Int.tmod x11 8)))))) x63 x64) else (none)) else (none)) else (none)) else (none)) else (none)) else (none)) else (none)) else (bits_Unpack.l0 k x0 x2 x10 x11 x63 (wrap64 (x64 + 1)))
end
def bits_Unpack.f (k : Nat) (l0 : List Int) (a1 : Int) (a2 : Int) : Option (List Int × Int) := if a2 < 0 then (bits_Unpack.j0 k l0 a1 a2 true) else (if a2 > 64 then (bits_Unpack.j0 k l0 a1 a2 true) else (if a1 < 0 then (bits_Unpack.j0 k l0 a1 a2 true) else (bits_Unpack.j0 k l0 a1 a2 (decide (a1 > 4096)))))
theorem bits_Unpack.mono_l : ∀ k, (∀ y0 y1 y2 y3, LeO (bits_Unpack.j0 k y0 y1 y2 y3) (bits_Unpack.j0 (k + 1) y0 y1 y2 y3)) ∧ (∀ y0 y1 y2 y3, LeO (bits_Unpack.j1 k y0 y1 y2 y3) (bits_Unpack.j1 (k + 1) y0 y1 y2 y3)) ∧ (∀ y0 y1 y2 y3 y4 y5, LeO (bits_Unpack.l0 k y0 y1 y2 y3 y4 y5) (bits_Unpack.l0 (k + 1) y0 y1 y2 y3 y4 y5)) ∧ (∀ y0 y1 y2 y3 y4 y5 y6 y7, LeO (bits_Unpack.l1 k y0 y1 y2 y3 y4 y5 y6 y7) (bits_Unpack.l1 (k + 1) y0 y1 y2 y3 y4 y5 y6 y7))
 | 0 => ⟨fun _ _ _ _ r h => by simp [bits_Unpack.j0] at h, fun _ _ _ _ r h => by simp [bits_Unpack.j1] at h, fun _ _ _ _ _ _ r h => by simp [bits_Unpack.l0] at h, fun _ _ _ _ _ _ _ _ r h => by simp [bits_Unpack.l1] at h⟩
 | k + 1 => by
  obtain ⟨ih0, ih1, ih2, ih3⟩ := bits_Unpack.mono_l k
  refine ⟨?_, ?_, ?_, ?_⟩
  ·intro y0 y1 y2 y3
   unfold bits_Unpack.j0
   repeat' first
   | (with_reducible exact ih0 _ _ _ _)
   | (with_reducible exact ih1 _ _ _ _)
   | (with_reducible exact ih2 _ _ _ _ _ _)
   | (with_reducible exact ih3 _ _ _ _ _ _ _ _)
   | (with_reducible exact LeO.refl _)
   | (with_reducible exact LeO.none _)
   | (with_reducible refine LeO.ite ?_ ?_)
   | (with_reducible refine LeO.bind ?_ (fun _ => ?_))
   | exact ih0 _ _ _ _
   | exact ih1 _ _ _ _
   | exact ih2 _ _ _ _ _ _
   | exact ih3 _ _ _ _ _ _ _ _
   | exact LeO.none _
   | refine LeO.ite ?_ ?_
   | refine LeO.bind ?_ (fun _ => ?_)
  ·intro y0 y1 y2 y3
   unfold bits_Unpack.j1
   repeat' first
   | (with_reducible exact ih0 _ _ _ _)
   | (with_reducible exact ih1 _ _ _ _)
   | (with_reducible exact ih2 _ _ _ _ _ _)
   | (with_reducible exact ih3 _ _ _ _ _ _ _ _)
   | (with_reducible exact LeO.refl _)
   | (with_reducible exact LeO.none _)
   | (with_reducible refine LeO.ite ?_ ?_)
   | (with_reducible refine LeO.bind ?_ (fun _ => ?_))
   | exact ih0 _ _ _ _
   | exact ih1 _ _ _ _
   | exact ih2 _ _ _ _ _ _
   | exact ih3 _ _ _ _ _ _ _ _
   | exact LeO.none _
   | refine LeO.ite ?_ ?_
   | refine LeO.bind ?_ (fun _ => ?_)
  ·intro y0 y1 y2 y3 y4 y5
   unfold bits_Unpack.l0
   repeat' first
   | (with_reducible exact ih0 _ _ _ _)
   | (with_reducible exact ih1 _ _ _ _)
   | (with_reducible exact ih2 _ _ _ _ _ _)
   | (with_reducible exact ih3 _ _ _ _ _ _ _ _)
   | (with_reducible exact LeO.refl _)
   | (with_reducible exact LeO.none _)
   | (with_reducible refine LeO.ite ?_ ?_)
   | (with_reducible refine LeO.bind ?_ (fun _ => ?_))
   | exact ih0 _ _ _ _
   | exact ih1 _ _ _ _
   | exact ih2 _ _ _ _ _ _
   | exact ih3 _ _ _ _ _ _ _ _
   | exact LeO.none _
   | refine LeO.ite ?_ ?_
   | refine LeO.bind ?_ (fun _ => ?_)
  ·intro y0 y1 y2 y3 y4 y5 y6 y7
   unfold bits_Unpack.l1
   repeat' first
   | (with_reducible exact ih0 _ _ _ _)
   | (with_reducible exact ih1 _ _ _ _)
   | (with_reducible exact ih2 _ _ _ _ _ _)
   | (with_reducible exact ih3 _ _ _ _ _ _ _ _)
   | (with_reducible exact LeO.refl _)
   | (with_reducible exact LeO.none _)
   | (with_reducible refine LeO.ite ?_ ?_)
   | (with_reducible refine LeO.bind ?_ (fun _ => ?_))
   | exact ih0 _ _ _ _
   | exact ih1 _ _ _ _
   | exact ih2 _ _ _ _ _ _
   | exact ih3 _ _ _ _ _ _ _ _
   | exact LeO.none _
   | refine LeO.ite ?_ ?_
   | refine LeO.bind ?_ (fun _ => ?_)
theorem bits_Unpack.mono : ∀ a0 a1 a2 k, LeO (bits_Unpack.f k a0 a1 a2) (bits_Unpack.f (k + 1) a0 a1 a2) := by
 intro a0 a1 a2 k
 obtain ⟨ih0, ih1, ih2, ih3⟩ := bits_Unpack.mono_l k
 unfold bits_Unpack.f
 repeat' first
   | (with_reducible exact ih0 _ _ _ _)
   | (with_reducible exact ih1 _ _ _ _)
   | (with_reducible exact ih2 _ _ _ _ _ _)
   | (with_reducible exact ih3 _ _ _ _ _ _ _ _)
   | (with_reducible exact LeO.refl _)
   | (with_reducible exact LeO.none _)
   | (with_reducible refine LeO.ite ?_ ?_)
   | (with_reducible refine LeO.bind ?_ (fun _ => ?_))
   | exact ih0 _ _ _ _
   | exact ih1 _ _ _ _
   | exact ih2 _ _ _ _ _ _
   | exact ih3 _ _ _ _ _ _ _ _
   | exact LeO.none _
   | refine LeO.ite ?_ ?_
   | refine LeO.bind ?_ (fun _ => ?_)
def bits_Unpack.T19 : Bool × List (List Nat × List Nat) := (true, [([], []), ([], []), ([0, 1], [0, 1]), ([2], [2]), ([], []), ([], []), ([5], [5]), ([4, 6], [4, 6]), ([7], [7]), ([], []), ([9], [9]), ([8, 10], [8, 10]), ([], []), ([12], [12]), ([13], [13]), ([11, 14], [11, 14]), ([15], [15]), ([], []), ([16, 17], [16, 17]), ([3, 18], [3, 18]), ([0, 1, 0, 1, 2, 3, 4, 5, 6, 7, 8, 9, 10, 11, 12, 13, 14, 15, 16, 17, 18, 19], [0, 1]), ([20, 19, 0, 1, 2, 3, 4, 5, 6, 7, 8, 9, 10, 11, 12, 13, 14, 15, 16, 17, 18, 19], [19, 20])])
def bits_Unpack.B19 : List Nat := [0, 0, 3, 7, 0, 0, 32, 112, 240, 0, 512, 2032, 0, 4096, 12288, 32752, 65520, 0, 262128, 524287, 1048575, 2097151]
theorem bits_Unpack.tab19 : rtab .any (opsOf Try.f54 19) = bits_Unpack.T19 := by kernel_rfl
theorem bits_Unpack.bits19 : waitsOk bits_Unpack.T19.2 bits_Unpack.B19 = true := by kernel_rfl
set_option maxHeartbeats 8000000 in
set_option maxRecDepth 100000 in
theorem bits_Unpack.calls (k : Nat) (A0 : Option Addr) (c0 : Nat) (l0 : List Int) (a1 : Int) (a2 : Int) (r1 : List Int) (r2 : Int) (w : World) (hr0 : Kd.C (Kd.int .u8) w A0 l0.length l0) (hc0 : l0.length ≤ c0) (h : bits_Unpack.f k l0 a1 a2 = some (r1, r2)) :
  Calls Try.prog 54 #[.slice A0 l0.length c0, .int .i64 a1, .int .i64 a2] w fun e w' => ∃ v0_ : Value, e = .returned (.tuple #[v0_, .int .i64 r2]) ∧ Kd.R (Kd.int .u64) 50 w' w.heap.size (fun _ => True) v0_ r1 ∧ Below w.heap.size w w' := by
 have HR0 := Aside0.mk hr0
 have HC0 := Aside0.mk hc0
 clear hr0 hc0
 have HB := Aside0.mk (Below.refl w.heap.size w)
 have H : (if a2 < 0 then (bits_Unpack.j0 k l0 a1 a2 true) else (if a2 > 64 then (bits_Unpack.j0 k l0 a1 a2 true) else (if a1 < 0 then (bits_Unpack.j0 k l0 a1 a2 true) else (bits_Unpack.j0 k l0 a1 a2 (decide (a1 > 4096)))))) = some (r1, r2) := h
 clear h
 have HC4 := Aside0.mk H
 clear H
 go_enter Try.func54, Try.ntmps54
 go_upto_region 1 with (fail)
 go_cut [28] (fun v28 wc => ∃ (kq : Nat) (x28_3 : Bool), v28 = .bool x28_3 ∧ Aside0 (bits_Unpack.j0 kq l0 a1 a2 x28_3 = some (r1, r2)) ∧ Aside0 (kq ≤ k) ∧ Aside0 (Below w.heap.size w wc))
 case first =>
  have H := HC4.out
  clear HC4
  by_cases c5 : a2 < 0
  ·rw [if_pos c5] at H
   have c5b0 : decide (a2 < 0) = true := decide_eq_true c5
   clear c5
   (first | rw [c5b0] | (simp only [i64_w, i32_w]; rw [c5b0]) | skip)
   have H' := Aside0.mk H
   clear H
   go_wp2
   go_meet
   case rel => exact ⟨_, (true), (by first | rfl | (simp; done) | (simp [*]; done)), H', ⟨by first | omega | exact Nat.le_refl _⟩, ⟨by repeat (first | (with_reducible first | exact HB.out | apply pbA_ | apply pbN_ | apply pb1_) | exact HB.out)⟩⟩
  ·rw [if_neg c5] at H
   have c5b0 : decide (a2 < 0) = false := decide_eq_false c5
   clear c5
   (first | rw [c5b0] | (simp only [i64_w, i32_w]; rw [c5b0]) | skip)
   by_cases c6 : a2 > 64
   ·rw [if_pos c6] at H
    have c6b0 : decide (64 < a2) = true := decide_eq_true c6
    clear c6
    have H' := Aside0.mk H
    clear H
    go_wp2
    go_meet
    case rel => exact ⟨_, (true), (by first | rfl | (simp; done) | (simp [*]; done)), H', ⟨by first | omega | exact Nat.le_refl _⟩, ⟨by repeat (first | (with_reducible first | exact HB.out | apply pbA_ | apply pbN_ | apply pb1_) | exact HB.out)⟩⟩
   ·rw [if_neg c6] at H
    have c6b0 : decide (64 < a2) = false := decide_eq_false c6
    clear c6
    by_cases c7 : a1 < 0
    ·rw [if_pos c7] at H
     have c7b0 : decide (a1 < 0) = true := decide_eq_true c7
     clear c7
     have H' := Aside0.mk H
     clear H
     go_wp2
     go_meet
     case rel => exact ⟨_, (true), (by first | rfl | (simp; done) | (simp [*]; done)), H', ⟨by first | omega | exact Nat.le_refl _⟩, ⟨by repeat (first | (with_reducible first | exact HB.out | apply pbA_ | apply pbN_ | apply pb1_) | exact HB.out)⟩⟩
    ·rw [if_neg c7] at H
     have c7b0 : decide (a1 < 0) = false := decide_eq_false c7
     clear c7
     have H' := Aside0.mk H
     clear H
     go_wp2
     go_meet
     case rel => exact ⟨_, (decide (a1 > 4096)), (by first | rfl | (simp; done) | (simp [*]; done)), H', ⟨by first | omega | exact Nat.le_refl _⟩, ⟨by repeat (first | (with_reducible first | exact HB.out | apply pbA_ | apply pbN_ | apply pb1_) | exact HB.out)⟩⟩
 case rest =>
  clear HC4
  try clear p2
  try clear c5
  try clear c5b0
  try clear c6
  try clear c6b0
  try clear c7
  try clear c7b0
  obtain ⟨kq, x28_3, rfl, HA, HJ3, HB⟩ := hcut
  cases kq with
  | zero => exact absurd HA.out (by simp [bits_Unpack.j0])
  | succ kj3 =>
   have H := HA.out
   clear HA
   simp only [bits_Unpack.j0] at H
   by_cases c8 : x28_3 = true
   ·subst c8
    have H1 : (some (([] : List Int), 1)) = some (r1, r2) := by rw [if_pos rfl] at H; exact H
    clear H
    have H := H1
    clear H1
    simp only [Option.some.injEq, Prod.mk.injEq] at H
    obtain ⟨rfl, rfl⟩ := H
    go_wp2
    go_ret2
    exact ⟨_, by first | rfl | (simp [eWn_, eWs_] <;> rfl) | (simp [*, eWn_, eWs_] <;> rfl), by first | exact Kd.R_nil _ _ _ _ _ | exact Kd.N_nil _ _ _ _ _ | exact Kd.V_nil _ _ _ _ _ | exact Kd.Q_nil _ _ _ _ _ | exact Kd.S_nil _ _ _ _ _, by repeat (first | (with_reducible first | exact HB.out | apply pbA_ | apply pbN_ | apply pb1_) | exact HB.out)⟩
   ·replace c8 := Bool.eq_false_iff.mpr c8
    subst c8
    have H1 : (if (l0.length : Int) < (wrap64 (Int.tdiv (wrap64 ((wrap64 (a1 * a2)) + 7)) 8)) then (some (([] : List Int), 3)) else (if (l0.length : Int) > (wrap64 (Int.tdiv (wrap64 ((wrap64 (a1 * a2)) + 7)) 8)) then (some (([] : List Int), 2)) else (if (Int.tmod (wrap64 (a1 * a2)) 8) > 0 then (if 0 ≤ (wrap64 ((wrap64 (Int.tdiv (wrap64 ((wrap64 (a1 * a2)) + 7)) 8)) - 1)) then (if (wrap64 ((wrap64 (Int.tdiv (wrap64 ((wrap64 (a1 * a2)) + 7)) 8)) - 1)) < (l0.length : Int) then (if 0 ≤ (Int.tmod (wrap64 (a1 * a2)) 8) then (bits_Unpack.j1 kj3 l0 a1 a2 ((shr .u8 (rd l0 (wrap64 ((wrap64 (Int.tdiv (wrap64 ((wrap64 (a1 * a2)) + 7)) 8)) - 1))) (Int.tmod (wrap64 (a1 * a2)) 8)) != 0)) else (none)) else (none)) else (none)) else (bits_Unpack.j1 kj3 l0 a1 a2 false)))) = some (r1, r2) := by rw [if_neg (show ¬ (false = true) by decide)] at H; exact H
    clear H
    have H := H1
    clear H1
    by_cases c9 : (l0.length : Int) < (wrap64 (Int.tdiv (wrap64 ((wrap64 (a1 * a2)) + 7)) 8))
    ·rw [if_pos c9] at H
     have c9b0 : decide ((l0.length : Int) < (wrap64 (Int.tdiv (wrap64 ((wrap64 (a1 * a2)) + 7)) 8))) = true := decide_eq_true c9
     clear c9
     simp only [Option.some.injEq, Prod.mk.injEq] at H
     obtain ⟨rfl, rfl⟩ := H
     go_wp2
     go_ret2
     exact ⟨_, by first | rfl | (simp [eWn_, eWs_] <;> rfl) | (simp [*, eWn_, eWs_] <;> rfl), by first | exact Kd.R_nil _ _ _ _ _ | exact Kd.N_nil _ _ _ _ _ | exact Kd.V_nil _ _ _ _ _ | exact Kd.Q_nil _ _ _ _ _ | exact Kd.S_nil _ _ _ _ _, by repeat (first | (with_reducible first | exact HB.out | apply pbA_ | apply pbN_ | apply pb1_) | exact HB.out)⟩
    ·rw [if_neg c9] at H
     have c9b0 : decide ((l0.length : Int) < (wrap64 (Int.tdiv (wrap64 ((wrap64 (a1 * a2)) + 7)) 8))) = false := decide_eq_false c9
     clear c9
     by_cases c10 : (l0.length : Int) > (wrap64 (Int.tdiv (wrap64 ((wrap64 (a1 * a2)) + 7)) 8))
     ·rw [if_pos c10] at H
      have c10b0 : decide ((wrap64 (Int.tdiv (wrap64 ((wrap64 (a1 * a2)) + 7)) 8)) < (l0.length : Int)) = true := decide_eq_true c10
      clear c10
      simp only [Option.some.injEq, Prod.mk.injEq] at H
      obtain ⟨rfl, rfl⟩ := H
      go_wp2
      go_ret2
      exact ⟨_, by first | rfl | (simp [eWn_, eWs_] <;> rfl) | (simp [*, eWn_, eWs_] <;> rfl), by first | exact Kd.R_nil _ _ _ _ _ | exact Kd.N_nil _ _ _ _ _ | exact Kd.V_nil _ _ _ _ _ | exact Kd.Q_nil _ _ _ _ _ | exact Kd.S_nil _ _ _ _ _, by repeat (first | (with_reducible first | exact HB.out | apply pbA_ | apply pbN_ | apply pb1_) | exact HB.out)⟩
     ·rw [if_neg c10] at H
      have c10b0 : decide ((wrap64 (Int.tdiv (wrap64 ((wrap64 (a1 * a2)) + 7)) 8)) < (l0.length : Int)) = false := decide_eq_false c10
      clear c10
      have HC11 := Aside0.mk H
      clear H
      go_upto_region 9 with (fail)
      go_cut [59] (fun v59 wc => ∃ (kq : Nat) (x59_10 : Bool), v59 = .bool x59_10 ∧ Aside0 (bits_Unpack.j1 kq l0 a1 a2 x59_10 = some (r1, r2)) ∧ Aside0 (kq ≤ kj3) ∧ Aside0 (Below w.heap.size w wc))
      case first =>
       have H := HC11.out
       clear HC11
       by_cases c12 : (Int.tmod (wrap64 (a1 * a2)) 8) > 0
       ·rw [if_pos c12] at H
        have c12b0 : decide (0 < (Int.tmod (wrap64 (a1 * a2)) 8)) = true := decide_eq_true c12
        clear c12
        (first | rw [c12b0] | (simp only [i64_w, i32_w]; rw [c12b0]) | skip)
        obtain ⟨ji13, hji13⟩ : ∃ j_ : Int, (wrap64 ((wrap64 (Int.tdiv (wrap64 ((wrap64 (a1 * a2)) + 7)) 8)) - 1)) = j_ := ⟨_, rfl⟩
        replace H : (if 0 ≤ (ji13) then (if (ji13) < (l0.length : Int) then (if 0 ≤ (Int.tmod (wrap64 (a1 * a2)) 8) then (bits_Unpack.j1 kj3 l0 a1 a2 ((shr .u8 (rd l0 (ji13)) (Int.tmod (wrap64 (a1 * a2)) 8)) != 0)) else (none)) else (none)) else (none)) = some (r1, r2) := by first | (rw [hji13] at H; exact H) | (simp only [hji13] at H ⊢; exact H)
        have hji13w : (IntKind.i64.wrap ((wrap64 (Int.tdiv (wrap64 ((wrap64 (a1 * a2)) + 7)) 8)) - 1)) = ji13 := (i64_w _).trans hji13
        by_cases c14 : 0 ≤ (ji13)
        ·rw [if_pos c14] at H
         have c14b0 : decide (0 ≤ (ji13)) = true := decide_eq_true c14
         clear c14
         by_cases c15 : (ji13) < (l0.length : Int)
         ·rw [if_pos c15] at H
          have c15b0 : decide ((ji13) < (l0.length : Int)) = true := decide_eq_true c15
          clear c15
          obtain ⟨ji16, hji16⟩ : ∃ j_ : Int, (Int.tmod (wrap64 (a1 * a2)) 8) = j_ := ⟨_, rfl⟩
          replace H : (if 0 ≤ (ji16) then (bits_Unpack.j1 kj3 l0 a1 a2 ((shr .u8 (rd l0 (ji13)) (ji16)) != 0)) else (none)) = some (r1, r2) := by first | (rw [hji16] at H; exact H) | (simp only [hji16] at H ⊢; exact H)
          (try rw [hji16] at c12b0)
          by_cases c17 : 0 ≤ (ji16)
          ·rw [if_pos c17] at H
           have c17b0 := eq_true c17
           have c17b1 : decide (0 ≤ (ji16)) = true := decide_eq_true c17
           clear c17
           obtain ⟨ji18, hji18⟩ : ∃ j_ : Int, (shr .u8 (rd l0 (ji13)) (ji16)) = j_ := ⟨_, rfl⟩
           replace H : (bits_Unpack.j1 kj3 l0 a1 a2 ((ji18) != 0)) = some (r1, r2) := by first | (rw [hji18] at H; exact H) | (simp only [hji18] at H ⊢; exact H)
           have hji18_ : ((rd l0 (ji13)) / 2 ^ min (ji16).toNat 8) = ji18 := hji18
           have hji18z : (ji16) ≤ 8 → ((rd l0 (ji13)) / 2 ^ (ji16).toNat) = ji18 := shr_small hji18
           have H' := Aside0.mk H
           clear H
           have p318 : 0 ≤ ((ji13) : Int) := of_decide_eq_true (by first | (with_reducible assumption) | assumption)
           have q318 : (ji13) < (l0.length : Int) := of_decide_eq_true (by first | (with_reducible assumption) | assumption)
           obtain ⟨ad318, e318, hx318_0⟩ := Kd.at_int HR0.out (ji13) p318 q318
           cases e318
           replace hx318_0 := (HB.out.cell (World.block_lt_of_cell? w _ hx318_0)).trans hx318_0
           replace p318 := eq_true p318
           replace q318 := eq_true q318
           go_wp2
           (try subst hji18 hji16 hji13)
           go_meet
           case rel => exact ⟨_, ((((shr .u8 (rd l0 ((wrap64 ((wrap64 (Int.tdiv (wrap64 ((wrap64 (a1 * a2)) + 7)) 8)) - 1)))) ((Int.tmod (wrap64 (a1 * a2)) 8)))) != 0)), (by first | rfl | (simp; done) | (simp only [← hji18] <;> (first | rfl | simp)) | (simp [*]; done)), H', ⟨by have := HJ3.out; first | omega | exact Nat.le_refl _⟩, ⟨by repeat (first | (with_reducible first | exact HB.out | apply pbA_ | apply pbN_ | apply pb1_) | exact HB.out)⟩⟩
          ·rw [if_neg c17] at H
           exact absurd H (by simp)
         ·rw [if_neg c15] at H
          exact absurd H (by simp)
        ·rw [if_neg c14] at H
         exact absurd H (by simp)
       ·rw [if_neg c12] at H
        have c12b0 : decide (0 < (Int.tmod (wrap64 (a1 * a2)) 8)) = false := decide_eq_false c12
        clear c12
        (first | rw [c12b0] | (simp only [i64_w, i32_w]; rw [c12b0]) | skip)
        have H' := Aside0.mk H
        clear H
        go_wp2
        go_meet
        case rel => exact ⟨_, (false), (by first | rfl | (simp; done) | (simp [*]; done)), H', ⟨by have := HJ3.out; first | omega | exact Nat.le_refl _⟩, ⟨by repeat (first | (with_reducible first | exact HB.out | apply pbA_ | apply pbN_ | apply pb1_) | exact HB.out)⟩⟩
      case rest =>
       clear HC11
       try clear c1
       try clear p2
       try clear p3
       try clear q3
       try clear hx3
       try clear c5
       try clear c5b0
       try clear c6
       try clear c6b0
       try clear p6
       try clear c7
       try clear c7b0
       try clear c8
       try clear c9
       try clear c9b0
       try clear c10
       try clear c10b0
       try clear c12
       try clear c12b0
       try clear c14
       try clear c14b0
       try clear c15
       try clear c15b0
       try clear c17
       try clear c17b0
       try clear c17b1
       try clear hx318_0
       try clear p2
       try clear p318
       try clear q318
       obtain ⟨kq, x59_10, rfl, HA, HJ10, HB⟩ := hcut
       cases kq with
       | zero => exact absurd HA.out (by simp [bits_Unpack.j1])
       | succ kj10 =>
        have H := HA.out
        clear HA
        simp only [bits_Unpack.j1] at H
        by_cases c19 : x59_10 = true
        ·subst c19
         have H1 : (some (([] : List Int), 2)) = some (r1, r2) := by rw [if_pos rfl] at H; exact H
         clear H
         have H := H1
         clear H1
         simp only [Option.some.injEq, Prod.mk.injEq] at H
         obtain ⟨rfl, rfl⟩ := H
         go_wp2
         go_ret2
         exact ⟨_, by first | rfl | (simp [eWn_, eWs_] <;> rfl) | (simp [*, eWn_, eWs_] <;> rfl), by first | exact Kd.R_nil _ _ _ _ _ | exact Kd.N_nil _ _ _ _ _ | exact Kd.V_nil _ _ _ _ _ | exact Kd.Q_nil _ _ _ _ _ | exact Kd.S_nil _ _ _ _ _, by repeat (first | (with_reducible first | exact HB.out | apply pbA_ | apply pbN_ | apply pb1_) | exact HB.out)⟩
        ·replace c19 := Bool.eq_false_iff.mpr c19
         subst c19
         have H1 : (if 0 ≤ a1 then (if (a1 : Int).toNat ≤ 35184372088832 then ((some (List.replicate (a1 : Int).toNat 0 : List Int)).bind fun y319 => (bits_Unpack.l0 kj10 l0 a2 y319 0 (y319.length : Int) 0)) else (none)) else (none)) = some (r1, r2) := by rw [if_neg (show ¬ (false = true) by decide)] at H; exact H
         clear H
         have H := H1
         clear H1
         by_cases c20 : 0 ≤ a1
         ·rw [if_pos c20] at H
          have c20b0 := eq_true c20
          have c20b1 : decide (0 ≤ a1) = true := decide_eq_true c20
          clear c20
          by_cases c21 : (a1 : Int).toNat ≤ 35184372088832
          ·rw [if_pos c21] at H
           have c21b0 := eq_true c21
           have c21b1 : decide ((a1 : Int).toNat ≤ 35184372088832) = true := decide_eq_true c21
           clear c21
           obtain ⟨y319, hy319⟩ : ∃ y_ : List Int, y_ = (List.replicate (a1 : Int).toNat 0) := ⟨_, rfl⟩
           replace H : (bits_Unpack.l0 kj10 l0 a2 y319 0 (y319.length : Int) 0) = some (r1, r2) := by first | (rw [hy319]; with_reducible exact H) | (have H2_ := (Option.bind_some _ _).symm.trans H; rw [hy319]; with_reducible exact H2_) | (have H2_ := (Option.bind_some _ _).symm.trans H; with_reducible exact H2_) | with_reducible exact H | (rw [hy319]; exact H) | exact H
           have Ny319 := Aside0.mk hy319
           clear hy319
           have H' := Aside0.mk H
           clear H
           go_wp2_with (first | ((with_reducible refine gate_dst (N := 61) rfl ?_); refine Kd.R_make (Kd.int .u64) _ 50 rfl (N := 61) rfl 23 _ _ rfl a1 rfl rfl Try.underlying23 (.int .u64 0) 8 info50 rfl (by decide) (by omega) 0 (ok := fun _ => True) (okp := fun _ => True) rfl (fun _ hk => hk) trivial (of_decide_eq_true (by first | (with_reducible assumption) | assumption)) (Nat.le_trans (Nat.mul_le_mul_right _ (of_decide_eq_true (by first | (with_reducible assumption) | assumption) : a1.toNat ≤ 35184372088832)) (by omega)) (Below.refl _ _) (Nat.le_refl _) ?_; intro v320 w22 ho23 hb hg_ hnew_; clear hg_ hnew_; (first | rw [← Ny319.out] at ho23 | (simp only [Int.reduceToNat] at ho23; rw [← Ny319.out] at ho23)); have n0_ := Aside0.mk (Kd.R_lower ho23 (pbS_ (by repeat (first | (with_reducible first | exact HB.out | apply pbA_ | apply pbN_ | apply pb1_) | exact HB.out)))); have n1_ := Aside0.mk (below_step (by repeat (first | (with_reducible first | exact HB.out | apply pbA_ | apply pbN_ | apply pb1_) | exact HB.out)) hb); clear HB; have HO321 := n0_; have HB := n1_; clear n0_ n1_; clear hb ho23; obtain ⟨Ao24, co24, eo24⟩ := Kd.R_slice HO321.out; subst eo24))
           go_loopg [11, 64] kj10 (fun kq v11 v64 w' => ∃ (x10_3 : List Int) (x11_3 : Int) (x64_3 : Int), v11 = .int .i64 x11_3 ∧ v64 = .int .i64 x64_3 ∧ Aside0 (bits_Unpack.l0 kq l0 a2 x10_3 x11_3 (y319.length : Int) x64_3 = some (r1, r2)) ∧ Aside0 (kq ≤ kj10) ∧ Aside0 (Kd.R (Kd.int .u64) 50 w' w.heap.size (fun _ => True) (.slice Ao24 y319.length co24) x10_3) ∧ Aside0 (Below w.heap.size w w'))
           case atStart => exact ⟨(y319), (0), (0), (by first | rfl | (simp; done) | (simp [*]; done)), (by first | rfl | (simp; done) | (simp [*]; done)), H', ⟨Nat.le_refl _⟩, ⟨by (with_reducible repeat (first | apply Kd.rA_ | apply Kd.rN_ | apply Kd.rD_)); exact HO321.out⟩, ⟨by repeat (first | (with_reducible first | exact HB.out | apply pbA_ | apply pbN_ | apply pb1_) | exact HB.out)⟩⟩
           case round =>
            clear H'
            try clear c1
            try clear c2
            try clear p2
            try clear p3
            try clear q3
            try clear hx3
            try clear c5
            try clear c5b0
            try clear c6
            try clear c6b0
            try clear p6
            try clear c7
            try clear c7b0
            try clear c8
            try clear c9
            try clear c9b0
            try clear c10
            try clear c10b0
            try clear c12
            try clear c12b0
            try clear c14
            try clear c14b0
            try clear c15
            try clear c15b0
            try clear c17
            try clear c17b0
            try clear c17b1
            try clear c19
            try clear c20
            try clear c20b0
            try clear c20b1
            try clear c21
            try clear c21b0
            try clear c21b1
            try clear hx318_0
            try clear p2
            try clear p3
            try clear p318
            try clear p6
            try clear q3
            try clear q318
            obtain ⟨x10_3, x11_3, x64_3, rfl, rfl, HA, HK3, HO_10, HB⟩ := hrel
            have hl10_3 := (Kd.R_reads' HO_10.out).1
            rw [hl10_3] at HO_10
            (try simp only [hl10_3])
            cases gk with
            | zero => exact absurd HA.out (by simp [bits_Unpack.l0])
            | succ k3 =>
             have H := HA.out
             clear HA
             simp only [bits_Unpack.l0] at H
             by_cases c25 : x64_3 < (y319.length : Int)
             ·rw [if_pos c25] at H
              have c25b0 : decide (x64_3 < (y319.length : Int)) = true := decide_eq_true c25
              (try (have c25b0h := c25b0; simp only [hl10_3] at c25b0h))
              clear c25
              have H' := Aside0.mk H
              clear H
              go_wp2
              go_loopg [11, 13] k3 (fun kq v11 v13 w' => ∃ (x10_4 : List Int) (x11_4 : Int) (x13_4 : Int), v11 = .int .i64 x11_4 ∧ v13 = .int .i64 x13_4 ∧ Aside0 (bits_Unpack.l1 kq l0 a2 x10_4 x11_4 x64_3 x13_4 (y319.length : Int) x64_3 = some (r1, r2)) ∧ Aside0 (kq ≤ k3) ∧ Aside0 (Kd.R (Kd.int .u64) 50 w' w.heap.size (fun _ => True) (.slice Ao24 x10_3.length co24) x10_4) ∧ Aside0 (Below w.heap.size w w'))
              case atStart => exact ⟨(x10_3), (x11_3), (0), (by first | rfl | (simp; done) | (simp [*]; done)), (by first | rfl | (simp; done) | (simp [*]; done)), H', ⟨Nat.le_refl _⟩, ⟨by (try simp only [hl10_3]); (with_reducible repeat (first | apply Kd.rA_ | apply Kd.rN_ | apply Kd.rD_)); exact HO_10.out⟩, ⟨by repeat (first | (with_reducible first | exact HB.out | apply pbA_ | apply pbN_ | apply pb1_) | exact HB.out)⟩⟩
              case round =>
               clear H'
               try clear c1
               try clear c2
               try clear p2
               try clear p3
               try clear q3
               try clear hx3
               try clear c5
               try clear c5b0
               try clear c6
               try clear c6b0
               try clear p6
               try clear c7
               try clear c7b0
               try clear c8
               try clear c9
               try clear c9b0
               try clear c10
               try clear c10b0
               try clear c12
               try clear c12b0
               try clear c14
               try clear c14b0
               try clear c15
               try clear c15b0
               try clear c17
               try clear c17b0
               try clear c17b1
               try clear c19
               try clear c20
               try clear c20b0
               try clear c20b1
               try clear c21
               try clear c21b0
               try clear c21b1
               try clear c25
               try clear c25b0
               try clear hx318_0
               try clear p2
               try clear p3
               try clear p318
               try clear p6
               try clear q3
               try clear q318
               obtain ⟨x10_4, x11_4, x13_4, rfl, rfl, HA, HK4, HO_10, HB⟩ := hrel
               have hl10_4 := (Kd.R_reads' HO_10.out).1
               rw [hl10_4] at HO_10
               (try simp only [hl10_4])
               cases gk with
               | zero => exact absurd HA.out (by simp [bits_Unpack.l1])
               | succ k4 =>
                have H := HA.out
                clear HA
                simp only [bits_Unpack.l1] at H
                by_cases c26 : x13_4 < a2
                ·rw [if_pos c26] at H
                 have c26b0 : decide (x13_4 < a2) = true := decide_eq_true c26
                 clear c26
                 obtain ⟨ji27, hji27⟩ : ∃ j_ : Int, (mn (wrap64 (a2 - x13_4)) (wrap64 (8 - (Int.tmod x11_4 8)))) = j_ := ⟨_, rfl⟩
                 replace H : (if 0 ≤ x64_3 then (if x64_3 < (x10_4.length : Int) then (if 0 ≤ (wrap64 (Int.tdiv x11_4 8)) then (if (wrap64 (Int.tdiv x11_4 8)) < (l0.length : Int) then (if 0 ≤ (Int.tmod x11_4 8) then (if 0 ≤ (ji27) then (if 0 ≤ x13_4 then (bits_Unpack.l1 k4 l0 a2 (x10_4.set (x64_3 : Int).toNat (Go.bits .or .u64 (rd x10_4 x64_3) (shl .u64 (IntKind.u64.wrap (Go.bits .and .u8 (shr .u8 (rd l0 (wrap64 (Int.tdiv x11_4 8))) (Int.tmod x11_4 8)) (((shl .u8 1 (ji27)) - 1) % 256))) x13_4))) (wrap64 (x11_4 + (ji27))) x64_3 (wrap64 (x13_4 + (ji27))) (y319.length : Int) x64_3) else (none)) else (none)) else (none)) else (none)) else (none)) else (none)) else (none)) = some (r1, r2) := by first | (rw [hji27] at H; exact H) | (simp only [hji27] at H ⊢; exact H)
                 have hji27_ : (if (wrap64 (8 - (Int.tmod x11_4 8))) < (wrap64 (a2 - x13_4)) then (wrap64 (8 - (Int.tmod x11_4 8))) else (wrap64 (a2 - x13_4))) = ji27 := hji27
                 by_cases c28 : 0 ≤ x64_3
                 ·rw [if_pos c28] at H
                  have c28b0 : decide (0 ≤ x64_3) = true := decide_eq_true c28
                  clear c28
                  by_cases c29 : x64_3 < (x10_4.length : Int)
                  ·rw [if_pos c29] at H
                   have c29b0 : decide (x64_3 < (x10_4.length : Int)) = true := decide_eq_true c29
                   (try (have c29b0h := c29b0; simp only [hl10_3, hl10_4] at c29b0h))
                   clear c29
                   obtain ⟨ji30, hji30⟩ : ∃ j_ : Int, (wrap64 (Int.tdiv x11_4 8)) = j_ := ⟨_, rfl⟩
                   replace H : (if 0 ≤ (ji30) then (if (ji30) < (l0.length : Int) then (if 0 ≤ (Int.tmod x11_4 8) then (if 0 ≤ (ji27) then (if 0 ≤ x13_4 then (bits_Unpack.l1 k4 l0 a2 (x10_4.set (x64_3 : Int).toNat (Go.bits .or .u64 (rd x10_4 x64_3) (shl .u64 (IntKind.u64.wrap (Go.bits .and .u8 (shr .u8 (rd l0 (ji30)) (Int.tmod x11_4 8)) (((shl .u8 1 (ji27)) - 1) % 256))) x13_4))) (wrap64 (x11_4 + (ji27))) x64_3 (wrap64 (x13_4 + (ji27))) (y319.length : Int) x64_3) else (none)) else (none)) else (none)) else (none)) else (none)) = some (r1, r2) := by first | (rw [hji30] at H; exact H) | (simp only [hji30] at H ⊢; exact H)
                   have hji30w : (IntKind.i64.wrap (Int.tdiv x11_4 8)) = ji30 := (i64_w _).trans hji30
                   by_cases c31 : 0 ≤ (ji30)
                   ·rw [if_pos c31] at H
                    have c31b0 : decide (0 ≤ (ji30)) = true := decide_eq_true c31
                    clear c31
                    by_cases c32 : (ji30) < (l0.length : Int)
                    ·rw [if_pos c32] at H
                     have c32b0 : decide ((ji30) < (l0.length : Int)) = true := decide_eq_true c32
                     (try (have c32b0h := c32b0; simp only [hl10_3, hl10_4] at c32b0h))
                     clear c32
                     obtain ⟨ji33, hji33⟩ : ∃ j_ : Int, (Int.tmod x11_4 8) = j_ := ⟨_, rfl⟩
                     replace H : (if 0 ≤ (ji33) then (if 0 ≤ (ji27) then (if 0 ≤ x13_4 then (bits_Unpack.l1 k4 l0 a2 (x10_4.set (x64_3 : Int).toNat (Go.bits .or .u64 (rd x10_4 x64_3) (shl .u64 (IntKind.u64.wrap (Go.bits .and .u8 (shr .u8 (rd l0 (ji30)) (ji33)) (((shl .u8 1 (ji27)) - 1) % 256))) x13_4))) (wrap64 (x11_4 + (ji27))) x64_3 (wrap64 (x13_4 + (ji27))) (y319.length : Int) x64_3) else (none)) else (none)) else (none)) = some (r1, r2) := by first | (rw [hji33] at H; exact H) | (simp only [hji33] at H ⊢; exact H)
                     (try (have hji27_ji33 := hji27; rw [hji33] at hji27_ji33))
                     (try (have hji27__ji33 := hji27_; rw [hji33] at hji27__ji33))
                     (try (have hji27z_ji33 := hji27z; rw [hji33] at hji27z_ji33))
                     (try (have hji27w_ji33 := hji27w; rw [hji33] at hji27w_ji33))
                     (try (have hji27u_ji33 := hji27u; rw [hji33] at hji27u_ji33))
                     (try (have hji27v_ji33 := hji27v; rw [hji33] at hji27v_ji33))
                     by_cases c34 : 0 ≤ (ji33)
                     ·rw [if_pos c34] at H
                      have c34b0 := eq_true c34
                      have c34b1 : decide (0 ≤ (ji33)) = true := decide_eq_true c34
                      clear c34
                      obtain ⟨ji35, hji35⟩ : ∃ j_ : Int, (shr .u8 (rd l0 (ji30)) (ji33)) = j_ := ⟨_, rfl⟩
                      replace H : (if 0 ≤ (ji27) then (if 0 ≤ x13_4 then (bits_Unpack.l1 k4 l0 a2 (x10_4.set (x64_3 : Int).toNat (Go.bits .or .u64 (rd x10_4 x64_3) (shl .u64 (IntKind.u64.wrap (Go.bits .and .u8 (ji35) (((shl .u8 1 (ji27)) - 1) % 256))) x13_4))) (wrap64 (x11_4 + (ji27))) x64_3 (wrap64 (x13_4 + (ji27))) (y319.length : Int) x64_3) else (none)) else (none)) = some (r1, r2) := by first | (rw [hji35] at H; exact H) | (simp only [hji35] at H ⊢; exact H)
                      have hji35_ : ((rd l0 (ji30)) / 2 ^ min (ji33).toNat 8) = ji35 := hji35
                      have hji35z : (ji33) ≤ 8 → ((rd l0 (ji30)) / 2 ^ (ji33).toNat) = ji35 := shr_small hji35
                      by_cases c36 : 0 ≤ (ji27)
                      ·rw [if_pos c36] at H
                       have c36b0 := eq_true c36
                       have c36b1 : decide (0 ≤ (ji27)) = true := decide_eq_true c36
                       clear c36
                       obtain ⟨ji37, hji37⟩ : ∃ j_ : Int, (shl .u8 1 (ji27)) = j_ := ⟨_, rfl⟩
                       replace H : (if 0 ≤ x13_4 then (bits_Unpack.l1 k4 l0 a2 (x10_4.set (x64_3 : Int).toNat (Go.bits .or .u64 (rd x10_4 x64_3) (shl .u64 (IntKind.u64.wrap (Go.bits .and .u8 (ji35) (((ji37) - 1) % 256))) x13_4))) (wrap64 (x11_4 + (ji27))) x64_3 (wrap64 (x13_4 + (ji27))) (y319.length : Int) x64_3) else (none)) = some (r1, r2) := by first | (rw [hji37] at H; exact H) | (simp only [hji37] at H ⊢; exact H)
                       have hji37_ : (IntKind.u8.wrap (1 * 2 ^ min (ji27).toNat 8)) = ji37 := hji37
                       have hji37z : (ji27) ≤ 8 → (IntKind.u8.wrap (1 * 2 ^ (ji27).toNat)) = ji37 := shl_small hji37
                       have hji37u : (IntKind.u8.wrap (2 ^ min (ji27).toNat 8)) = ji37 := by have h_ := hji37_; rw [Int.one_mul] at h_; exact h_
                       have hji37v : (ji27) ≤ 8 → (IntKind.u8.wrap (2 ^ (ji27).toNat)) = ji37 := fun hle_ => by have h_ := hji37z hle_; rw [Int.one_mul] at h_; exact h_
                       by_cases c38 : 0 ≤ x13_4
                       ·rw [if_pos c38] at H
                        have c38b0 := eq_true c38
                        have c38b1 : decide (0 ≤ x13_4) = true := decide_eq_true c38
                        clear c38
                        obtain ⟨ji39, hji39⟩ : ∃ j_ : Int, (shl .u64 (IntKind.u64.wrap (Go.bits .and .u8 (ji35) (((ji37) - 1) % 256))) x13_4) = j_ := ⟨_, rfl⟩
                        replace H : (bits_Unpack.l1 k4 l0 a2 (x10_4.set (x64_3 : Int).toNat (Go.bits .or .u64 (rd x10_4 x64_3) (ji39))) (wrap64 (x11_4 + (ji27))) x64_3 (wrap64 (x13_4 + (ji27))) (y319.length : Int) x64_3) = some (r1, r2) := by first | (rw [hji39] at H; exact H) | (simp only [hji39] at H ⊢; exact H)
                        have hji39_ : (IntKind.u64.wrap ((IntKind.u64.wrap (Go.bits .and .u8 (ji35) (((ji37) - 1) % 256))) * 2 ^ min x13_4.toNat 64)) = ji39 := hji39
                        have hji39z : x13_4 ≤ 64 → (IntKind.u64.wrap ((IntKind.u64.wrap (Go.bits .and .u8 (ji35) (((ji37) - 1) % 256))) * 2 ^ x13_4.toNat)) = ji39 := shl_small hji39
                        obtain ⟨y324, hy324⟩ : ∃ y_ : List Int, y_ = (x10_4.set (x64_3 : Int).toNat (Go.bits .or .u64 (rd x10_4 x64_3) (ji39))) := ⟨_, rfl⟩
                        replace H : (bits_Unpack.l1 k4 l0 a2 y324 (wrap64 (x11_4 + (ji27))) x64_3 (wrap64 (x13_4 + (ji27))) (y319.length : Int) x64_3) = some (r1, r2) := by first | (rw [hy324]; with_reducible exact H) | (have H2_ := (Option.bind_some _ _).symm.trans H; rw [hy324]; with_reducible exact H2_) | (have H2_ := (Option.bind_some _ _).symm.trans H; with_reducible exact H2_) | with_reducible exact H | (rw [hy324]; exact H) | exact H
                        have Ny324 := Aside0.mk hy324
                        clear hy324
                        have H' := Aside0.mk H
                        clear H
                        try go_wp2
                        (try (rw [drewN_self wr]; generalize hq_ : World.drewN wr _ = wr; have n0_ : Aside0 (Kd.R (Kd.int .u64) 50 wr w.heap.size (fun _ => True) (.slice Ao24 x10_4.length co24) x10_4) := ⟨by rw [← hq_]; exact (by (with_reducible repeat (first | apply Kd.rA_ | apply Kd.rN_ | apply Kd.rD_)); exact HO_10.out)⟩; have n1_ : Aside0 (Below w.heap.size w wr) := ⟨by rw [← hq_]; exact (by repeat (first | (with_reducible first | exact HB.out | apply pbA_ | apply pbN_ | apply pb1_) | exact HB.out))⟩; clear HO_10 HB hq_; have HO_10 := n0_; have HB := n1_; clear n0_ n1_))
                        have n0_ := Aside0.mk (Kd.rD_ HO_10.out)
                        have n1_ := Aside0.mk (pb1_ HB.out)
                        clear HO_10
                        clear HB
                        have HO_10 := n0_
                        have HB := n1_
                        clear n0_ n1_
                        have p322 : 0 ≤ (x64_3 : Int) := of_decide_eq_true (by first | (with_reducible assumption) | assumption)
                        have q322 : x64_3 < (x10_4.length : Int) := of_decide_eq_true (by first | (with_reducible assumption) | assumption)
                        obtain ⟨ad322, e322, hx322_0⟩ := Kd.at_int (Kd.R_reads' HO_10.out).2.2 x64_3 p322 q322
                        cases e322
                        replace p322 := eq_true p322
                        replace q322 := eq_true q322
                        have p323 : 0 ≤ ((ji30) : Int) := of_decide_eq_true (by first | (with_reducible assumption) | assumption)
                        have q323 : (ji30) < (l0.length : Int) := of_decide_eq_true (by first | (with_reducible assumption) | assumption)
                        obtain ⟨ad323, e323, hx323_0⟩ := Kd.at_int HR0.out (ji30) p323 q323
                        have hw323_0 := hx323_0
                        cases e323
                        replace hx323_0 := (HB.out.cell (World.block_lt_of_cell? w _ hx323_0)).trans hx323_0
                        replace p323 := eq_true p323
                        replace q323 := eq_true q323
                        have p40 : 0 ≤ (x64_3 : Int) := of_decide_eq_true (by first | (with_reducible assumption) | assumption)
                        have q40 : (x64_3 : Int) < ((x10_4.length : Int) : Int) := of_decide_eq_true (by first | (with_reducible assumption) | assumption)
                        obtain ⟨go40, co40, eo40, gb40, gl40, cl40, HG40⟩ := Kd.R_form HO_10.out (by omega)
                        (first | cases eo40 | (injection eo40 with ea_ en_ ec_; (first | subst ea_ | (injection ea_ with ea_; subst ea_)); subst ec_; clear en_))
                        have GB40 := Aside0.mk gb40
                        have GG40 := Aside0.mk HG40
                        clear gb40 gl40 HG40
                        (first | simp only [add_plain] at hx322_0 | skip)
                        obtain ⟨hx40_0, hf40_0⟩ := Kd.R_celln 0 HO_10.out (x64_3 : Int) p40 q40
                        replace p40 := eq_true p40
                        replace q40 := eq_true q40
                        have HP42 := Kd.R_putn HO_10.out (x64_3 : Int) (Go.bits .or .u64 (rd x10_4 x64_3) (ji39))
                        rw [← Ny324.out] at HP42
                        have HQ42 := Aside0.mk HP42
                        clear HP42
                        refine start_ (n := 22) (S := fun w' => w'.cell? ⟨go40, (x64_3).toNat, none⟩ = some (.int .u64 (rd x10_4 x64_3)) ∧ w'.cell? (ad323.add ((ji30)).toNat) = some (.int .u8 (rd l0 (ji30)))) (ds := [21]) #[false, false, false, false, false, false, false, false, false, false, false, false, false, false, false, false, false, false, false, false, false, false] (by kernel_rfl) rfl rfl ⟨hx322_0, ((HB.out.cell (World.block_lt_of_cell? w _ hw323_0)).trans hw323_0)⟩ (fun hHeld => ?_); refine with_tabW bits_Unpack.tab19 bits_Unpack.bits19 (fun HT_ HW_ => ?_)
                        generalize wr.drew = w41 at HO_10 HB GG40 HQ42 hf40_0 hx322_0 hx323_0 hx40_0 hHeld ⊢
                        refine pure_ (i := 0) (N := some 77) (v := ?_) (a' := ?_) #[tT,fF,fF,fF,fF,fF,fF,fF,fF,fF,fF,fF,fF,fF,fF,fF,fF,fF,fF,fF,fF,fF] rfl rfl (any_of HT_.out (by kernel_rfl)) (fun _ _ _ h => h) (Or.inl ⟨by rfl, ?_⟩) ?_ ?_
                        rotate_left
                        ·intro w'
                         go_simp
                         with_reducible rfl
                        rotate_left
                        ·simp only [Act.put, List.setIfInBounds_toArray, List.set_cons_zero, List.set_cons_succ, i64_w, i32_w]
                         rfl
                        refine pure_ (i := 1) (N := some 78) (v := ?_) (a' := ?_) #[tT,tT,fF,fF,fF,fF,fF,fF,fF,fF,fF,fF,fF,fF,fF,fF,fF,fF,fF,fF,fF,fF] rfl rfl (any_of HT_.out (by kernel_rfl)) (fun _ _ _ h => h) (Or.inl ⟨by rfl, ?_⟩) ?_ ?_
                        rotate_left
                        ·intro w'
                         go_simp
                         with_reducible rfl
                        rotate_left
                        ·simp only [Act.put, List.setIfInBounds_toArray, List.set_cons_zero, List.set_cons_succ, i64_w, i32_w]
                         rfl
                        refine pure_ (i := 2) (N := some 79) (v := ?_) (a' := ?_) #[tT,tT,tT,fF,fF,fF,fF,fF,fF,fF,fF,fF,fF,fF,fF,fF,fF,fF,fF,fF,fF,fF] rfl rfl (any_of HT_.out (by kernel_rfl)) (fun _ _ _ h => h) (Or.inl ⟨by rfl, ?_⟩) ?_ ?_
                        rotate_left
                        ·intro w'
                         go_simp
                         with_reducible rfl
                        rotate_left
                        ·simp only [Act.put, List.setIfInBounds_toArray, List.set_cons_zero, List.set_cons_succ, i64_w, i32_w]
                         rfl
                        refine pure_ (i := 4) (N := some 81) (v := ?_) (a' := ?_) #[tT,tT,tT,fF,tT,fF,fF,fF,fF,fF,fF,fF,fF,fF,fF,fF,fF,fF,fF,fF,fF,fF] rfl rfl (any_of HT_.out (by kernel_rfl)) (fun _ _ _ h => h) (Or.inl ⟨by rfl, ?_⟩) ?_ ?_
                        rotate_left
                        ·intro w'
                         go_simp
                         with_reducible rfl
                        rotate_left
                        ·simp only [Act.put, List.setIfInBounds_toArray, List.set_cons_zero, List.set_cons_succ, i64_w, i32_w]
                         rfl
                        refine pure_ (i := 5) (N := some 82) (v := ?_) (a' := ?_) #[tT,tT,tT,fF,tT,tT,fF,fF,fF,fF,fF,fF,fF,fF,fF,fF,fF,fF,fF,fF,fF,fF] rfl rfl (any_of HT_.out (by kernel_rfl)) (fun _ _ _ h => h) (Or.inl ⟨by rfl, ?_⟩) ?_ ?_
                        rotate_left
                        ·intro w'
                         go_simp
                         with_reducible rfl
                        rotate_left
                        ·simp only [Act.put, List.setIfInBounds_toArray, List.set_cons_zero, List.set_cons_succ, i64_w, i32_w]
                         rfl
                        refine pure_ (i := 6) (N := some 83) (v := ?_) (a' := ?_) #[tT,tT,tT,fF,tT,tT,tT,fF,fF,fF,fF,fF,fF,fF,fF,fF,fF,fF,fF,fF,fF,fF] rfl rfl (any_of HT_.out (by kernel_rfl)) (fun _ _ _ h => h) (Or.inl ⟨by rfl, ?_⟩) ?_ ?_
                        rotate_left
                        ·intro w'
                         go_simp
                         with_reducible rfl
                        rotate_left
                        ·simp only [Act.put, List.setIfInBounds_toArray, List.set_cons_zero, List.set_cons_succ, i64_w, i32_w]
                         rfl
                        refine pure_ (i := 7) (N := some 84) (v := ?_) (a' := ?_) #[tT,tT,tT,fF,tT,tT,tT,tT,fF,fF,fF,fF,fF,fF,fF,fF,fF,fF,fF,fF,fF,fF] rfl rfl (any_of HT_.out (by kernel_rfl)) (fun _ _ _ h => h) (Or.inl ⟨by rfl, ?_⟩) ?_ ?_
                        rotate_left
                        ·intro w'
                         go_simp
                         with_reducible rfl
                        rotate_left
                        ·simp only [Act.put, List.setIfInBounds_toArray, List.set_cons_zero, List.set_cons_succ, i64_w, i32_w]
                         rfl
                        refine pure_ (i := 9) (N := some 86) (v := ?_) (a' := ?_) #[tT,tT,tT,fF,tT,tT,tT,tT,fF,tT,fF,fF,fF,fF,fF,fF,fF,fF,fF,fF,fF,fF] rfl rfl (any_of HT_.out (by kernel_rfl)) (fun _ _ _ h => h) (Or.inl ⟨by rfl, ?_⟩) ?_ ?_
                        rotate_left
                        ·intro w'
                         go_simp
                         with_reducible rfl
                        rotate_left
                        ·simp only [Act.put, List.setIfInBounds_toArray, List.set_cons_zero, List.set_cons_succ, i64_w, i32_w]
                         rfl
                        refine pure_ (i := 10) (N := some 87) (v := ?_) (a' := ?_) #[tT,tT,tT,fF,tT,tT,tT,tT,fF,tT,tT,fF,fF,fF,fF,fF,fF,fF,fF,fF,fF,fF] rfl rfl (any_of HT_.out (by kernel_rfl)) (fun _ _ _ h => h) (Or.inl ⟨by rfl, ?_⟩) ?_ ?_
                        rotate_left
                        ·intro w'
                         go_simp
                         with_reducible rfl
                        rotate_left
                        ·simp only [Act.put, List.setIfInBounds_toArray, List.set_cons_zero, List.set_cons_succ, i64_w, i32_w]
                         rfl
                        refine pure_ (i := 12) (N := some 89) (v := ?_) (a' := ?_) #[tT,tT,tT,fF,tT,tT,tT,tT,fF,tT,tT,fF,tT,fF,fF,fF,fF,fF,fF,fF,fF,fF] rfl rfl (any_of HT_.out (by kernel_rfl)) (fun _ _ _ h => h) (Or.inl ⟨by rfl, ?_⟩) ?_ ?_
                        rotate_left
                        ·intro w'
                         go_simp
                         with_reducible rfl
                        rotate_left
                        ·simp only [Act.put, List.setIfInBounds_toArray, List.set_cons_zero, List.set_cons_succ, i64_w, i32_w]
                         rfl
                        refine pure_ (i := 13) (N := some 90) (v := ?_) (a' := ?_) #[tT,tT,tT,fF,tT,tT,tT,tT,fF,tT,tT,fF,tT,tT,fF,fF,fF,fF,fF,fF,fF,fF] rfl rfl (any_of HT_.out (by kernel_rfl)) (fun _ _ _ h => h) (Or.inl ⟨by rfl, ?_⟩) ?_ ?_
                        rotate_left
                        ·intro w'
                         go_simp
                         with_reducible rfl
                        rotate_left
                        ·simp only [Act.put, List.setIfInBounds_toArray, List.set_cons_zero, List.set_cons_succ, i64_w, i32_w]
                         rfl
                        refine pure_ (i := 14) (N := some 91) (v := ?_) (a' := ?_) #[tT,tT,tT,fF,tT,tT,tT,tT,fF,tT,tT,fF,tT,tT,tT,fF,fF,fF,fF,fF,fF,fF] rfl rfl (any_of HT_.out (by kernel_rfl)) (fun _ _ _ h => h) (Or.inl ⟨by rfl, ?_⟩) ?_ ?_
                        rotate_left
                        ·intro w'
                         go_simp
                         with_reducible rfl
                        rotate_left
                        ·simp only [Act.put, List.setIfInBounds_toArray, List.set_cons_zero, List.set_cons_succ, i64_w, i32_w]
                         rfl
                        refine pure_ (i := 17) (N := some 94) (v := ?_) (a' := ?_) #[tT,tT,tT,fF,tT,tT,tT,tT,fF,tT,tT,fF,tT,tT,tT,fF,fF,tT,fF,fF,fF,fF] rfl rfl (any_of HT_.out (by kernel_rfl)) (fun _ _ _ h => h) (Or.inl ⟨by rfl, ?_⟩) ?_ ?_
                        rotate_left
                        ·intro w'
                         go_simp
                         with_reducible rfl
                        rotate_left
                        ·simp only [Act.put, List.setIfInBounds_toArray, List.set_cons_zero, List.set_cons_succ, i64_w, i32_w]
                         rfl
                        refine take_ (i := 3) (N := some 80) (v := ?_) (a' := ?_) #[tT,tT,tT,tT,tT,tT,tT,tT,fF,tT,tT,fF,tT,tT,tT,fF,fF,tT,fF,fF,fF,fF] rfl rfl (take_ofW HT_.out HW_.out (by kernel_rfl)) (fun _ _ _ h => h) (Or.inl ⟨by rfl, ?_⟩) hHeld ?_ ?_
                        rotate_left
                        ·rintro w' ⟨s0, s1⟩
                         go_simp
                         with_reducible rfl
                        rotate_left
                        ·simp only [Act.put, List.setIfInBounds_toArray, List.set_cons_zero, List.set_cons_succ, i64_w, i32_w]
                         rfl
                        refine take_ (i := 8) (N := some 85) (v := ?_) (a' := ?_) #[tT,tT,tT,tT,tT,tT,tT,tT,tT,tT,tT,fF,tT,tT,tT,fF,fF,tT,fF,fF,fF,fF] rfl rfl (take_ofW HT_.out HW_.out (by kernel_rfl)) (fun _ _ _ h => h) (Or.inl ⟨by rfl, ?_⟩) hHeld ?_ ?_
                        rotate_left
                        ·rintro w' ⟨s0, s1⟩
                         go_simp
                         with_reducible rfl
                        rotate_left
                        ·simp only [Act.put, List.setIfInBounds_toArray, List.set_cons_zero, List.set_cons_succ, i64_w, i32_w]
                         rfl
                        refine pure_ (i := 11) (N := some 88) (v := ?_) (a' := ?_) #[tT,tT,tT,tT,tT,tT,tT,tT,tT,tT,tT,tT,tT,tT,tT,fF,fF,tT,fF,fF,fF,fF] rfl rfl (any_of HT_.out (by kernel_rfl)) (fun _ _ _ h => h) (Or.inl ⟨by rfl, ?_⟩) ?_ ?_
                        rotate_left
                        ·intro w'
                         go_simp
                         with_reducible rfl
                        rotate_left
                        ·simp only [Act.put, List.setIfInBounds_toArray, List.set_cons_zero, List.set_cons_succ, i64_w, i32_w]
                         rfl
                        refine pure_ (i := 15) (N := some 92) (v := ?_) (a' := ?_) #[tT,tT,tT,tT,tT,tT,tT,tT,tT,tT,tT,tT,tT,tT,tT,tT,fF,tT,fF,fF,fF,fF] rfl rfl (any_of HT_.out (by kernel_rfl)) (fun _ _ _ h => h) (Or.inl ⟨by rfl, ?_⟩) ?_ ?_
                        rotate_left
                        ·intro w'
                         go_simp
                         with_reducible rfl
                        rotate_left
                        ·simp only [Act.put, List.setIfInBounds_toArray, List.set_cons_zero, List.set_cons_succ, i64_w, i32_w]
                         rfl
                        refine pure_ (i := 16) (N := some 93) (v := ?_) (a' := ?_) #[tT,tT,tT,tT,tT,tT,tT,tT,tT,tT,tT,tT,tT,tT,tT,tT,tT,tT,fF,fF,fF,fF] rfl rfl (any_of HT_.out (by kernel_rfl)) (fun _ _ _ h => h) (Or.inl ⟨by rfl, ?_⟩) ?_ ?_
                        rotate_left
                        ·intro w'
                         go_simp
                         with_reducible rfl
                        rotate_left
                        ·simp only [Act.put, List.setIfInBounds_toArray, List.set_cons_zero, List.set_cons_succ, i64_w, i32_w]
                         rfl
                        refine pure_ (i := 18) (N := some 95) (v := ?_) (a' := ?_) #[tT,tT,tT,tT,tT,tT,tT,tT,tT,tT,tT,tT,tT,tT,tT,tT,tT,tT,tT,fF,fF,fF] rfl rfl (any_of HT_.out (by kernel_rfl)) (fun _ _ _ h => h) (Or.inl ⟨by rfl, ?_⟩) ?_ ?_
                        rotate_left
                        ·intro w'
                         go_simp
                         with_reducible rfl
                        rotate_left
                        ·simp only [Act.put, List.setIfInBounds_toArray, List.set_cons_zero, List.set_cons_succ, i64_w, i32_w]
                         rfl
                        refine pure_ (i := 19) (N := some 96) (v := ?_) (a' := ?_) #[tT,tT,tT,tT,tT,tT,tT,tT,tT,tT,tT,tT,tT,tT,tT,tT,tT,tT,tT,tT,fF,fF] rfl rfl (any_of HT_.out (by kernel_rfl)) (fun _ _ _ h => h) (Or.inl ⟨by rfl, ?_⟩) ?_ ?_
                        rotate_left
                        ·intro w'
                         go_simp
                         with_reducible rfl
                        rotate_left
                        ·simp only [Act.put, List.setIfInBounds_toArray, List.set_cons_zero, List.set_cons_succ, i64_w, i32_w]
                         rfl
                        refine pure_ (i := 20) (N := some 97) (v := ?_) (a' := ?_) #[tT,tT,tT,tT,tT,tT,tT,tT,tT,tT,tT,tT,tT,tT,tT,tT,tT,tT,tT,tT,tT,fF] rfl rfl (any_of HT_.out (by kernel_rfl)) (fun _ _ _ h => h) (Or.inl ⟨by rfl, ?_⟩) ?_ ?_
                        rotate_left
                        ·intro w'
                         go_simp
                         with_reducible rfl
                        rotate_left
                        ·simp only [Act.put, List.setIfInBounds_toArray, List.set_cons_zero, List.set_cons_succ, i64_w, i32_w]
                         rfl
                        refine last_ (i := 21) (N := none) #[tT,tT,tT,tT,tT,tT,tT,tT,tT,tT,tT,tT,tT,tT,tT,tT,tT,tT,tT,tT,tT,tT] rfl rfl (one_of HT_.out (by kernel_rfl)) (by decide) (fun K hK => ?_)
                        refine skip_ (w1 := ?_) (by rfl) rfl ?_ ?_
                        rotate_left
                        ·go_simp
                         rfl
                        refine hK.out _ _ ?_
                        clear hK K
                        refine done_ (done_of HT_.out (by kernel_rfl)) ?_
                        try go_wp2
                        (try simp only [← hl10_4])
                        (try subst hji39 hji37 hji35 hji33 hji30 hji27)
                        go_roundg k4
                        case measure => have := HJ3.out; have := HJ10.out; have := HK3.out; have := HK4.out; omega
                        case rel => exact ⟨(y324), (wrap64 (x11_4 + ((mn (wrap64 (a2 - x13_4)) (wrap64 (8 - (Int.tmod x11_4 8))))))), (wrap64 (x13_4 + ((mn (wrap64 (a2 - x13_4)) (wrap64 (8 - (Int.tmod x11_4 8))))))), (by first | rfl | (simp; done) | (simp only [← hji27] <;> (first | rfl | simp)) | (simp [*]; done)), (by first | rfl | (simp; done) | (simp only [← hji27] <;> (first | rfl | simp)) | (simp [*]; done)), H', ⟨by have := HJ3.out; have := HJ10.out; have := HK3.out; have := HK4.out; omega⟩, ⟨by (try simp only [hl10_3]); (try simp only [hl10_4]); (with_reducible repeat (first | apply Kd.rA_ | apply Kd.rN_ | apply Kd.rD_)); exact HQ42.out⟩, ⟨by repeat (first | (with_reducible first | exact HB.out | apply pbA_ | apply pbN_ | apply pb1_ | refine below_set ?_ GB40.out) | exact HB.out)⟩⟩
                       ·rw [if_neg c38] at H
                        exact absurd H (by simp)
                      ·rw [if_neg c36] at H
                       exact absurd H (by simp)
                     ·rw [if_neg c34] at H
                      exact absurd H (by simp)
                    ·rw [if_neg c32] at H
                     exact absurd H (by simp)
                   ·rw [if_neg c31] at H
                    exact absurd H (by simp)
                  ·rw [if_neg c29] at H
                   exact absurd H (by simp)
                 ·rw [if_neg c28] at H
                  exact absurd H (by simp)
                ·rw [if_neg c26] at H
                 have c26b0 : decide (x13_4 < a2) = false := decide_eq_false c26
                 clear c26
                 have H' := Aside0.mk H
                 clear H
                 go_wp2
                 (try simp only [← hl10_3, ← hl10_4])
                 go_roundg k4
                 case measure => have := HJ3.out; have := HJ10.out; have := HK3.out; have := HK4.out; omega
                 case rel => exact ⟨(x10_4), (x11_4), (wrap64 (x64_3 + 1)), (by first | rfl | (simp; done) | (simp [*]; done)), (by first | rfl | (simp; done) | (simp [*]; done)), H', ⟨by have := HJ3.out; have := HJ10.out; have := HK3.out; have := HK4.out; omega⟩, ⟨by (try simp only [hl10_3]); (try simp only [hl10_4]); (with_reducible repeat (first | apply Kd.rA_ | apply Kd.rN_ | apply Kd.rD_)); exact HO_10.out⟩, ⟨by repeat (first | (with_reducible first | exact HB.out | apply pbA_ | apply pbN_ | apply pb1_) | exact HB.out)⟩⟩
             ·rw [if_neg c25] at H
              have c25b0 : decide (x64_3 < (y319.length : Int)) = false := decide_eq_false c25
              (try (have c25b0h := c25b0; simp only [hl10_3] at c25b0h))
              clear c25
              simp only [Option.some.injEq, Prod.mk.injEq] at H
              obtain ⟨rfl, rfl⟩ := H
              go_wp2
              go_ret2
              exact ⟨_, by first | rfl | (simp [eWn_, eWs_] <;> rfl) | (simp [*, eWn_, eWs_] <;> rfl), by (with_reducible repeat (first | apply Kd.rA_ | apply Kd.rN_ | apply Kd.rD_)); exact HO_10.out, by repeat (first | (with_reducible first | exact HB.out | apply pbA_ | apply pbN_ | apply pb1_) | exact HB.out)⟩
          ·rw [if_neg c21] at H
           exact absurd H (by simp)
         ·rw [if_neg c20] at H
          exact absurd H (by simp)
end Go.Proofs.Ytkcjjennlhgmhaa.P
end
section
namespace Go.Proofs.Ytkcjjennlhgmhaa.P
open Go.RowKit Go.Proofs.YtkcjjennlhgmhaaW.PrintWords Go.Proofs.YtkcjjennlhgmhaaW.PrintLast Go.Proofs.YtkcjjennlhgmhaaW.PrintMore
attribute [local go_sem] max2_int min2_int max_two min_two max_three min_three max_four min_four
set_option linter.unusedVariables false
set_option linter.unusedSimpArgs false
mutual
def pfor_read.j0 : Nat → List Int → Bool → Option (List Int × Int × Bool)
 | 0, _, _ => none
 | k + 1, x0, x33 => if x33 = true then (some (([] : List Int), 0, false)) else (if 0 < (x0.length : Int) then (if 1 ≤ (x0.length : Int) then ((num_Take.f k (x0.drop 1)).bind fun bt329 => (if bt329.2.2 = 0 then (if (x0.length : Int) < (wrap64 ((wrap64 (1 + bt329.2.1)) + 2)) then (pfor_read.j1 k x0 (wrap64 (rd x0 0)) bt329.1 (wrap64 (1 + bt329.2.1)) true) else (if 0 ≤ (wrap64 (1 + bt329.2.1)) then (if (wrap64 (1 + bt329.2.1)) < (x0.length : Int) then (if (rd x0 (wrap64 (1 + bt329.2.1))) > 64 then (pfor_read.j1 k x0 (wrap64 (rd x0 0)) bt329.1 (wrap64 (1 + bt329.2.1)) true) else (if 0 ≤ (wrap64 ((wrap64 (1 + bt329.2.1)) + 1)) then (if (wrap64 ((wrap64 (1 + bt329.2.1)) + 1)) < (x0.length : Int) then (pfor_read.j1 k x0 (wrap64 (rd x0 0)) bt329.1 (wrap64 (1 + bt329.2.1)) (decide ((wrap64 (rd x0 (wrap64 ((wrap64 (1 + bt329.2.1)) + 1)))) > (wrap64 (rd x0 0))))) else (none)) else (none))) else (none)) else (none))) else (pfor_read.j1 k x0 (wrap64 (rd x0 0)) bt329.1 (wrap64 (1 + bt329.2.1)) true))) else (none)) else (none))
def pfor_read.j1 : Nat → List Int → Int → Int → Int → Bool → Option (List Int × Int × Bool)
 | 0, _, _, _, _, _ => none
 | k + 1, x0, x5, x6, x9, x72 => if x72 = true then (some (([] : List Int), 0, false)) else (if 0 ≤ x9 then (if x9 < (x0.length : Int) then (if 0 ≤ (wrap64 (x9 + 1)) then (if (wrap64 (x9 + 1)) < (x0.length : Int) then (if (wrap64 ((wrap64 (x9 + 2)) + (wrap64 (Int.tdiv (wrap64 ((wrap64 (x5 * (wrap64 (rd x0 x9)))) + 7)) 8)))) > (x0.length : Int) then (some (([] : List Int), 0, false)) else (if 0 ≤ (wrap64 (x9 + 2)) then (if (wrap64 (x9 + 2)) ≤ (wrap64 ((wrap64 (x9 + 2)) + (wrap64 (Int.tdiv (wrap64 ((wrap64 (x5 * (wrap64 (rd x0 x9)))) + 7)) 8)))) then (if (wrap64 ((wrap64 (x9 + 2)) + (wrap64 (Int.tdiv (wrap64 ((wrap64 (x5 * (wrap64 (rd x0 x9)))) + 7)) 8)))) ≤ (x0.length : Int) then ((bits_Unpack.f k ((x0.take ((wrap64 ((wrap64 (x9 + 2)) + (wrap64 (Int.tdiv (wrap64 ((wrap64 (x5 * (wrap64 (rd x0 x9)))) + 7)) 8)))) : Int).toNat).drop ((wrap64 (x9 + 2)) : Int).toNat) x5 (wrap64 (rd x0 x9))).bind fun bt337 => (if bt337.2 = 0 then (pfor_read.l0 k x0 x5 x6 (wrap64 ((wrap64 (x9 + 2)) + (wrap64 (Int.tdiv (wrap64 ((wrap64 (x5 * (wrap64 (rd x0 x9)))) + 7)) 8)))) (wrap64 (rd x0 x9)) (wrap64 (rd x0 (wrap64 (x9 + 1)))) bt337.1) else (some (([] : List Int), 0, false)))) else (none)) else (none)) else (none))) else (none)) else (none)) else (none)) else (none))
def pfor_read.l0 : Nat → List Int → Int → Int → Int → Int → Int → List Int → Option (List Int × Int × Bool)
 | 0, _, _, _, _, _, _, _ => none
 | k + 1, x0, x5, x6, x9, x10, x11, x13 => if x11 > 0 then (if x9 ≥ (x0.length : Int) then (pfor_read.j3 k x0 x5 x6 x9 x10 x11 x13 true) else (if 0 ≤ x9 then (if x9 < (x0.length : Int) then (if (wrap64 (rd x0 x9)) ≥ x5 then (pfor_read.j3 k x0 x5 x6 x9 x10 x11 x13 true) else (pfor_read.j3 k x0 x5 x6 x9 x10 x11 x13 (x10 == 64))) else (none)) else (none))) else (pfor_read.l1 k x6 x9 x13 (x13.length : Int) 0)
def pfor_read.j3 : Nat → List Int → Int → Int → Int → Int → Int → List Int → Bool → Option (List Int × Int × Bool)
 | 0, _, _, _, _, _, _, _, _ => none
 | k + 1, x0, x5, x6, x9, x10, x11, x13, x130 => if x130 = true then (some (([] : List Int), 0, false)) else (if 0 ≤ x9 then (if x9 < (x0.length : Int) then (if 0 ≤ (wrap64 (x9 + 1)) then (if (wrap64 (x9 + 1)) ≤ (x0.length : Int) then ((num_Take.f k (x0.drop ((wrap64 (x9 + 1)) : Int).toNat)).bind fun bt344 => (if bt344.2.2 = 0 then (if 0 ≤ (wrap64 (rd x0 x9)) then (if (wrap64 (rd x0 x9)) < (x13.length : Int) then (if 0 ≤ x10 then (pfor_read.l0 k x0 x5 x6 (wrap64 (x9 + (wrap64 (1 + bt344.2.1)))) x10 (wrap64 (x11 - 1)) (x13.set ((wrap64 (rd x0 x9)) : Int).toNat (IntKind.u64.wrap ((rd x13 (wrap64 (rd x0 x9))) + (shl .u64 bt344.1 x10))))) else (none)) else (none)) else (none)) else (some (([] : List Int), 0, false)))) else (none)) else (none)) else (none)) else (none))
def pfor_read.l1 : Nat → Int → Int → List Int → Int → Int → Option (List Int × Int × Bool)
 | 0, _, _, _, _, _ => none
 | k + 1, x6, x9, x13, x161, x162 => if x162 < x161 then (if 0 ≤ x162 then (if x162 < (x13.length : Int) then (pfor_read.l1 k x6 x9 (x13.set (x162 : Int).toNat (IntKind.u64.wrap ((rd x13 x162) + x6))) x161 (wrap64 (x162 + 1))) else (none)) else (none)) else (some (x13, x9, true))
end
def pfor_read.f (k : Nat) (l0 : List Int) : Option (List Int × Int × Bool) := if (l0.length : Int) < 1 then (pfor_read.j0 k l0 true) else (if 0 < (l0.length : Int) then (if (rd l0 0) < 1 then (pfor_read.j0 k l0 true) else (pfor_read.j0 k l0 (decide ((rd l0 0) > 32)))) else (none))
theorem pfor_read.mono_l : ∀ k, (∀ y0 y1, LeO (pfor_read.j0 k y0 y1) (pfor_read.j0 (k + 1) y0 y1)) ∧ (∀ y0 y1 y2 y3 y4, LeO (pfor_read.j1 k y0 y1 y2 y3 y4) (pfor_read.j1 (k + 1) y0 y1 y2 y3 y4)) ∧ (∀ y0 y1 y2 y3 y4 y5 y6, LeO (pfor_read.l0 k y0 y1 y2 y3 y4 y5 y6) (pfor_read.l0 (k + 1) y0 y1 y2 y3 y4 y5 y6)) ∧ (∀ y0 y1 y2 y3 y4 y5 y6 y7, LeO (pfor_read.j3 k y0 y1 y2 y3 y4 y5 y6 y7) (pfor_read.j3 (k + 1) y0 y1 y2 y3 y4 y5 y6 y7)) ∧ (∀ y0 y1 y2 y3 y4, LeO (pfor_read.l1 k y0 y1 y2 y3 y4) (pfor_read.l1 (k + 1) y0 y1 y2 y3 y4))
 | 0 => ⟨fun _ _ r h => by simp [pfor_read.j0] at h, fun _ _ _ _ _ r h => by simp [pfor_read.j1] at h, fun _ _ _ _ _ _ _ r h => by simp [pfor_read.l0] at h, fun _ _ _ _ _ _ _ _ r h => by simp [pfor_read.j3] at h, fun _ _ _ _ _ r h => by simp [pfor_read.l1] at h⟩
 | k + 1 => by
  obtain ⟨ih0, ih1, ih2, ih3, ih4⟩ := pfor_read.mono_l k
  refine ⟨?_, ?_, ?_, ?_, ?_⟩
  ·intro y0 y1
   unfold pfor_read.j0
   repeat' first
   | (with_reducible exact ih0 _ _)
   | (with_reducible exact ih1 _ _ _ _ _)
   | (with_reducible exact ih2 _ _ _ _ _ _ _)
   | (with_reducible exact ih3 _ _ _ _ _ _ _ _)
   | (with_reducible exact ih4 _ _ _ _ _)
   | (with_reducible exact bits_Unpack.mono _ _ _ _)
   | (with_reducible exact num_Take.mono _ _)
   | (with_reducible exact LeO.refl _)
   | (with_reducible exact LeO.none _)
   | (with_reducible refine LeO.ite ?_ ?_)
   | (with_reducible refine LeO.bind ?_ (fun _ => ?_))
   | exact ih0 _ _
   | exact ih1 _ _ _ _ _
   | exact ih2 _ _ _ _ _ _ _
   | exact ih3 _ _ _ _ _ _ _ _
   | exact ih4 _ _ _ _ _
   | exact bits_Unpack.mono _ _ _ _
   | exact num_Take.mono _ _
   | exact LeO.none _
   | refine LeO.ite ?_ ?_
   | refine LeO.bind ?_ (fun _ => ?_)
  ·intro y0 y1 y2 y3 y4
   unfold pfor_read.j1
   repeat' first
   | (with_reducible exact ih0 _ _)
   | (with_reducible exact ih1 _ _ _ _ _)
   | (with_reducible exact ih2 _ _ _ _ _ _ _)
   | (with_reducible exact ih3 _ _ _ _ _ _ _ _)
   | (with_reducible exact ih4 _ _ _ _ _)
   | (with_reducible exact bits_Unpack.mono _ _ _ _)
   | (with_reducible exact num_Take.mono _ _)
   | (with_reducible exact LeO.refl _)
   | (with_reducible exact LeO.none _)
   | (with_reducible refine LeO.ite ?_ ?_)
   | (with_reducible refine LeO.bind ?_ (fun _ => ?_))
   | exact ih0 _ _
   | exact ih1 _ _ _ _ _
   | exact ih2 _ _ _ _ _ _ _
   | exact ih3 _ _ _ _ _ _ _ _
   | exact ih4 _ _ _ _ _
   | exact bits_Unpack.mono _ _ _ _
   | exact num_Take.mono _ _
   | exact LeO.none _
   | refine LeO.ite ?_ ?_
   | refine LeO.bind ?_ (fun _ => ?_)
  ·intro y0 y1 y2 y3 y4 y5 y6
   unfold pfor_read.l0
   repeat' first
   | (with_reducible exact ih0 _ _)
   | (with_reducible exact ih1 _ _ _ _ _)
   | (with_reducible exact ih2 _ _ _ _ _ _ _)
   | (with_reducible exact ih3 _ _ _ _ _ _ _ _)
   | (with_reducible exact ih4 _ _ _ _ _)
   | (with_reducible exact bits_Unpack.mono _ _ _ _)
   | (with_reducible exact num_Take.mono _ _)
   | (with_reducible exact LeO.refl _)
   | (with_reducible exact LeO.none _)
   | (with_reducible refine LeO.ite ?_ ?_)
   | (with_reducible refine LeO.bind ?_ (fun _ => ?_))
   | exact ih0 _ _
   | exact ih1 _ _ _ _ _
   | exact ih2 _ _ _ _ _ _ _
   | exact ih3 _ _ _ _ _ _ _ _
   | exact ih4 _ _ _ _ _
   | exact bits_Unpack.mono _ _ _ _
   | exact num_Take.mono _ _
   | exact LeO.none _
   | refine LeO.ite ?_ ?_
   | refine LeO.bind ?_ (fun _ => ?_)
  ·intro y0 y1 y2 y3 y4 y5 y6 y7
   unfold pfor_read.j3
   repeat' first
   | (with_reducible exact ih0 _ _)
   | (with_reducible exact ih1 _ _ _ _ _)
   | (with_reducible exact ih2 _ _ _ _ _ _ _)
   | (with_reducible exact ih3 _ _ _ _ _ _ _ _)
   | (with_reducible exact ih4 _ _ _ _ _)
   | (with_reducible exact bits_Unpack.mono _ _ _ _)
   | (with_reducible exact num_Take.mono _ _)
   | (with_reducible exact LeO.refl _)
   | (with_reducible exact LeO.none _)
   | (with_reducible refine LeO.ite ?_ ?_)
   | (with_reducible refine LeO.bind ?_ (fun _ => ?_))
   | exact ih0 _ _
   | exact ih1 _ _ _ _ _
   | exact ih2 _ _ _ _ _ _ _
   | exact ih3 _ _ _ _ _ _ _ _
   | exact ih4 _ _ _ _ _
   | exact bits_Unpack.mono _ _ _ _
   | exact num_Take.mono _ _
   | exact LeO.none _
   | refine LeO.ite ?_ ?_
   | refine LeO.bind ?_ (fun _ => ?_)
  ·intro y0 y1 y2 y3 y4
   unfold pfor_read.l1
   repeat' first
   | (with_reducible exact ih0 _ _)
   | (with_reducible exact ih1 _ _ _ _ _)
   | (with_reducible exact ih2 _ _ _ _ _ _ _)
   | (with_reducible exact ih3 _ _ _ _ _ _ _ _)
   | (with_reducible exact ih4 _ _ _ _ _)
   | (with_reducible exact bits_Unpack.mono _ _ _ _)
   | (with_reducible exact num_Take.mono _ _)
   | (with_reducible exact LeO.refl _)
   | (with_reducible exact LeO.none _)
   | (with_reducible refine LeO.ite ?_ ?_)
   | (with_reducible refine LeO.bind ?_ (fun _ => ?_))
   | exact ih0 _ _
   | exact ih1 _ _ _ _ _
   | exact ih2 _ _ _ _ _ _ _
   | exact ih3 _ _ _ _ _ _ _ _
   | exact ih4 _ _ _ _ _
   | exact bits_Unpack.mono _ _ _ _
   | exact num_Take.mono _ _
   | exact LeO.none _
   | refine LeO.ite ?_ ?_
   | refine LeO.bind ?_ (fun _ => ?_)
theorem pfor_read.mono : ∀ a0 k, LeO (pfor_read.f k a0) (pfor_read.f (k + 1) a0) := by
 intro a0 k
 obtain ⟨ih0, ih1, ih2, ih3, ih4⟩ := pfor_read.mono_l k
 unfold pfor_read.f
 repeat' first
   | (with_reducible exact ih0 _ _)
   | (with_reducible exact ih1 _ _ _ _ _)
   | (with_reducible exact ih2 _ _ _ _ _ _ _)
   | (with_reducible exact ih3 _ _ _ _ _ _ _ _)
   | (with_reducible exact ih4 _ _ _ _ _)
   | (with_reducible exact bits_Unpack.mono _ _ _ _)
   | (with_reducible exact num_Take.mono _ _)
   | (with_reducible exact LeO.refl _)
   | (with_reducible exact LeO.none _)
   | (with_reducible refine LeO.ite ?_ ?_)
   | (with_reducible refine LeO.bind ?_ (fun _ => ?_))
   | exact ih0 _ _
   | exact ih1 _ _ _ _ _
   | exact ih2 _ _ _ _ _ _ _
   | exact ih3 _ _ _ _ _ _ _ _
   | exact ih4 _ _ _ _ _
   | exact bits_Unpack.mono _ _ _ _
   | exact num_Take.mono _ _
   | exact LeO.none _
   | refine LeO.ite ?_ ?_
   | refine LeO.bind ?_ (fun _ => ?_)
def pfor_read.T8 : Bool × List (List Nat × List Nat) := (true, [([], []), ([], []), ([0, 1], [0, 1]), ([2], [2]), ([3], [3]), ([], []), ([], []), ([6], [6]), ([5, 7], [5, 7]), ([8], [8]), ([9], [9]), ([4, 0, 1, 2, 3, 4], [4]), ([10, 11, 0, 1, 2, 3, 4, 5, 6, 7, 8, 9, 10, 11], [10])])
def pfor_read.B8 : List Nat := [0, 0, 3, 7, 15, 0, 0, 64, 224, 480, 992, 31, 4095]
theorem pfor_read.tab8 : rtab .any (opsOf Try.f35 8) = pfor_read.T8 := by kernel_rfl
theorem pfor_read.bits8 : waitsOk pfor_read.T8.2 pfor_read.B8 = true := by kernel_rfl
def pfor_read.T25 : Bool × List (List Nat × List Nat) := (true, [([], []), ([], []), ([0, 1], [0, 1]), ([2], [2]), ([], []), ([], []), ([4, 5], [4, 5]), ([3, 6], [3, 6]), ([0, 1, 0, 1, 2, 3, 4, 5, 6, 7], [0, 1]), ([8, 7, 0, 1, 2, 3, 4, 5, 6, 7], [7, 8])])
def pfor_read.B25 : List Nat := [0, 0, 3, 7, 0, 0, 48, 127, 255, 511]
theorem pfor_read.tab25 : rtab .any (opsOf Try.f35 25) = pfor_read.T25 := by kernel_rfl
theorem pfor_read.bits25 : waitsOk pfor_read.T25.2 pfor_read.B25 = true := by kernel_rfl
set_option maxHeartbeats 8000000 in
set_option maxRecDepth 100000 in
theorem pfor_read.calls (k : Nat) (A0 : Option Addr) (c0 : Nat) (l0 : List Int) (r1 : List Int) (r2 : Int) (r3 : Bool) (w : World) (hr0 : Kd.C (Kd.int .u8) w A0 l0.length l0) (hc0 : l0.length ≤ c0) (h : pfor_read.f k l0 = some (r1, r2, r3)) :
  Calls Try.prog 35 #[.slice A0 l0.length c0] w fun e w' => ∃ v0_ : Value, e = .returned (.tuple #[v0_, .int .i64 r2, .bool r3]) ∧ Kd.R (Kd.int .u64) 50 w' w.heap.size (fun _ => True) v0_ r1 ∧ Below w.heap.size w w' := by
 have HR0 := Aside0.mk hr0
 have HC0 := Aside0.mk hc0
 clear hr0 hc0
 have HB := Aside0.mk (Below.refl w.heap.size w)
 have H : (if (l0.length : Int) < 1 then (pfor_read.j0 k l0 true) else (if 0 < (l0.length : Int) then (if (rd l0 0) < 1 then (pfor_read.j0 k l0 true) else (pfor_read.j0 k l0 (decide ((rd l0 0) > 32)))) else (none))) = some (r1, r2, r3) := h
 clear h
 have HC2 := Aside0.mk H
 clear H
 go_enter Try.func35, Try.ntmps35
 go_upto_region 1 with (fail)
 go_cut [33] (fun v33 wc => ∃ (kq : Nat) (x33_1 : Bool), v33 = .bool x33_1 ∧ Aside0 (pfor_read.j0 kq l0 x33_1 = some (r1, r2, r3)) ∧ Aside0 (kq ≤ k) ∧ Aside0 (Below w.heap.size w wc))
 case first =>
  have H := HC2.out
  clear HC2
  by_cases c3 : (l0.length : Int) < 1
  ·rw [if_pos c3] at H
   have c3b0 : decide ((l0.length : Int) < 1) = true := decide_eq_true c3
   have c3b1 : decide (l0.length < 1) = true := decide_eq_true (by omega)
   clear c3
   (first | rw [c3b0] | (simp only [i64_w, i32_w]; rw [c3b0]) | skip)
   have H' := Aside0.mk H
   clear H
   go_wp2
   go_meet
   case rel => exact ⟨_, (true), (by first | rfl | (simp; done) | (simp [*]; done)), H', ⟨by first | omega | exact Nat.le_refl _⟩, ⟨by repeat (first | (with_reducible first | exact HB.out | apply pbA_ | apply pbN_ | apply pb1_) | exact HB.out)⟩⟩
  ·rw [if_neg c3] at H
   have c3b0 : decide ((l0.length : Int) < 1) = false := decide_eq_false c3
   have c3b1 : decide (l0.length < 1) = false := decide_eq_false (by omega)
   clear c3
   (first | rw [c3b0] | (simp only [i64_w, i32_w]; rw [c3b0]) | skip)
   by_cases c4 : 0 < (l0.length : Int)
   ·rw [if_pos c4] at H
    have c4b0 : decide (0 < (l0.length : Int)) = true := decide_eq_true c4
    have c4b1 : decide (0 < l0.length) = true := decide_eq_true (by omega)
    clear c4
    by_cases c5 : (rd l0 0) < 1
    ·rw [if_pos c5] at H
     have c5b0 : decide ((rd l0 0) < 1) = true := decide_eq_true c5
     clear c5
     have H' := Aside0.mk H
     clear H
     have p325 : 0 ≤ (0 : Int) := (by omega)
     have q325 : 0 < (l0.length : Int) := of_decide_eq_true (by first | (with_reducible assumption) | assumption)
     obtain ⟨ad325, e325, hx325_0⟩ := Kd.at_int HR0.out 0 p325 q325
     cases e325
     have qi325 : (0 < l0.length) = True := eq_true (by omega)
     (try rw [show ((0 : Int)).toNat = 0 from rfl] at hx325_0)
     (try rw [Addr.add_zero'] at hx325_0)
     replace hx325_0 := (HB.out.cell (World.block_lt_of_cell? w _ hx325_0)).trans hx325_0
     replace p325 := eq_true p325
     replace q325 := eq_true q325
     go_wp2
     go_meet
     case rel => exact ⟨_, (true), (by first | rfl | (simp; done) | (simp [*]; done)), H', ⟨by first | omega | exact Nat.le_refl _⟩, ⟨by repeat (first | (with_reducible first | exact HB.out | apply pbA_ | apply pbN_ | apply pb1_) | exact HB.out)⟩⟩
    ·rw [if_neg c5] at H
     have c5b0 : decide ((rd l0 0) < 1) = false := decide_eq_false c5
     clear c5
     have H' := Aside0.mk H
     clear H
     have p325 : 0 ≤ (0 : Int) := (by omega)
     have q325 : 0 < (l0.length : Int) := of_decide_eq_true (by first | (with_reducible assumption) | assumption)
     obtain ⟨ad325, e325, hx325_0⟩ := Kd.at_int HR0.out 0 p325 q325
     cases e325
     have qi325 : (0 < l0.length) = True := eq_true (by omega)
     (try rw [show ((0 : Int)).toNat = 0 from rfl] at hx325_0)
     (try rw [Addr.add_zero'] at hx325_0)
     replace hx325_0 := (HB.out.cell (World.block_lt_of_cell? w _ hx325_0)).trans hx325_0
     replace p325 := eq_true p325
     replace q325 := eq_true q325
     have p326 : 0 ≤ (0 : Int) := (by omega)
     have q326 : 0 < (l0.length : Int) := of_decide_eq_true (by first | (with_reducible assumption) | assumption)
     obtain ⟨ad326, e326, hx326_0⟩ := Kd.at_int HR0.out 0 p326 q326
     obtain rfl : ad325 = ad326 := (by injection e326)
     have qi326 : (0 < l0.length) = True := eq_true (by omega)
     (try rw [show ((0 : Int)).toNat = 0 from rfl] at hx326_0)
     (try rw [Addr.add_zero'] at hx326_0)
     replace hx326_0 := (HB.out.cell (World.block_lt_of_cell? w _ hx326_0)).trans hx326_0
     replace p326 := eq_true p326
     replace q326 := eq_true q326
     go_wp2
     go_meet
     case rel => exact ⟨_, (decide ((rd l0 0) > 32)), (by first | rfl | (simp; done) | (simp [*]; done)), H', ⟨by first | omega | exact Nat.le_refl _⟩, ⟨by repeat (first | (with_reducible first | exact HB.out | apply pbA_ | apply pbN_ | apply pb1_) | exact HB.out)⟩⟩
   ·rw [if_neg c4] at H
    exact absurd H (by simp)
 case rest =>
  clear HC2
  try clear p2
  try clear c3
  try clear c3b0
  try clear c3b1
  try clear p3
  try clear q3
  try clear hx3
  try clear qi3
  try clear c4
  try clear c4b0
  try clear c4b1
  try clear c5
  try clear c5b0
  try clear hx325_0
  try clear hx326_0
  try clear p325
  try clear p326
  try clear q325
  try clear q326
  obtain ⟨kq, x33_1, rfl, HA, HJ1, HB⟩ := hcut
  cases kq with
  | zero => exact absurd HA.out (by simp [pfor_read.j0])
  | succ kj1 =>
   have H := HA.out
   clear HA
   simp only [pfor_read.j0] at H
   by_cases c6 : x33_1 = true
   ·subst c6
    have H1 : (some (([] : List Int), 0, false)) = some (r1, r2, r3) := by rw [if_pos rfl] at H; exact H
    clear H
    have H := H1
    clear H1
    simp only [Option.some.injEq, Prod.mk.injEq] at H
    obtain ⟨rfl, rfl, rfl⟩ := H
    go_wp2
    go_ret3
    exact ⟨_, by first | rfl | (simp [eWn_, eWs_] <;> rfl) | (simp [*, eWn_, eWs_] <;> rfl), by first | exact Kd.R_nil _ _ _ _ _ | exact Kd.N_nil _ _ _ _ _ | exact Kd.V_nil _ _ _ _ _ | exact Kd.Q_nil _ _ _ _ _ | exact Kd.S_nil _ _ _ _ _, by repeat (first | (with_reducible first | exact HB.out | apply pbA_ | apply pbN_ | apply pb1_) | exact HB.out)⟩
   ·replace c6 := Bool.eq_false_iff.mpr c6
    subst c6
    have H1 : (if 0 < (l0.length : Int) then (if 1 ≤ (l0.length : Int) then ((num_Take.f kj1 (l0.drop 1)).bind fun bt329 => (if bt329.2.2 = 0 then (if (l0.length : Int) < (wrap64 ((wrap64 (1 + bt329.2.1)) + 2)) then (pfor_read.j1 kj1 l0 (wrap64 (rd l0 0)) bt329.1 (wrap64 (1 + bt329.2.1)) true) else (if 0 ≤ (wrap64 (1 + bt329.2.1)) then (if (wrap64 (1 + bt329.2.1)) < (l0.length : Int) then (if (rd l0 (wrap64 (1 + bt329.2.1))) > 64 then (pfor_read.j1 kj1 l0 (wrap64 (rd l0 0)) bt329.1 (wrap64 (1 + bt329.2.1)) true) else (if 0 ≤ (wrap64 ((wrap64 (1 + bt329.2.1)) + 1)) then (if (wrap64 ((wrap64 (1 + bt329.2.1)) + 1)) < (l0.length : Int) then (pfor_read.j1 kj1 l0 (wrap64 (rd l0 0)) bt329.1 (wrap64 (1 + bt329.2.1)) (decide ((wrap64 (rd l0 (wrap64 ((wrap64 (1 + bt329.2.1)) + 1)))) > (wrap64 (rd l0 0))))) else (none)) else (none))) else (none)) else (none))) else (pfor_read.j1 kj1 l0 (wrap64 (rd l0 0)) bt329.1 (wrap64 (1 + bt329.2.1)) true))) else (none)) else (none)) = some (r1, r2, r3) := by rw [if_neg (show ¬ (false = true) by decide)] at H; exact H
    clear H
    have H := H1
    clear H1
    by_cases c7 : 0 < (l0.length : Int)
    ·rw [if_pos c7] at H
     have c7b0 : decide (0 < (l0.length : Int)) = true := decide_eq_true c7
     have c7b1 : decide (0 < l0.length) = true := decide_eq_true (by omega)
     clear c7
     by_cases c8 : 1 ≤ (l0.length : Int)
     ·rw [if_pos c8] at H
      have c8b0 := eq_true c8
      have c8b1 : decide (1 ≤ (l0.length : Int)) = true := decide_eq_true c8
      clear c8
      replace H := Option.bind_eq_some_iff.mp H
      obtain ⟨⟨t329, t330, t331⟩, A90, H⟩ := H
      replace H : (if t331 = 0 then (if (l0.length : Int) < (wrap64 ((wrap64 (1 + t330)) + 2)) then (pfor_read.j1 kj1 l0 (wrap64 (rd l0 0)) t329 (wrap64 (1 + t330)) true) else (if 0 ≤ (wrap64 (1 + t330)) then (if (wrap64 (1 + t330)) < (l0.length : Int) then (if (rd l0 (wrap64 (1 + t330))) > 64 then (pfor_read.j1 kj1 l0 (wrap64 (rd l0 0)) t329 (wrap64 (1 + t330)) true) else (if 0 ≤ (wrap64 ((wrap64 (1 + t330)) + 1)) then (if (wrap64 ((wrap64 (1 + t330)) + 1)) < (l0.length : Int) then (pfor_read.j1 kj1 l0 (wrap64 (rd l0 0)) t329 (wrap64 (1 + t330)) (decide ((wrap64 (rd l0 (wrap64 ((wrap64 (1 + t330)) + 1)))) > (wrap64 (rd l0 0))))) else (none)) else (none))) else (none)) else (none))) else (pfor_read.j1 kj1 l0 (wrap64 (rd l0 0)) t329 (wrap64 (1 + t330)) true)) = some (r1, r2, r3) := H
      have A9 := Aside0.mk A90
      clear A90
      have HC10 := Aside0.mk H
      clear H
      have p327 : 0 ≤ (0 : Int) := (by omega)
      have q327 : 0 < (l0.length : Int) := of_decide_eq_true (by first | (with_reducible assumption) | assumption)
      obtain ⟨ad327, e327, hx327_0⟩ := Kd.at_int HR0.out 0 p327 q327
      cases e327
      have qi327 : (0 < l0.length) = True := eq_true (by omega)
      (try rw [show ((0 : Int)).toNat = 0 from rfl] at hx327_0)
      (try rw [Addr.add_zero'] at hx327_0)
      replace hx327_0 := (HB.out.cell (World.block_lt_of_cell? w _ hx327_0)).trans hx327_0
      replace p327 := eq_true p327
      replace q327 := eq_true q327
      obtain ⟨i011, hi011, _, hsz11, _⟩ := info_parts info5
      obtain ⟨A11, hcut11, hA11, hC11⟩ := print_drop_of (P := Try.prog) (Value.int .u8) 0 22 5 .i64 Try.underlying22 hi011 hsz11 (some ad327) c0 l0 1 (by omega) (of_decide_eq_true (by first | (with_reducible assumption) | assumption)) HC0.out
      have HR328 := Aside0.mk (Kd.C_of_reads (h1 := fun _ => rfl) (hA11 _ (Kd.reads_of_C HR0.out)))
      have HC328 := Aside0.mk hC11
      clear hA11 hC11 hi011 hsz11
      go_upto_region 6 with (first | ((with_reducible refine gaC_ (f := 44) rfl ?_); refine goesL_ (some 41) rfl rfl Try.func44 (by kernel_rfl) rfl #[.slice A11 (l0.drop 1).length (c0 - 1)] rfl (by (try simp only [List.map_toArray, List.map_cons, List.map_nil]); first | done | (rw [show (l0.drop 1).length = (l0.length - 1) from List.length_drop] <;> rfl) | rfl | (simp only [List.length_drop, List.length_take]; rfl)) ?_; (with_reducible refine (num_Take.calls kj1 _ _ (l0.drop 1) t329 t330 t331 _ ?side1 ?side2 A9.out).mono ?_); (case side1 => repeat (first | exact (Kd.C_below HR328.out HB.out) | (with_reducible refine Kd.cA_ ?_ _) | (with_reducible refine Kd.cN_ ?_ _) | (with_reducible refine Kd.cD_ ?_))); (case side2 => exact HC328.out); rintro e w' ⟨rfl, ⟨nd, rfl⟩⟩; refine ⟨_, rfl, ?_⟩))
      (try simp only [Act.put, List.setIfInBounds_toArray, List.set_cons_zero, List.set_cons_succ])
      go_cut [72] (fun v72 wc => ∃ (kq : Nat) (x72_9 : Bool), v72 = .bool x72_9 ∧ Aside0 (pfor_read.j1 kq l0 (wrap64 (rd l0 0)) t329 (wrap64 (1 + t330)) x72_9 = some (r1, r2, r3)) ∧ Aside0 (kq ≤ kj1) ∧ Aside0 (Below w.heap.size w wc))
      case first =>
       have H := HC10.out
       clear HC10
       by_cases c12 : t331 = 0
       ·rw [if_pos c12] at H
        have c12b0 : (t331 == 0) = true := beq_iff_eq.mpr c12
        have c12b1 : (t331 != 0) = false := bne_eq_false_iff_eq.mpr c12
        clear c12
        (first | rw [c12b0] | (simp only [i64_w, i32_w]; rw [c12b0]) | skip)
        by_cases c13 : (l0.length : Int) < (wrap64 ((wrap64 (1 + t330)) + 2))
        ·rw [if_pos c13] at H
         have c13b0 : decide ((l0.length : Int) < (wrap64 ((wrap64 (1 + t330)) + 2))) = true := decide_eq_true c13
         clear c13
         have H' := Aside0.mk H
         clear H
         go_wp2
         go_meet
         case rel => exact ⟨_, (true), (by first | rfl | (simp; done) | (simp [*]; done)), H', ⟨by have := HJ1.out; first | omega | exact Nat.le_refl _⟩, ⟨by repeat (first | (with_reducible first | exact HB.out | apply pbA_ | apply pbN_ | apply pb1_) | exact HB.out)⟩⟩
        ·rw [if_neg c13] at H
         have c13b0 : decide ((l0.length : Int) < (wrap64 ((wrap64 (1 + t330)) + 2))) = false := decide_eq_false c13
         clear c13
         obtain ⟨ji14, hji14⟩ : ∃ j_ : Int, (wrap64 (1 + t330)) = j_ := ⟨_, rfl⟩
         replace H : (if 0 ≤ (ji14) then (if (ji14) < (l0.length : Int) then (if (rd l0 (ji14)) > 64 then (pfor_read.j1 kj1 l0 (wrap64 (rd l0 0)) t329 ji14 true) else (if 0 ≤ (wrap64 ((ji14) + 1)) then (if (wrap64 ((ji14) + 1)) < (l0.length : Int) then (pfor_read.j1 kj1 l0 (wrap64 (rd l0 0)) t329 ji14 (decide ((wrap64 (rd l0 (wrap64 ((ji14) + 1)))) > (wrap64 (rd l0 0))))) else (none)) else (none))) else (none)) else (none)) = some (r1, r2, r3) := by first | (rw [hji14] at H; exact H) | (simp only [hji14] at H ⊢; exact H)
         (try rw [hji14] at c13b0)
         have hji14w : (IntKind.i64.wrap (1 + t330)) = ji14 := (i64_w _).trans hji14
         by_cases c15 : 0 ≤ (ji14)
         ·rw [if_pos c15] at H
          have c15b0 : decide (0 ≤ (ji14)) = true := decide_eq_true c15
          clear c15
          by_cases c16 : (ji14) < (l0.length : Int)
          ·rw [if_pos c16] at H
           have c16b0 : decide ((ji14) < (l0.length : Int)) = true := decide_eq_true c16
           clear c16
           by_cases c17 : (rd l0 (ji14)) > 64
           ·rw [if_pos c17] at H
            have c17b0 : decide (64 < (rd l0 (ji14))) = true := decide_eq_true c17
            clear c17
            have H' := Aside0.mk H
            clear H
            have p332 : 0 ≤ ((ji14) : Int) := of_decide_eq_true (by first | (with_reducible assumption) | assumption)
            have q332 : (ji14) < (l0.length : Int) := of_decide_eq_true (by first | (with_reducible assumption) | assumption)
            obtain ⟨ad332, e332, hx332_0⟩ := Kd.at_int HR0.out (ji14) p332 q332
            obtain rfl : ad327 = ad332 := (by injection e332)
            replace hx332_0 := (HB.out.cell (World.block_lt_of_cell? w _ hx332_0)).trans hx332_0
            replace p332 := eq_true p332
            replace q332 := eq_true q332
            go_wp2
            (try subst hji14)
            go_meet
            case rel => exact ⟨_, (true), (by first | rfl | (simp; done) | (simp [*]; done)), H', ⟨by have := HJ1.out; first | omega | exact Nat.le_refl _⟩, ⟨by repeat (first | (with_reducible first | exact HB.out | apply pbA_ | apply pbN_ | apply pb1_) | exact HB.out)⟩⟩
           ·rw [if_neg c17] at H
            have c17b0 : decide (64 < (rd l0 (ji14))) = false := decide_eq_false c17
            clear c17
            obtain ⟨ji18, hji18⟩ : ∃ j_ : Int, (wrap64 ((ji14) + 1)) = j_ := ⟨_, rfl⟩
            replace H : (if 0 ≤ (ji18) then (if (ji18) < (l0.length : Int) then (pfor_read.j1 kj1 l0 (wrap64 (rd l0 0)) t329 ji14 (decide ((wrap64 (rd l0 (ji18))) > (wrap64 (rd l0 0))))) else (none)) else (none)) = some (r1, r2, r3) := by first | (rw [hji18] at H; exact H) | (simp only [hji18] at H ⊢; exact H)
            have hji18w : (IntKind.i64.wrap ((ji14) + 1)) = ji18 := (i64_w _).trans hji18
            by_cases c19 : 0 ≤ (ji18)
            ·rw [if_pos c19] at H
             have c19b0 : decide (0 ≤ (ji18)) = true := decide_eq_true c19
             clear c19
             by_cases c20 : (ji18) < (l0.length : Int)
             ·rw [if_pos c20] at H
              have c20b0 : decide ((ji18) < (l0.length : Int)) = true := decide_eq_true c20
              clear c20
              have H' := Aside0.mk H
              clear H
              have p332 : 0 ≤ ((ji14) : Int) := of_decide_eq_true (by first | (with_reducible assumption) | assumption)
              have q332 : (ji14) < (l0.length : Int) := of_decide_eq_true (by first | (with_reducible assumption) | assumption)
              obtain ⟨ad332, e332, hx332_0⟩ := Kd.at_int HR0.out (ji14) p332 q332
              obtain rfl : ad327 = ad332 := (by injection e332)
              replace hx332_0 := (HB.out.cell (World.block_lt_of_cell? w _ hx332_0)).trans hx332_0
              replace p332 := eq_true p332
              replace q332 := eq_true q332
              have p333 : 0 ≤ ((ji18) : Int) := of_decide_eq_true (by first | (with_reducible assumption) | assumption)
              have q333 : (ji18) < (l0.length : Int) := of_decide_eq_true (by first | (with_reducible assumption) | assumption)
              obtain ⟨ad333, e333, hx333_0⟩ := Kd.at_int HR0.out (ji18) p333 q333
              obtain rfl : ad327 = ad333 := (by injection e333)
              replace hx333_0 := (HB.out.cell (World.block_lt_of_cell? w _ hx333_0)).trans hx333_0
              replace p333 := eq_true p333
              replace q333 := eq_true q333
              go_wp2
              (try subst hji18 hji14)
              go_meet
              case rel => exact ⟨_, (decide ((wrap64 (rd l0 ((wrap64 (((wrap64 (1 + t330))) + 1))))) > (wrap64 (rd l0 0)))), (by first | rfl | (simp; done) | (simp only [← hji18] <;> (first | rfl | simp)) | (simp [*]; done)), H', ⟨by have := HJ1.out; first | omega | exact Nat.le_refl _⟩, ⟨by repeat (first | (with_reducible first | exact HB.out | apply pbA_ | apply pbN_ | apply pb1_) | exact HB.out)⟩⟩
             ·rw [if_neg c20] at H
              exact absurd H (by simp)
            ·rw [if_neg c19] at H
             exact absurd H (by simp)
          ·rw [if_neg c16] at H
           exact absurd H (by simp)
         ·rw [if_neg c15] at H
          exact absurd H (by simp)
       ·rw [if_neg c12] at H
        have c12b0 : (t331 == 0) = false := beq_eq_false_iff_ne.mpr c12
        have c12b1 : (t331 != 0) = true := bne_iff_ne.mpr c12
        (first | rw [c12b0] | (simp only [i64_w, i32_w]; rw [c12b0]) | skip)
        have H' := Aside0.mk H
        clear H
        go_wp2
        go_meet
        case rel => exact ⟨_, (true), (by first | rfl | (simp; done) | (simp [*]; done)), H', ⟨by have := HJ1.out; first | omega | exact Nat.le_refl _⟩, ⟨by repeat (first | (with_reducible first | exact HB.out | apply pbA_ | apply pbN_ | apply pb1_) | exact HB.out)⟩⟩
      case rest =>
       clear HC10
       try clear c1
       try clear c2
       try clear p2
       try clear c3
       try clear c3b0
       try clear c3b1
       try clear p3
       try clear q3
       try clear hx3
       try clear qi3
       try clear c4
       try clear c4b0
       try clear c4b1
       try clear c5
       try clear c5b0
       try clear c6
       try clear p6
       try clear c7
       try clear c7b0
       try clear c7b1
       try clear c8
       try clear c8b0
       try clear c8b1
       try clear c12
       try clear c12b0
       try clear c12b1
       try clear c13
       try clear c13b0
       try clear c15
       try clear c15b0
       try clear c16
       try clear c16b0
       try clear c17
       try clear c17b0
       try clear c19
       try clear c19b0
       try clear c20
       try clear c20b0
       try clear hx325_0
       try clear hx326_0
       try clear hx327_0
       try clear hx332_0
       try clear hx333_0
       try clear p2
       try clear p3
       try clear p325
       try clear p326
       try clear p327
       try clear p332
       try clear p333
       try clear q3
       try clear q325
       try clear q326
       try clear q327
       try clear q332
       try clear q333
       obtain ⟨kq, x72_9, rfl, HA, HJ9, HB⟩ := hcut
       cases kq with
       | zero => exact absurd HA.out (by simp [pfor_read.j1])
       | succ kj9 =>
        have H := HA.out
        clear HA
        simp only [pfor_read.j1] at H
        by_cases c21 : x72_9 = true
        ·subst c21
         have H1 : (some (([] : List Int), 0, false)) = some (r1, r2, r3) := by rw [if_pos rfl] at H; exact H
         clear H
         have H := H1
         clear H1
         simp only [Option.some.injEq, Prod.mk.injEq] at H
         obtain ⟨rfl, rfl, rfl⟩ := H
         go_wp2
         go_ret3
         exact ⟨_, by first | rfl | (simp [eWn_, eWs_] <;> rfl) | (simp [*, eWn_, eWs_] <;> rfl), by first | exact Kd.R_nil _ _ _ _ _ | exact Kd.N_nil _ _ _ _ _ | exact Kd.V_nil _ _ _ _ _ | exact Kd.Q_nil _ _ _ _ _ | exact Kd.S_nil _ _ _ _ _, by repeat (first | (with_reducible first | exact HB.out | apply pbA_ | apply pbN_ | apply pb1_) | exact HB.out)⟩
        ·replace c21 := Bool.eq_false_iff.mpr c21
         subst c21
         have H1 : (if 0 ≤ (wrap64 (1 + t330)) then (if (wrap64 (1 + t330)) < (l0.length : Int) then (if 0 ≤ (wrap64 ((wrap64 (1 + t330)) + 1)) then (if (wrap64 ((wrap64 (1 + t330)) + 1)) < (l0.length : Int) then (if (wrap64 ((wrap64 ((wrap64 (1 + t330)) + 2)) + (wrap64 (Int.tdiv (wrap64 ((wrap64 ((wrap64 (rd l0 0)) * (wrap64 (rd l0 (wrap64 (1 + t330)))))) + 7)) 8)))) > (l0.length : Int) then (some (([] : List Int), 0, false)) else (if 0 ≤ (wrap64 ((wrap64 (1 + t330)) + 2)) then (if (wrap64 ((wrap64 (1 + t330)) + 2)) ≤ (wrap64 ((wrap64 ((wrap64 (1 + t330)) + 2)) + (wrap64 (Int.tdiv (wrap64 ((wrap64 ((wrap64 (rd l0 0)) * (wrap64 (rd l0 (wrap64 (1 + t330)))))) + 7)) 8)))) then (if (wrap64 ((wrap64 ((wrap64 (1 + t330)) + 2)) + (wrap64 (Int.tdiv (wrap64 ((wrap64 ((wrap64 (rd l0 0)) * (wrap64 (rd l0 (wrap64 (1 + t330)))))) + 7)) 8)))) ≤ (l0.length : Int) then ((bits_Unpack.f kj9 ((l0.take ((wrap64 ((wrap64 ((wrap64 (1 + t330)) + 2)) + (wrap64 (Int.tdiv (wrap64 ((wrap64 ((wrap64 (rd l0 0)) * (wrap64 (rd l0 (wrap64 (1 + t330)))))) + 7)) 8)))) : Int).toNat).drop ((wrap64 ((wrap64 (1 + t330)) + 2)) : Int).toNat) (wrap64 (rd l0 0)) (wrap64 (rd l0 (wrap64 (1 + t330))))).bind fun bt337 => (if bt337.2 = 0 then (pfor_read.l0 kj9 l0 (wrap64 (rd l0 0)) t329 (wrap64 ((wrap64 ((wrap64 (1 + t330)) + 2)) + (wrap64 (Int.tdiv (wrap64 ((wrap64 ((wrap64 (rd l0 0)) * (wrap64 (rd l0 (wrap64 (1 + t330)))))) + 7)) 8)))) (wrap64 (rd l0 (wrap64 (1 + t330)))) (wrap64 (rd l0 (wrap64 ((wrap64 (1 + t330)) + 1)))) bt337.1) else (some (([] : List Int), 0, false)))) else (none)) else (none)) else (none))) else (none)) else (none)) else (none)) else (none)) = some (r1, r2, r3) := by rw [if_neg (show ¬ (false = true) by decide)] at H; exact H
         clear H
         have H := H1
         clear H1
         obtain ⟨ji22, hji22⟩ : ∃ j_ : Int, (wrap64 (1 + t330)) = j_ := ⟨_, rfl⟩
         replace H : (if 0 ≤ (ji22) then (if (ji22) < (l0.length : Int) then (if 0 ≤ (wrap64 ((ji22) + 1)) then (if (wrap64 ((ji22) + 1)) < (l0.length : Int) then (if (wrap64 ((wrap64 ((ji22) + 2)) + (wrap64 (Int.tdiv (wrap64 ((wrap64 ((wrap64 (rd l0 0)) * (wrap64 (rd l0 (ji22))))) + 7)) 8)))) > (l0.length : Int) then (some (([] : List Int), 0, false)) else (if 0 ≤ (wrap64 ((ji22) + 2)) then (if (wrap64 ((ji22) + 2)) ≤ (wrap64 ((wrap64 ((ji22) + 2)) + (wrap64 (Int.tdiv (wrap64 ((wrap64 ((wrap64 (rd l0 0)) * (wrap64 (rd l0 (ji22))))) + 7)) 8)))) then (if (wrap64 ((wrap64 ((ji22) + 2)) + (wrap64 (Int.tdiv (wrap64 ((wrap64 ((wrap64 (rd l0 0)) * (wrap64 (rd l0 (ji22))))) + 7)) 8)))) ≤ (l0.length : Int) then ((bits_Unpack.f kj9 ((l0.take ((wrap64 ((wrap64 ((ji22) + 2)) + (wrap64 (Int.tdiv (wrap64 ((wrap64 ((wrap64 (rd l0 0)) * (wrap64 (rd l0 (ji22))))) + 7)) 8)))) : Int).toNat).drop ((wrap64 ((ji22) + 2)) : Int).toNat) (wrap64 (rd l0 0)) (wrap64 (rd l0 (ji22)))).bind fun bt337 => (if bt337.2 = 0 then (pfor_read.l0 kj9 l0 (wrap64 (rd l0 0)) t329 (wrap64 ((wrap64 ((ji22) + 2)) + (wrap64 (Int.tdiv (wrap64 ((wrap64 ((wrap64 (rd l0 0)) * (wrap64 (rd l0 (ji22))))) + 7)) 8)))) (wrap64 (rd l0 (ji22))) (wrap64 (rd l0 (wrap64 ((ji22) + 1)))) bt337.1) else (some (([] : List Int), 0, false)))) else (none)) else (none)) else (none))) else (none)) else (none)) else (none)) else (none)) = some (r1, r2, r3) := by first | (rw [hji22] at H; exact H) | (simp only [hji22] at H ⊢; exact H)
         have hji22w : (IntKind.i64.wrap (1 + t330)) = ji22 := (i64_w _).trans hji22
         by_cases c23 : 0 ≤ (ji22)
         ·rw [if_pos c23] at H
          have c23b0 : decide (0 ≤ (ji22)) = true := decide_eq_true c23
          clear c23
          by_cases c24 : (ji22) < (l0.length : Int)
          ·rw [if_pos c24] at H
           have c24b0 : decide ((ji22) < (l0.length : Int)) = true := decide_eq_true c24
           clear c24
           obtain ⟨ji25, hji25⟩ : ∃ j_ : Int, (wrap64 ((ji22) + 1)) = j_ := ⟨_, rfl⟩
           replace H : (if 0 ≤ (ji25) then (if (ji25) < (l0.length : Int) then (if (wrap64 ((wrap64 ((ji22) + 2)) + (wrap64 (Int.tdiv (wrap64 ((wrap64 ((wrap64 (rd l0 0)) * (wrap64 (rd l0 (ji22))))) + 7)) 8)))) > (l0.length : Int) then (some (([] : List Int), 0, false)) else (if 0 ≤ (wrap64 ((ji22) + 2)) then (if (wrap64 ((ji22) + 2)) ≤ (wrap64 ((wrap64 ((ji22) + 2)) + (wrap64 (Int.tdiv (wrap64 ((wrap64 ((wrap64 (rd l0 0)) * (wrap64 (rd l0 (ji22))))) + 7)) 8)))) then (if (wrap64 ((wrap64 ((ji22) + 2)) + (wrap64 (Int.tdiv (wrap64 ((wrap64 ((wrap64 (rd l0 0)) * (wrap64 (rd l0 (ji22))))) + 7)) 8)))) ≤ (l0.length : Int) then ((bits_Unpack.f kj9 ((l0.take ((wrap64 ((wrap64 ((ji22) + 2)) + (wrap64 (Int.tdiv (wrap64 ((wrap64 ((wrap64 (rd l0 0)) * (wrap64 (rd l0 (ji22))))) + 7)) 8)))) : Int).toNat).drop ((wrap64 ((ji22) + 2)) : Int).toNat) (wrap64 (rd l0 0)) (wrap64 (rd l0 (ji22)))).bind fun bt337 => (if bt337.2 = 0 then (pfor_read.l0 kj9 l0 (wrap64 (rd l0 0)) t329 (wrap64 ((wrap64 ((ji22) + 2)) + (wrap64 (Int.tdiv (wrap64 ((wrap64 ((wrap64 (rd l0 0)) * (wrap64 (rd l0 (ji22))))) + 7)) 8)))) (wrap64 (rd l0 (ji22))) (wrap64 (rd l0 (ji25))) bt337.1) else (some (([] : List Int), 0, false)))) else (none)) else (none)) else (none))) else (none)) else (none)) = some (r1, r2, r3) := by first | (rw [hji25] at H; exact H) | (simp only [hji25] at H ⊢; exact H)
           have hji25w : (IntKind.i64.wrap ((ji22) + 1)) = ji25 := (i64_w _).trans hji25
           by_cases c26 : 0 ≤ (ji25)
           ·rw [if_pos c26] at H
            have c26b0 : decide (0 ≤ (ji25)) = true := decide_eq_true c26
            clear c26
            by_cases c27 : (ji25) < (l0.length : Int)
            ·rw [if_pos c27] at H
             have c27b0 : decide ((ji25) < (l0.length : Int)) = true := decide_eq_true c27
             clear c27
             by_cases c28 : (wrap64 ((wrap64 ((ji22) + 2)) + (wrap64 (Int.tdiv (wrap64 ((wrap64 ((wrap64 (rd l0 0)) * (wrap64 (rd l0 (ji22))))) + 7)) 8)))) > (l0.length : Int)
             ·rw [if_pos c28] at H
              have c28b0 : decide ((l0.length : Int) < (wrap64 ((wrap64 ((ji22) + 2)) + (wrap64 (Int.tdiv (wrap64 ((wrap64 ((wrap64 (rd l0 0)) * (wrap64 (rd l0 (ji22))))) + 7)) 8))))) = true := decide_eq_true c28
              clear c28
              simp only [Option.some.injEq, Prod.mk.injEq] at H
              obtain ⟨rfl, rfl, rfl⟩ := H
              try go_wp2
              (try (rw [drewN_self wc]; generalize hq_ : World.drewN wc _ = wc; have n0_ : Aside0 (Below w.heap.size w wc) := ⟨by rw [← hq_]; exact (by repeat (first | (with_reducible first | exact HB.out | apply pbA_ | apply pbN_ | apply pb1_) | exact HB.out))⟩; clear HB hq_; have HB := n0_; clear n0_))
              have n0_ := Aside0.mk (pb1_ HB.out)
              clear HB
              have HB := n0_
              clear n0_
              have p334 : 0 ≤ ((ji22) : Int) := of_decide_eq_true (by first | (with_reducible assumption) | assumption)
              have q334 : (ji22) < (l0.length : Int) := of_decide_eq_true (by first | (with_reducible assumption) | assumption)
              obtain ⟨ad334, e334, hx334_0⟩ := Kd.at_int HR0.out (ji22) p334 q334
              have hw334_0 := hx334_0
              obtain rfl : ad327 = ad334 := (by injection e334)
              replace hx334_0 := (HB.out.cell (World.block_lt_of_cell? w _ hx334_0)).trans hx334_0
              replace p334 := eq_true p334
              replace q334 := eq_true q334
              have p335 : 0 ≤ ((ji25) : Int) := of_decide_eq_true (by first | (with_reducible assumption) | assumption)
              have q335 : (ji25) < (l0.length : Int) := of_decide_eq_true (by first | (with_reducible assumption) | assumption)
              obtain ⟨ad335, e335, hx335_0⟩ := Kd.at_int HR0.out (ji25) p335 q335
              have hw335_0 := hx335_0
              obtain rfl : ad327 = ad335 := (by injection e335)
              replace hx335_0 := (HB.out.cell (World.block_lt_of_cell? w _ hx335_0)).trans hx335_0
              replace p335 := eq_true p335
              replace q335 := eq_true q335
              refine start_ (n := 13) (S := fun w' => w'.cell? (ad327.add ((ji22)).toNat) = some (.int .u8 (rd l0 (ji22))) ∧ w'.cell? (ad327.add ((ji25)).toNat) = some (.int .u8 (rd l0 (ji25)))) (ds := []) #[false, false, false, false, false, false, false, false, false, false, false, false, false] (by kernel_rfl) rfl rfl ⟨((HB.out.cell (World.block_lt_of_cell? w _ hw334_0)).trans hw334_0), ((HB.out.cell (World.block_lt_of_cell? w _ hw335_0)).trans hw335_0)⟩ (fun hHeld => ?_); refine with_tabW pfor_read.tab8 pfor_read.bits8 (fun HT_ HW_ => ?_)
              generalize wc.drew = w29 at HB hx334_0 hx335_0 hHeld ⊢
              refine pure_ (i := 0) (N := some 73) (v := ?_) (a' := ?_) #[tT,fF,fF,fF,fF,fF,fF,fF,fF,fF,fF,fF,fF] rfl rfl (any_of HT_.out (by kernel_rfl)) (fun _ _ _ h => h) (Or.inl ⟨by rfl, ?_⟩) ?_ ?_
              rotate_left
              ·intro w'
               go_simp
               with_reducible rfl
              rotate_left
              ·simp only [Act.put, List.setIfInBounds_toArray, List.set_cons_zero, List.set_cons_succ, i64_w, i32_w]
               rfl
              refine pure_ (i := 1) (N := some 74) (v := ?_) (a' := ?_) #[tT,tT,fF,fF,fF,fF,fF,fF,fF,fF,fF,fF,fF] rfl rfl (any_of HT_.out (by kernel_rfl)) (fun _ _ _ h => h) (Or.inl ⟨by rfl, ?_⟩) ?_ ?_
              rotate_left
              ·intro w'
               go_simp
               with_reducible rfl
              rotate_left
              ·simp only [Act.put, List.setIfInBounds_toArray, List.set_cons_zero, List.set_cons_succ, i64_w, i32_w]
               rfl
              refine pure_ (i := 2) (N := some 75) (v := ?_) (a' := ?_) #[tT,tT,tT,fF,fF,fF,fF,fF,fF,fF,fF,fF,fF] rfl rfl (any_of HT_.out (by kernel_rfl)) (fun _ _ _ h => h) (Or.inl ⟨by rfl, ?_⟩) ?_ ?_
              rotate_left
              ·intro w'
               go_simp
               with_reducible rfl
              rotate_left
              ·simp only [Act.put, List.setIfInBounds_toArray, List.set_cons_zero, List.set_cons_succ, i64_w, i32_w]
               rfl
              refine pure_ (i := 5) (N := some 78) (v := ?_) (a' := ?_) #[tT,tT,tT,fF,fF,tT,fF,fF,fF,fF,fF,fF,fF] rfl rfl (any_of HT_.out (by kernel_rfl)) (fun _ _ _ h => h) (Or.inl ⟨by rfl, ?_⟩) ?_ ?_
              rotate_left
              ·intro w'
               go_simp
               with_reducible rfl
              rotate_left
              ·simp only [Act.put, List.setIfInBounds_toArray, List.set_cons_zero, List.set_cons_succ, i64_w, i32_w]
               rfl
              refine pure_ (i := 6) (N := some 79) (v := ?_) (a' := ?_) #[tT,tT,tT,fF,fF,tT,tT,fF,fF,fF,fF,fF,fF] rfl rfl (any_of HT_.out (by kernel_rfl)) (fun _ _ _ h => h) (Or.inl ⟨by rfl, ?_⟩) ?_ ?_
              rotate_left
              ·intro w'
               go_simp
               with_reducible rfl
              rotate_left
              ·simp only [Act.put, List.setIfInBounds_toArray, List.set_cons_zero, List.set_cons_succ, i64_w, i32_w]
               rfl
              refine pure_ (i := 7) (N := some 80) (v := ?_) (a' := ?_) #[tT,tT,tT,fF,fF,tT,tT,tT,fF,fF,fF,fF,fF] rfl rfl (any_of HT_.out (by kernel_rfl)) (fun _ _ _ h => h) (Or.inl ⟨by rfl, ?_⟩) ?_ ?_
              rotate_left
              ·intro w'
               go_simp
               with_reducible rfl
              rotate_left
              ·simp only [Act.put, List.setIfInBounds_toArray, List.set_cons_zero, List.set_cons_succ, i64_w, i32_w]
               rfl
              refine pure_ (i := 8) (N := some 81) (v := ?_) (a' := ?_) #[tT,tT,tT,fF,fF,tT,tT,tT,tT,fF,fF,fF,fF] rfl rfl (any_of HT_.out (by kernel_rfl)) (fun _ _ _ h => h) (Or.inl ⟨by rfl, ?_⟩) ?_ ?_
              rotate_left
              ·intro w'
               go_simp
               with_reducible rfl
              rotate_left
              ·simp only [Act.put, List.setIfInBounds_toArray, List.set_cons_zero, List.set_cons_succ, i64_w, i32_w]
               rfl
              refine take_ (i := 3) (N := some 76) (v := ?_) (a' := ?_) #[tT,tT,tT,tT,fF,tT,tT,tT,tT,fF,fF,fF,fF] rfl rfl (take_ofW HT_.out HW_.out (by kernel_rfl)) (fun _ _ _ h => h) (Or.inl ⟨by rfl, ?_⟩) hHeld ?_ ?_
              rotate_left
              ·rintro w' ⟨s0, s1⟩
               go_simp
               with_reducible rfl
              rotate_left
              ·simp only [Act.put, List.setIfInBounds_toArray, List.set_cons_zero, List.set_cons_succ, i64_w, i32_w]
               rfl
              refine pure_ (i := 4) (N := some 77) (v := ?_) (a' := ?_) #[tT,tT,tT,tT,tT,tT,tT,tT,tT,fF,fF,fF,fF] rfl rfl (any_of HT_.out (by kernel_rfl)) (fun _ _ _ h => h) (Or.inl ⟨by rfl, ?_⟩) ?_ ?_
              rotate_left
              ·intro w'
               go_simp
               with_reducible rfl
              rotate_left
              ·simp only [Act.put, List.setIfInBounds_toArray, List.set_cons_zero, List.set_cons_succ, i64_w, i32_w]
               rfl
              refine pure_ (i := 11) (N := some 10) (v := ?_) (a' := ?_) #[tT,tT,tT,tT,tT,tT,tT,tT,tT,fF,fF,tT,fF] rfl rfl (any_of HT_.out (by kernel_rfl)) (fun _ _ _ h => h) (Or.inl ⟨by rfl, ?_⟩) ?_ ?_
              rotate_left
              ·intro w'
               go_simp
               with_reducible rfl
              rotate_left
              ·simp only [Act.put, List.setIfInBounds_toArray, List.set_cons_zero, List.set_cons_succ, i64_w, i32_w]
               rfl
              refine take_ (i := 9) (N := some 82) (v := ?_) (a' := ?_) #[tT,tT,tT,tT,tT,tT,tT,tT,tT,tT,fF,tT,fF] rfl rfl (take_ofW HT_.out HW_.out (by kernel_rfl)) (fun _ _ _ h => h) (Or.inl ⟨by rfl, ?_⟩) hHeld ?_ ?_
              rotate_left
              ·rintro w' ⟨s0, s1⟩
               go_simp
               with_reducible rfl
              rotate_left
              ·simp only [Act.put, List.setIfInBounds_toArray, List.set_cons_zero, List.set_cons_succ, i64_w, i32_w]
               rfl
              refine pure_ (i := 10) (N := some 83) (v := ?_) (a' := ?_) #[tT,tT,tT,tT,tT,tT,tT,tT,tT,tT,tT,tT,fF] rfl rfl (any_of HT_.out (by kernel_rfl)) (fun _ _ _ h => h) (Or.inl ⟨by rfl, ?_⟩) ?_ ?_
              rotate_left
              ·intro w'
               go_simp
               with_reducible rfl
              rotate_left
              ·simp only [Act.put, List.setIfInBounds_toArray, List.set_cons_zero, List.set_cons_succ, i64_w, i32_w]
               rfl
              refine pure_ (i := 12) (N := some 11) (v := ?_) (a' := ?_) #[tT,tT,tT,tT,tT,tT,tT,tT,tT,tT,tT,tT,tT] rfl rfl (any_of HT_.out (by kernel_rfl)) (fun _ _ _ h => h) (Or.inl ⟨by rfl, ?_⟩) ?_ ?_
              rotate_left
              ·intro w'
               go_simp
               with_reducible rfl
              rotate_left
              ·simp only [Act.put, List.setIfInBounds_toArray, List.set_cons_zero, List.set_cons_succ, i64_w, i32_w]
               rfl
              refine done_ (done_of HT_.out (by kernel_rfl)) ?_
              try go_wp2
              go_ret3
              exact ⟨_, by first | rfl | (simp [eWn_, eWs_] <;> rfl) | (simp only [← hji22, ← hji25]; first | rfl | (simp [eWn_, eWs_] <;> rfl)) | (simp [*, eWn_, eWs_] <;> rfl), by first | exact Kd.R_nil _ _ _ _ _ | exact Kd.N_nil _ _ _ _ _ | exact Kd.V_nil _ _ _ _ _ | exact Kd.Q_nil _ _ _ _ _ | exact Kd.S_nil _ _ _ _ _, by repeat (first | (with_reducible first | exact HB.out | apply pbA_ | apply pbN_ | apply pb1_) | exact HB.out)⟩
             ·rw [if_neg c28] at H
              have c28b0 : decide ((l0.length : Int) < (wrap64 ((wrap64 ((ji22) + 2)) + (wrap64 (Int.tdiv (wrap64 ((wrap64 ((wrap64 (rd l0 0)) * (wrap64 (rd l0 (ji22))))) + 7)) 8))))) = false := decide_eq_false c28
              clear c28
              obtain ⟨ji30, hji30⟩ : ∃ j_ : Int, (wrap64 ((ji22) + 2)) = j_ := ⟨_, rfl⟩
              replace H : (if 0 ≤ (ji30) then (if (ji30) ≤ (wrap64 ((ji30) + (wrap64 (Int.tdiv (wrap64 ((wrap64 ((wrap64 (rd l0 0)) * (wrap64 (rd l0 (ji22))))) + 7)) 8)))) then (if (wrap64 ((ji30) + (wrap64 (Int.tdiv (wrap64 ((wrap64 ((wrap64 (rd l0 0)) * (wrap64 (rd l0 (ji22))))) + 7)) 8)))) ≤ (l0.length : Int) then ((bits_Unpack.f kj9 ((l0.take ((wrap64 ((ji30) + (wrap64 (Int.tdiv (wrap64 ((wrap64 ((wrap64 (rd l0 0)) * (wrap64 (rd l0 (ji22))))) + 7)) 8)))) : Int).toNat).drop ((ji30) : Int).toNat) (wrap64 (rd l0 0)) (wrap64 (rd l0 (ji22)))).bind fun bt337 => (if bt337.2 = 0 then (pfor_read.l0 kj9 l0 (wrap64 (rd l0 0)) t329 (wrap64 ((ji30) + (wrap64 (Int.tdiv (wrap64 ((wrap64 ((wrap64 (rd l0 0)) * (wrap64 (rd l0 (ji22))))) + 7)) 8)))) (wrap64 (rd l0 (ji22))) (wrap64 (rd l0 (ji25))) bt337.1) else (some (([] : List Int), 0, false)))) else (none)) else (none)) else (none)) = some (r1, r2, r3) := by first | (rw [hji30] at H; exact H) | (simp only [hji30] at H ⊢; exact H)
              (try rw [hji30] at c28b0)
              have hji30w : (IntKind.i64.wrap ((ji22) + 2)) = ji30 := (i64_w _).trans hji30
              by_cases c31 : 0 ≤ (ji30)
              ·rw [if_pos c31] at H
               have c31b0 := eq_true c31
               have c31b1 : decide (0 ≤ (ji30)) = true := decide_eq_true c31
               clear c31
               by_cases c32 : (ji30) ≤ (wrap64 ((ji30) + (wrap64 (Int.tdiv (wrap64 ((wrap64 ((wrap64 (rd l0 0)) * (wrap64 (rd l0 (ji22))))) + 7)) 8))))
               ·rw [if_pos c32] at H
                have c32b0 := eq_true c32
                have c32b1 : decide ((ji30) ≤ (wrap64 ((ji30) + (wrap64 (Int.tdiv (wrap64 ((wrap64 ((wrap64 (rd l0 0)) * (wrap64 (rd l0 (ji22))))) + 7)) 8))))) = true := decide_eq_true c32
                by_cases c33 : (wrap64 ((ji30) + (wrap64 (Int.tdiv (wrap64 ((wrap64 ((wrap64 (rd l0 0)) * (wrap64 (rd l0 (ji22))))) + 7)) 8)))) ≤ (l0.length : Int)
                ·rw [if_pos c33] at H
                 have c33b0 := eq_true c33
                 have c33b1 : decide ((wrap64 ((ji30) + (wrap64 (Int.tdiv (wrap64 ((wrap64 ((wrap64 (rd l0 0)) * (wrap64 (rd l0 (ji22))))) + 7)) 8)))) ≤ (l0.length : Int)) = true := decide_eq_true c33
                 replace H := Option.bind_eq_some_iff.mp H
                 obtain ⟨⟨t337, t338⟩, A340, H⟩ := H
                 replace H : (if t338 = 0 then (pfor_read.l0 kj9 l0 (wrap64 (rd l0 0)) t329 (wrap64 ((ji30) + (wrap64 (Int.tdiv (wrap64 ((wrap64 ((wrap64 (rd l0 0)) * (wrap64 (rd l0 (ji22))))) + 7)) 8)))) (wrap64 (rd l0 (ji22))) (wrap64 (rd l0 (ji25))) t337) else (some (([] : List Int), 0, false))) = some (r1, r2, r3) := H
                 have A34 := Aside0.mk A340
                 clear A340
                 by_cases c35 : t338 = 0
                 ·rw [if_pos c35] at H
                  have c35b0 : (t338 == 0) = true := beq_iff_eq.mpr c35
                  have c35b1 : (t338 != 0) = false := bne_eq_false_iff_eq.mpr c35
                  clear c35
                  have H' := Aside0.mk H
                  clear H
                  try go_wp2
                  (try (rw [drewN_self wc]; generalize hq_ : World.drewN wc _ = wc; have n0_ : Aside0 (Below w.heap.size w wc) := ⟨by rw [← hq_]; exact (by repeat (first | (with_reducible first | exact HB.out | apply pbA_ | apply pbN_ | apply pb1_) | exact HB.out))⟩; clear HB hq_; have HB := n0_; clear n0_))
                  have n0_ := Aside0.mk (pb1_ HB.out)
                  clear HB
                  have HB := n0_
                  clear n0_
                  have p334 : 0 ≤ ((ji22) : Int) := of_decide_eq_true (by first | (with_reducible assumption) | assumption)
                  have q334 : (ji22) < (l0.length : Int) := of_decide_eq_true (by first | (with_reducible assumption) | assumption)
                  obtain ⟨ad334, e334, hx334_0⟩ := Kd.at_int HR0.out (ji22) p334 q334
                  have hw334_0 := hx334_0
                  obtain rfl : ad327 = ad334 := (by injection e334)
                  replace hx334_0 := (HB.out.cell (World.block_lt_of_cell? w _ hx334_0)).trans hx334_0
                  replace p334 := eq_true p334
                  replace q334 := eq_true q334
                  have p335 : 0 ≤ ((ji25) : Int) := of_decide_eq_true (by first | (with_reducible assumption) | assumption)
                  have q335 : (ji25) < (l0.length : Int) := of_decide_eq_true (by first | (with_reducible assumption) | assumption)
                  obtain ⟨ad335, e335, hx335_0⟩ := Kd.at_int HR0.out (ji25) p335 q335
                  have hw335_0 := hx335_0
                  obtain rfl : ad327 = ad335 := (by injection e335)
                  replace hx335_0 := (HB.out.cell (World.block_lt_of_cell? w _ hx335_0)).trans hx335_0
                  replace p335 := eq_true p335
                  replace q335 := eq_true q335
                  refine start_ (n := 13) (S := fun w' => w'.cell? (ad327.add ((ji22)).toNat) = some (.int .u8 (rd l0 (ji22))) ∧ w'.cell? (ad327.add ((ji25)).toNat) = some (.int .u8 (rd l0 (ji25)))) (ds := []) #[false, false, false, false, false, false, false, false, false, false, false, false, false] (by kernel_rfl) rfl rfl ⟨((HB.out.cell (World.block_lt_of_cell? w _ hw334_0)).trans hw334_0), ((HB.out.cell (World.block_lt_of_cell? w _ hw335_0)).trans hw335_0)⟩ (fun hHeld => ?_); refine with_tabW pfor_read.tab8 pfor_read.bits8 (fun HT_ HW_ => ?_)
                  generalize wc.drew = w36 at HB hx334_0 hx335_0 hHeld ⊢
                  refine pure_ (i := 0) (N := some 73) (v := ?_) (a' := ?_) #[tT,fF,fF,fF,fF,fF,fF,fF,fF,fF,fF,fF,fF] rfl rfl (any_of HT_.out (by kernel_rfl)) (fun _ _ _ h => h) (Or.inl ⟨by rfl, ?_⟩) ?_ ?_
                  rotate_left
                  ·intro w'
                   go_simp
                   with_reducible rfl
                  rotate_left
                  ·simp only [Act.put, List.setIfInBounds_toArray, List.set_cons_zero, List.set_cons_succ, i64_w, i32_w]
                   rfl
                  refine pure_ (i := 1) (N := some 74) (v := ?_) (a' := ?_) #[tT,tT,fF,fF,fF,fF,fF,fF,fF,fF,fF,fF,fF] rfl rfl (any_of HT_.out (by kernel_rfl)) (fun _ _ _ h => h) (Or.inl ⟨by rfl, ?_⟩) ?_ ?_
                  rotate_left
                  ·intro w'
                   go_simp
                   with_reducible rfl
                  rotate_left
                  ·simp only [Act.put, List.setIfInBounds_toArray, List.set_cons_zero, List.set_cons_succ, i64_w, i32_w]
                   rfl
                  refine pure_ (i := 2) (N := some 75) (v := ?_) (a' := ?_) #[tT,tT,tT,fF,fF,fF,fF,fF,fF,fF,fF,fF,fF] rfl rfl (any_of HT_.out (by kernel_rfl)) (fun _ _ _ h => h) (Or.inl ⟨by rfl, ?_⟩) ?_ ?_
                  rotate_left
                  ·intro w'
                   go_simp
                   with_reducible rfl
                  rotate_left
                  ·simp only [Act.put, List.setIfInBounds_toArray, List.set_cons_zero, List.set_cons_succ, i64_w, i32_w]
                   rfl
                  refine pure_ (i := 5) (N := some 78) (v := ?_) (a' := ?_) #[tT,tT,tT,fF,fF,tT,fF,fF,fF,fF,fF,fF,fF] rfl rfl (any_of HT_.out (by kernel_rfl)) (fun _ _ _ h => h) (Or.inl ⟨by rfl, ?_⟩) ?_ ?_
                  rotate_left
                  ·intro w'
                   go_simp
                   with_reducible rfl
                  rotate_left
                  ·simp only [Act.put, List.setIfInBounds_toArray, List.set_cons_zero, List.set_cons_succ, i64_w, i32_w]
                   rfl
                  refine pure_ (i := 6) (N := some 79) (v := ?_) (a' := ?_) #[tT,tT,tT,fF,fF,tT,tT,fF,fF,fF,fF,fF,fF] rfl rfl (any_of HT_.out (by kernel_rfl)) (fun _ _ _ h => h) (Or.inl ⟨by rfl, ?_⟩) ?_ ?_
                  rotate_left
                  ·intro w'
                   go_simp
                   with_reducible rfl
                  rotate_left
                  ·simp only [Act.put, List.setIfInBounds_toArray, List.set_cons_zero, List.set_cons_succ, i64_w, i32_w]
                   rfl
                  refine pure_ (i := 7) (N := some 80) (v := ?_) (a' := ?_) #[tT,tT,tT,fF,fF,tT,tT,tT,fF,fF,fF,fF,fF] rfl rfl (any_of HT_.out (by kernel_rfl)) (fun _ _ _ h => h) (Or.inl ⟨by rfl, ?_⟩) ?_ ?_
                  rotate_left
                  ·intro w'
                   go_simp
                   with_reducible rfl
                  rotate_left
                  ·simp only [Act.put, List.setIfInBounds_toArray, List.set_cons_zero, List.set_cons_succ, i64_w, i32_w]
                   rfl
                  refine pure_ (i := 8) (N := some 81) (v := ?_) (a' := ?_) #[tT,tT,tT,fF,fF,tT,tT,tT,tT,fF,fF,fF,fF] rfl rfl (any_of HT_.out (by kernel_rfl)) (fun _ _ _ h => h) (Or.inl ⟨by rfl, ?_⟩) ?_ ?_
                  rotate_left
                  ·intro w'
                   go_simp
                   with_reducible rfl
                  rotate_left
                  ·simp only [Act.put, List.setIfInBounds_toArray, List.set_cons_zero, List.set_cons_succ, i64_w, i32_w]
                   rfl
                  refine take_ (i := 3) (N := some 76) (v := ?_) (a' := ?_) #[tT,tT,tT,tT,fF,tT,tT,tT,tT,fF,fF,fF,fF] rfl rfl (take_ofW HT_.out HW_.out (by kernel_rfl)) (fun _ _ _ h => h) (Or.inl ⟨by rfl, ?_⟩) hHeld ?_ ?_
                  rotate_left
                  ·rintro w' ⟨s0, s1⟩
                   go_simp
                   with_reducible rfl
                  rotate_left
                  ·simp only [Act.put, List.setIfInBounds_toArray, List.set_cons_zero, List.set_cons_succ, i64_w, i32_w]
                   rfl
                  refine pure_ (i := 4) (N := some 77) (v := ?_) (a' := ?_) #[tT,tT,tT,tT,tT,tT,tT,tT,tT,fF,fF,fF,fF] rfl rfl (any_of HT_.out (by kernel_rfl)) (fun _ _ _ h => h) (Or.inl ⟨by rfl, ?_⟩) ?_ ?_
                  rotate_left
                  ·intro w'
                   go_simp
                   with_reducible rfl
                  rotate_left
                  ·simp only [Act.put, List.setIfInBounds_toArray, List.set_cons_zero, List.set_cons_succ, i64_w, i32_w]
                   rfl
                  refine pure_ (i := 11) (N := some 10) (v := ?_) (a' := ?_) #[tT,tT,tT,tT,tT,tT,tT,tT,tT,fF,fF,tT,fF] rfl rfl (any_of HT_.out (by kernel_rfl)) (fun _ _ _ h => h) (Or.inl ⟨by rfl, ?_⟩) ?_ ?_
                  rotate_left
                  ·intro w'
                   go_simp
                   with_reducible rfl
                  rotate_left
                  ·simp only [Act.put, List.setIfInBounds_toArray, List.set_cons_zero, List.set_cons_succ, i64_w, i32_w]
                   rfl
                  refine take_ (i := 9) (N := some 82) (v := ?_) (a' := ?_) #[tT,tT,tT,tT,tT,tT,tT,tT,tT,tT,fF,tT,fF] rfl rfl (take_ofW HT_.out HW_.out (by kernel_rfl)) (fun _ _ _ h => h) (Or.inl ⟨by rfl, ?_⟩) hHeld ?_ ?_
                  rotate_left
                  ·rintro w' ⟨s0, s1⟩
                   go_simp
                   with_reducible rfl
                  rotate_left
                  ·simp only [Act.put, List.setIfInBounds_toArray, List.set_cons_zero, List.set_cons_succ, i64_w, i32_w]
                   rfl
                  refine pure_ (i := 10) (N := some 83) (v := ?_) (a' := ?_) #[tT,tT,tT,tT,tT,tT,tT,tT,tT,tT,tT,tT,fF] rfl rfl (any_of HT_.out (by kernel_rfl)) (fun _ _ _ h => h) (Or.inl ⟨by rfl, ?_⟩) ?_ ?_
                  rotate_left
                  ·intro w'
                   go_simp
                   with_reducible rfl
                  rotate_left
                  ·simp only [Act.put, List.setIfInBounds_toArray, List.set_cons_zero, List.set_cons_succ, i64_w, i32_w]
                   rfl
                  refine pure_ (i := 12) (N := some 11) (v := ?_) (a' := ?_) #[tT,tT,tT,tT,tT,tT,tT,tT,tT,tT,tT,tT,tT] rfl rfl (any_of HT_.out (by kernel_rfl)) (fun _ _ _ h => h) (Or.inl ⟨by rfl, ?_⟩) ?_ ?_
                  rotate_left
                  ·intro w'
                   go_simp
                   with_reducible rfl
                  rotate_left
                  ·simp only [Act.put, List.setIfInBounds_toArray, List.set_cons_zero, List.set_cons_succ, i64_w, i32_w]
                   rfl
                  refine done_ (done_of HT_.out (by kernel_rfl)) ?_
                  obtain ⟨i037, hi037, _, hsz37, _⟩ := info_parts info5
                  obtain ⟨A37, hcut37, hA37, hC37⟩ := print_mid_of (P := Try.prog) (Value.int .u8) 0 22 5 .i64 .i64 Try.underlying22 hi037 hsz37 (some ad327) c0 l0 (ji30) (wrap64 ((ji30) + (wrap64 (Int.tdiv (wrap64 ((wrap64 ((wrap64 (rd l0 0)) * (wrap64 (rd l0 (ji22))))) + 7)) 8)))) (of_decide_eq_true (by first | (with_reducible assumption) | assumption)) (by first | omega | exact of_decide_eq_true (by first | (with_reducible assumption) | assumption)) (of_decide_eq_true (by first | (with_reducible assumption) | assumption)) HC0.out
                  have HR336 := Aside0.mk (Kd.C_of_reads (h1 := fun _ => rfl) (hA37 _ (Kd.reads_of_C HR0.out)))
                  have HC336 := Aside0.mk hC37
                  clear hA37 hC37 hi037 hsz37
                  try go_wp2_with (first | ((with_reducible refine gaC_ (f := 54) rfl ?_); refine goesL_ (some 104) rfl rfl Try.func54 (by kernel_rfl) rfl #[.slice A37 ((l0.take ((wrap64 ((ji30) + (wrap64 (Int.tdiv (wrap64 ((wrap64 ((wrap64 (rd l0 0)) * (wrap64 (rd l0 (ji22))))) + 7)) 8)))) : Int).toNat).drop ((ji30) : Int).toNat).length (c0 - (ji30).toNat), .int .i64 (wrap64 (rd l0 0)), .int .i64 (wrap64 (rd l0 (ji22)))] rfl (by (try simp only [List.map_toArray, List.map_cons, List.map_nil]); first | done | (rw [show ((l0.take ((wrap64 ((ji30) + (wrap64 (Int.tdiv (wrap64 ((wrap64 ((wrap64 (rd l0 0)) * (wrap64 (rd l0 (ji22))))) + 7)) 8)))) : Int).toNat).drop ((ji30) : Int).toNat).length = ((wrap64 ((ji30) + (wrap64 (Int.tdiv (wrap64 ((wrap64 ((wrap64 (rd l0 0)) * (wrap64 (rd l0 (ji22))))) + 7)) 8)))).toNat - (ji30).toNat) from (by rw [List.length_drop, List.length_take]; have h_ : ((wrap64 ((ji30) + (wrap64 (Int.tdiv (wrap64 ((wrap64 ((wrap64 (rd l0 0)) * (wrap64 (rd l0 (ji22))))) + 7)) 8)))) : Int) ≤ (l0.length : Int) := of_decide_eq_true (by first | (with_reducible assumption) | assumption); omega)] <;> rfl) | (simp only [hji22, hji30]; rfl) | rfl | (simp only [List.length_drop, List.length_take]; rfl)) ?_; (with_reducible refine (bits_Unpack.calls kj9 _ _ ((l0.take ((wrap64 ((ji30) + (wrap64 (Int.tdiv (wrap64 ((wrap64 ((wrap64 (rd l0 0)) * (wrap64 (rd l0 (ji22))))) + 7)) 8)))) : Int).toNat).drop ((ji30) : Int).toNat) (wrap64 (rd l0 0)) (wrap64 (rd l0 (ji22))) t337 t338 _ ?side1 ?side2 A34.out).mono ?_); (case side1 => repeat (first | exact (Kd.C_below HR336.out HB.out) | (with_reducible refine Kd.cA_ ?_ _) | (with_reducible refine Kd.cN_ ?_ _) | (with_reducible refine Kd.cD_ ?_))); (case side2 => exact HC336.out); rintro e w38 ⟨v339, rfl, ho0, hb⟩; refine ⟨_, rfl, ?_⟩; have n0_ := Aside0.mk (Kd.R_lower ho0 (pbS_ (by repeat (first | (with_reducible first | exact HB.out | apply pbA_ | apply pbN_ | apply pb1_) | exact HB.out)))); have n1_ := Aside0.mk (below_step (by repeat (first | (with_reducible first | exact HB.out | apply pbA_ | apply pbN_ | apply pb1_) | exact HB.out)) hb); clear HB; have HO340 := n0_; have HB := n1_; clear n0_ n1_; (try clear hb); (try clear hb2); (try clear hk); (try clear hi); (try clear ho0)))
                  go_loopg [9, 11] kj9 (fun kq v9 v11 w' => ∃ (x9_3 : Int) (x11_3 : Int) (x13_3 : List Int), v9 = .int .i64 x9_3 ∧ v11 = .int .i64 x11_3 ∧ Aside0 (pfor_read.l0 kq l0 (wrap64 (rd l0 0)) t329 x9_3 (wrap64 (rd l0 (ji22))) x11_3 x13_3 = some (r1, r2, r3)) ∧ Aside0 (kq ≤ kj9) ∧ Aside0 (Kd.R (Kd.int .u64) 50 w' w.heap.size (fun _ => True) v339 x13_3) ∧ Aside0 (Below w.heap.size w w'))
                  case atStart => exact ⟨(wrap64 ((ji30) + (wrap64 (Int.tdiv (wrap64 ((wrap64 ((wrap64 (rd l0 0)) * (wrap64 (rd l0 (ji22))))) + 7)) 8)))), (wrap64 (rd l0 (ji25))), (t337), (by first | rfl | (simp; done) | (simp only [← hji22, ← hji30] <;> (first | rfl | simp)) | (simp [*]; done)), (by first | rfl | (simp; done) | (simp only [← hji25] <;> (first | rfl | simp)) | (simp [*]; done)), H', ⟨Nat.le_refl _⟩, ⟨by (with_reducible repeat (first | apply Kd.rA_ | apply Kd.rN_ | apply Kd.rD_)); exact HO340.out⟩, ⟨by repeat (first | (with_reducible first | exact HB.out | apply pbA_ | apply pbN_ | apply pb1_) | exact HB.out)⟩⟩
                  case round =>
                   clear H'
                   try clear c1
                   try clear c2
                   try clear p2
                   try clear c3
                   try clear c3b0
                   try clear c3b1
                   try clear p3
                   try clear q3
                   try clear hx3
                   try clear qi3
                   try clear c4
                   try clear c4b0
                   try clear c4b1
                   try clear c5
                   try clear c5b0
                   try clear c6
                   try clear p6
                   try clear c7
                   try clear c7b0
                   try clear c7b1
                   try clear c8
                   try clear c8b0
                   try clear c8b1
                   try clear c12
                   try clear c12b0
                   try clear c12b1
                   try clear c13
                   try clear c13b0
                   try clear c15
                   try clear c15b0
                   try clear c16
                   try clear c16b0
                   try clear c17
                   try clear c17b0
                   try clear c19
                   try clear c19b0
                   try clear c20
                   try clear c20b0
                   try clear c21
                   try clear c23
                   try clear c23b0
                   try clear c24
                   try clear c24b0
                   try clear c26
                   try clear c26b0
                   try clear c27
                   try clear c27b0
                   try clear c28
                   try clear c28b0
                   try clear c31
                   try clear c31b0
                   try clear c31b1
                   try clear c32
                   try clear c32b0
                   try clear c32b1
                   try clear p32
                   try clear q32
                   try clear hx32
                   try clear qi32
                   try clear c33
                   try clear c33b0
                   try clear c33b1
                   try clear p33
                   try clear q33
                   try clear hx33
                   try clear c35
                   try clear c35b0
                   try clear c35b1
                   try clear hx325_0
                   try clear hx326_0
                   try clear hx327_0
                   try clear hx332_0
                   try clear hx333_0
                   try clear hx334_0
                   try clear hx335_0
                   try clear p2
                   try clear p3
                   try clear p325
                   try clear p326
                   try clear p327
                   try clear p332
                   try clear p333
                   try clear p334
                   try clear p335
                   try clear p6
                   try clear q3
                   try clear q325
                   try clear q326
                   try clear q327
                   try clear q332
                   try clear q333
                   try clear q334
                   try clear q335
                   obtain ⟨x9_3, x11_3, x13_3, rfl, rfl, HA, HK3, HO_13, HB⟩ := hrel
                   cases gk with
                   | zero => exact absurd HA.out (by simp [pfor_read.l0])
                   | succ k3 =>
                    have H := HA.out
                    clear HA
                    simp only [pfor_read.l0] at H
                    by_cases c39 : x11_3 > 0
                    ·rw [if_pos c39] at H
                     have c39b0 : decide (0 < x11_3) = true := decide_eq_true c39
                     clear c39
                     have HC40 := Aside0.mk H
                     clear H
                     go_upto_region 19 with (fail)
                     go_cut [130] (fun v130 wc => ∃ (kq : Nat) (x130_39 : Bool), v130 = .bool x130_39 ∧ Aside0 (pfor_read.j3 kq l0 (wrap64 (rd l0 0)) t329 x9_3 (wrap64 (rd l0 (ji22))) x11_3 x13_3 x130_39 = some (r1, r2, r3)) ∧ Aside0 (kq ≤ k3) ∧ Aside0 (Kd.R (Kd.int .u64) 50 wc w.heap.size (fun _ => True) v339 x13_3) ∧ Aside0 (Below w.heap.size w wc))
                     case first =>
                      have H := HC40.out
                      clear HC40
                      by_cases c41 : x9_3 ≥ (l0.length : Int)
                      ·rw [if_pos c41] at H
                       have c41b0 : decide ((l0.length : Int) ≤ x9_3) = true := decide_eq_true c41
                       clear c41
                       (first | rw [c41b0] | (simp only [i64_w, i32_w]; rw [c41b0]) | skip)
                       have H' := Aside0.mk H
                       clear H
                       go_wp2
                       go_meet
                       case rel => exact ⟨_, (true), (by first | rfl | (simp; done) | (simp [*]; done)), H', ⟨by have := HJ1.out; have := HJ9.out; have := HK3.out; first | omega | exact Nat.le_refl _⟩, ⟨by (with_reducible repeat (first | apply Kd.rA_ | apply Kd.rN_ | apply Kd.rD_)); exact HO_13.out⟩, ⟨by repeat (first | (with_reducible first | exact HB.out | apply pbA_ | apply pbN_ | apply pb1_) | exact HB.out)⟩⟩
                      ·rw [if_neg c41] at H
                       have c41b0 : decide ((l0.length : Int) ≤ x9_3) = false := decide_eq_false c41
                       clear c41
                       (first | rw [c41b0] | (simp only [i64_w, i32_w]; rw [c41b0]) | skip)
                       by_cases c42 : 0 ≤ x9_3
                       ·rw [if_pos c42] at H
                        have c42b0 : decide (0 ≤ x9_3) = true := decide_eq_true c42
                        clear c42
                        by_cases c43 : x9_3 < (l0.length : Int)
                        ·rw [if_pos c43] at H
                         have c43b0 : decide (x9_3 < (l0.length : Int)) = true := decide_eq_true c43
                         clear c43
                         by_cases c44 : (wrap64 (rd l0 x9_3)) ≥ (wrap64 (rd l0 0))
                         ·rw [if_pos c44] at H
                          have c44b0 : decide ((wrap64 (rd l0 0)) ≤ (wrap64 (rd l0 x9_3))) = true := decide_eq_true c44
                          clear c44
                          have H' := Aside0.mk H
                          clear H
                          have p341 : 0 ≤ (x9_3 : Int) := of_decide_eq_true (by first | (with_reducible assumption) | assumption)
                          have q341 : x9_3 < (l0.length : Int) := of_decide_eq_true (by first | (with_reducible assumption) | assumption)
                          obtain ⟨ad341, e341, hx341_0⟩ := Kd.at_int HR0.out x9_3 p341 q341
                          obtain rfl : ad327 = ad341 := (by injection e341)
                          replace hx341_0 := (HB.out.cell (World.block_lt_of_cell? w _ hx341_0)).trans hx341_0
                          replace p341 := eq_true p341
                          replace q341 := eq_true q341
                          go_wp2
                          go_meet
                          case rel => exact ⟨_, (true), (by first | rfl | (simp; done) | (simp [*]; done)), H', ⟨by have := HJ1.out; have := HJ9.out; have := HK3.out; first | omega | exact Nat.le_refl _⟩, ⟨by (with_reducible repeat (first | apply Kd.rA_ | apply Kd.rN_ | apply Kd.rD_)); exact HO_13.out⟩, ⟨by repeat (first | (with_reducible first | exact HB.out | apply pbA_ | apply pbN_ | apply pb1_) | exact HB.out)⟩⟩
                         ·rw [if_neg c44] at H
                          have c44b0 : decide ((wrap64 (rd l0 0)) ≤ (wrap64 (rd l0 x9_3))) = false := decide_eq_false c44
                          clear c44
                          have H' := Aside0.mk H
                          clear H
                          have p341 : 0 ≤ (x9_3 : Int) := of_decide_eq_true (by first | (with_reducible assumption) | assumption)
                          have q341 : x9_3 < (l0.length : Int) := of_decide_eq_true (by first | (with_reducible assumption) | assumption)
                          obtain ⟨ad341, e341, hx341_0⟩ := Kd.at_int HR0.out x9_3 p341 q341
                          obtain rfl : ad327 = ad341 := (by injection e341)
                          replace hx341_0 := (HB.out.cell (World.block_lt_of_cell? w _ hx341_0)).trans hx341_0
                          replace p341 := eq_true p341
                          replace q341 := eq_true q341
                          go_wp2
                          go_meet
                          case rel => exact ⟨_, (((wrap64 (rd l0 (ji22))) == 64)), (by first | rfl | (simp; done) | (simp only [← hji22] <;> (first | rfl | simp)) | (simp [*]; done)), H', ⟨by have := HJ1.out; have := HJ9.out; have := HK3.out; first | omega | exact Nat.le_refl _⟩, ⟨by (with_reducible repeat (first | apply Kd.rA_ | apply Kd.rN_ | apply Kd.rD_)); exact HO_13.out⟩, ⟨by repeat (first | (with_reducible first | exact HB.out | apply pbA_ | apply pbN_ | apply pb1_) | exact HB.out)⟩⟩
                        ·rw [if_neg c43] at H
                         exact absurd H (by simp)
                       ·rw [if_neg c42] at H
                        exact absurd H (by simp)
                     case rest =>
                      clear HC40
                      try clear c1
                      try clear c2
                      try clear p2
                      try clear c3
                      try clear c3b0
                      try clear c3b1
                      try clear p3
                      try clear q3
                      try clear hx3
                      try clear qi3
                      try clear c4
                      try clear c4b0
                      try clear c4b1
                      try clear c5
                      try clear c5b0
                      try clear c6
                      try clear p6
                      try clear c7
                      try clear c7b0
                      try clear c7b1
                      try clear c8
                      try clear c8b0
                      try clear c8b1
                      try clear c12
                      try clear c12b0
                      try clear c12b1
                      try clear c13
                      try clear c13b0
                      try clear c15
                      try clear c15b0
                      try clear c16
                      try clear c16b0
                      try clear c17
                      try clear c17b0
                      try clear c19
                      try clear c19b0
                      try clear c20
                      try clear c20b0
                      try clear c21
                      try clear c23
                      try clear c23b0
                      try clear c24
                      try clear c24b0
                      try clear c26
                      try clear c26b0
                      try clear c27
                      try clear c27b0
                      try clear c28
                      try clear c28b0
                      try clear c31
                      try clear c31b0
                      try clear c31b1
                      try clear c32
                      try clear c32b0
                      try clear c32b1
                      try clear p32
                      try clear q32
                      try clear hx32
                      try clear qi32
                      try clear c33
                      try clear c33b0
                      try clear c33b1
                      try clear p33
                      try clear q33
                      try clear hx33
                      try clear p34
                      try clear q34
                      try clear hx34
                      try clear c35
                      try clear c35b0
                      try clear c35b1
                      try clear c39
                      try clear c39b0
                      try clear c41
                      try clear c41b0
                      try clear c42
                      try clear c42b0
                      try clear c43
                      try clear c43b0
                      try clear c44
                      try clear c44b0
                      try clear hx325_0
                      try clear hx326_0
                      try clear hx327_0
                      try clear hx332_0
                      try clear hx333_0
                      try clear hx334_0
                      try clear hx335_0
                      try clear hx341_0
                      try clear p2
                      try clear p3
                      try clear p32
                      try clear p325
                      try clear p326
                      try clear p327
                      try clear p33
                      try clear p332
                      try clear p333
                      try clear p334
                      try clear p335
                      try clear p341
                      try clear p6
                      try clear q3
                      try clear q32
                      try clear q325
                      try clear q326
                      try clear q327
                      try clear q33
                      try clear q332
                      try clear q333
                      try clear q334
                      try clear q335
                      try clear q341
                      obtain ⟨kq, x130_39, rfl, HA, HJ39, HO_13, HB⟩ := hcut
                      cases kq with
                      | zero => exact absurd HA.out (by simp [pfor_read.j3])
                      | succ kj39 =>
                       have H := HA.out
                       clear HA
                       simp only [pfor_read.j3] at H
                       by_cases c45 : x130_39 = true
                       ·subst c45
                        have H1 : (some (([] : List Int), 0, false)) = some (r1, r2, r3) := by rw [if_pos rfl] at H; exact H
                        clear H
                        have H := H1
                        clear H1
                        simp only [Option.some.injEq, Prod.mk.injEq] at H
                        obtain ⟨rfl, rfl, rfl⟩ := H
                        go_wp2
                        go_ret3
                        exact ⟨_, by first | rfl | (simp [eWn_, eWs_] <;> rfl) | (simp only [← hji22, ← hji25, ← hji30]; first | rfl | (simp [eWn_, eWs_] <;> rfl)) | (simp [*, eWn_, eWs_] <;> rfl), by first | exact Kd.R_nil _ _ _ _ _ | exact Kd.N_nil _ _ _ _ _ | exact Kd.V_nil _ _ _ _ _ | exact Kd.Q_nil _ _ _ _ _ | exact Kd.S_nil _ _ _ _ _, by repeat (first | (with_reducible first | exact HB.out | apply pbA_ | apply pbN_ | apply pb1_) | exact HB.out)⟩
                       ·replace c45 := Bool.eq_false_iff.mpr c45
                        subst c45
                        have H1 : (if 0 ≤ x9_3 then (if x9_3 < (l0.length : Int) then (if 0 ≤ (wrap64 (x9_3 + 1)) then (if (wrap64 (x9_3 + 1)) ≤ (l0.length : Int) then ((num_Take.f kj39 (l0.drop ((wrap64 (x9_3 + 1)) : Int).toNat)).bind fun bt344 => (if bt344.2.2 = 0 then (if 0 ≤ (wrap64 (rd l0 x9_3)) then (if (wrap64 (rd l0 x9_3)) < (x13_3.length : Int) then (if 0 ≤ (wrap64 (rd l0 (ji22))) then (pfor_read.l0 kj39 l0 (wrap64 (rd l0 0)) t329 (wrap64 (x9_3 + (wrap64 (1 + bt344.2.1)))) (wrap64 (rd l0 (ji22))) (wrap64 (x11_3 - 1)) (x13_3.set ((wrap64 (rd l0 x9_3)) : Int).toNat (IntKind.u64.wrap ((rd x13_3 (wrap64 (rd l0 x9_3))) + (shl .u64 bt344.1 (wrap64 (rd l0 (ji22)))))))) else (none)) else (none)) else (none)) else (some (([] : List Int), 0, false)))) else (none)) else (none)) else (none)) else (none)) = some (r1, r2, r3) := by rw [if_neg (show ¬ (false = true) by decide)] at H; exact H
                        clear H
                        have H := H1
                        clear H1
                        by_cases c46 : 0 ≤ x9_3
                        ·rw [if_pos c46] at H
                         have c46b0 : decide (0 ≤ x9_3) = true := decide_eq_true c46
                         clear c46
                         by_cases c47 : x9_3 < (l0.length : Int)
                         ·rw [if_pos c47] at H
                          have c47b0 : decide (x9_3 < (l0.length : Int)) = true := decide_eq_true c47
                          clear c47
                          obtain ⟨ji48, hji48⟩ : ∃ j_ : Int, (wrap64 (x9_3 + 1)) = j_ := ⟨_, rfl⟩
                          replace H : (if 0 ≤ (ji48) then (if (ji48) ≤ (l0.length : Int) then ((num_Take.f kj39 (l0.drop ((ji48) : Int).toNat)).bind fun bt344 => (if bt344.2.2 = 0 then (if 0 ≤ (wrap64 (rd l0 x9_3)) then (if (wrap64 (rd l0 x9_3)) < (x13_3.length : Int) then (if 0 ≤ (wrap64 (rd l0 (ji22))) then (pfor_read.l0 kj39 l0 (wrap64 (rd l0 0)) t329 (wrap64 (x9_3 + (wrap64 (1 + bt344.2.1)))) (wrap64 (rd l0 (ji22))) (wrap64 (x11_3 - 1)) (x13_3.set ((wrap64 (rd l0 x9_3)) : Int).toNat (IntKind.u64.wrap ((rd x13_3 (wrap64 (rd l0 x9_3))) + (shl .u64 bt344.1 (wrap64 (rd l0 (ji22)))))))) else (none)) else (none)) else (none)) else (some (([] : List Int), 0, false)))) else (none)) else (none)) = some (r1, r2, r3) := by first | (rw [hji48] at H; exact H) | (simp only [hji48] at H ⊢; exact H)
                          have hji48w : (IntKind.i64.wrap (x9_3 + 1)) = ji48 := (i64_w _).trans hji48
                          by_cases c49 : 0 ≤ (ji48)
                          ·rw [if_pos c49] at H
                           have c49b0 := eq_true c49
                           have c49b1 : decide (0 ≤ (ji48)) = true := decide_eq_true c49
                           clear c49
                           by_cases c50 : (ji48) ≤ (l0.length : Int)
                           ·rw [if_pos c50] at H
                            have c50b0 := eq_true c50
                            have c50b1 : decide ((ji48) ≤ (l0.length : Int)) = true := decide_eq_true c50
                            clear c50
                            replace H := Option.bind_eq_some_iff.mp H
                            obtain ⟨⟨t344, t345, t346⟩, A510, H⟩ := H
                            replace H : (if t346 = 0 then (if 0 ≤ (wrap64 (rd l0 x9_3)) then (if (wrap64 (rd l0 x9_3)) < (x13_3.length : Int) then (if 0 ≤ (wrap64 (rd l0 (ji22))) then (pfor_read.l0 kj39 l0 (wrap64 (rd l0 0)) t329 (wrap64 (x9_3 + (wrap64 (1 + t345)))) (wrap64 (rd l0 (ji22))) (wrap64 (x11_3 - 1)) (x13_3.set ((wrap64 (rd l0 x9_3)) : Int).toNat (IntKind.u64.wrap ((rd x13_3 (wrap64 (rd l0 x9_3))) + (shl .u64 t344 (wrap64 (rd l0 (ji22)))))))) else (none)) else (none)) else (none)) else (some (([] : List Int), 0, false))) = some (r1, r2, r3) := H
                            have A51 := Aside0.mk A510
                            clear A510
                            by_cases c52 : t346 = 0
                            ·rw [if_pos c52] at H
                             have c52b0 : (t346 == 0) = true := beq_iff_eq.mpr c52
                             have c52b1 : (t346 != 0) = false := bne_eq_false_iff_eq.mpr c52
                             clear c52
                             obtain ⟨ji53, hji53⟩ : ∃ j_ : Int, (wrap64 (rd l0 x9_3)) = j_ := ⟨_, rfl⟩
                             replace H : (if 0 ≤ (ji53) then (if (ji53) < (x13_3.length : Int) then (if 0 ≤ (wrap64 (rd l0 (ji22))) then (pfor_read.l0 kj39 l0 (wrap64 (rd l0 0)) t329 (wrap64 (x9_3 + (wrap64 (1 + t345)))) (wrap64 (rd l0 (ji22))) (wrap64 (x11_3 - 1)) (x13_3.set ((ji53) : Int).toNat (IntKind.u64.wrap ((rd x13_3 (ji53)) + (shl .u64 t344 (wrap64 (rd l0 (ji22)))))))) else (none)) else (none)) else (none)) = some (r1, r2, r3) := by first | (rw [hji53] at H; exact H) | (simp only [hji53] at H ⊢; exact H)
                             (try rw [hji53] at A51)
                             have hji53w : (IntKind.i64.wrap (rd l0 x9_3)) = ji53 := (i64_w _).trans hji53
                             by_cases c54 : 0 ≤ (ji53)
                             ·rw [if_pos c54] at H
                              have c54b0 : decide (0 ≤ (ji53)) = true := decide_eq_true c54
                              clear c54
                              by_cases c55 : (ji53) < (x13_3.length : Int)
                              ·rw [if_pos c55] at H
                               have c55b0 : decide ((ji53) < (x13_3.length : Int)) = true := decide_eq_true c55
                               clear c55
                               obtain ⟨ji56, hji56⟩ : ∃ j_ : Int, (wrap64 (rd l0 (ji22))) = j_ := ⟨_, rfl⟩
                               replace H : (if 0 ≤ (ji56) then (pfor_read.l0 kj39 l0 (wrap64 (rd l0 0)) t329 (wrap64 (x9_3 + (wrap64 (1 + t345)))) (ji56) (wrap64 (x11_3 - 1)) (x13_3.set ((ji53) : Int).toNat (IntKind.u64.wrap ((rd x13_3 (ji53)) + (shl .u64 t344 (ji56)))))) else (none)) = some (r1, r2, r3) := by first | (rw [hji56] at H; exact H) | (simp only [hji56] at H ⊢; exact H)
                               (try rw [hji56] at c28b0)
                               (try rw [hji56] at c32b0)
                               (try rw [hji56] at c32b1)
                               (try rw [hji56] at c32)
                               (try rw [hji56] at c33b0)
                               (try rw [hji56] at c33b1)
                               (try rw [hji56] at c33)
                               (try rw [hji56] at A51)
                               have hji56w : (IntKind.i64.wrap (rd l0 (ji22))) = ji56 := (i64_w _).trans hji56
                               by_cases c57 : 0 ≤ (ji56)
                               ·rw [if_pos c57] at H
                                have c57b0 := eq_true c57
                                have c57b1 : decide (0 ≤ (ji56)) = true := decide_eq_true c57
                                clear c57
                                obtain ⟨ji58, hji58⟩ : ∃ j_ : Int, (shl .u64 t344 (ji56)) = j_ := ⟨_, rfl⟩
                                replace H : (pfor_read.l0 kj39 l0 (wrap64 (rd l0 0)) t329 (wrap64 (x9_3 + (wrap64 (1 + t345)))) (ji56) (wrap64 (x11_3 - 1)) (x13_3.set ((ji53) : Int).toNat (IntKind.u64.wrap ((rd x13_3 (ji53)) + (ji58))))) = some (r1, r2, r3) := by first | (rw [hji58] at H; exact H) | (simp only [hji58] at H ⊢; exact H)
                                (try rw [hji58] at A51)
                                have hji58_ : (IntKind.u64.wrap (t344 * 2 ^ min (ji56).toNat 64)) = ji58 := hji58
                                have hji58z : (ji56) ≤ 64 → (IntKind.u64.wrap (t344 * 2 ^ (ji56).toNat)) = ji58 := shl_small hji58
                                obtain ⟨y348, hy348⟩ : ∃ y_ : List Int, y_ = (x13_3.set ((ji53) : Int).toNat (IntKind.u64.wrap ((rd x13_3 (ji53)) + (ji58)))) := ⟨_, rfl⟩
                                replace H : (pfor_read.l0 kj39 l0 (wrap64 (rd l0 0)) t329 (wrap64 (x9_3 + (wrap64 (1 + t345)))) (ji56) (wrap64 (x11_3 - 1)) y348) = some (r1, r2, r3) := by first | (rw [hy348]; with_reducible exact H) | (have H2_ := (Option.bind_some _ _).symm.trans H; rw [hy348]; with_reducible exact H2_) | (have H2_ := (Option.bind_some _ _).symm.trans H; with_reducible exact H2_) | with_reducible exact H | (rw [hy348]; exact H) | exact H
                                have Ny348 := Aside0.mk hy348
                                clear hy348
                                have H' := Aside0.mk H
                                clear H
                                have p342 : 0 ≤ (x9_3 : Int) := of_decide_eq_true (by first | (with_reducible assumption) | assumption)
                                have q342 : x9_3 < (l0.length : Int) := of_decide_eq_true (by first | (with_reducible assumption) | assumption)
                                obtain ⟨ad342, e342, hx342_0⟩ := Kd.at_int HR0.out x9_3 p342 q342
                                obtain rfl : ad327 = ad342 := (by injection e342)
                                replace hx342_0 := (HB.out.cell (World.block_lt_of_cell? w _ hx342_0)).trans hx342_0
                                replace p342 := eq_true p342
                                replace q342 := eq_true q342
                                obtain ⟨i060, hi060, _, hsz60, _⟩ := info_parts info5
                                obtain ⟨A60, hcut60, hA60, hC60⟩ := print_drop_of (P := Try.prog) (Value.int .u8) 0 22 5 .i64 Try.underlying22 hi060 hsz60 (some ad327) c0 l0 (ji48) (of_decide_eq_true (by first | (with_reducible assumption) | assumption)) (of_decide_eq_true (by first | (with_reducible assumption) | assumption)) HC0.out
                                have HR343 := Aside0.mk (Kd.C_of_reads (h1 := fun _ => rfl) (hA60 _ (Kd.reads_of_C HR0.out)))
                                have HC343 := Aside0.mk hC60
                                clear hA60 hC60 hi060 hsz60
                                try go_wp2_with (first | ((with_reducible refine gaC_ (f := 44) rfl ?_); refine goesL_ (some 141) rfl rfl Try.func44 (by kernel_rfl) rfl #[.slice A60 (l0.drop ((ji48) : Int).toNat).length (c0 - (ji48).toNat)] rfl (by (try simp only [List.map_toArray, List.map_cons, List.map_nil]); first | done | (rw [show (l0.drop ((ji48) : Int).toNat).length = (l0.length - (ji48).toNat) from List.length_drop] <;> rfl) | (simp only [hji48]; rfl) | rfl | (simp only [List.length_drop, List.length_take]; rfl)) ?_; (with_reducible refine (num_Take.calls kj39 _ _ (l0.drop ((ji48) : Int).toNat) t344 t345 t346 _ ?side1 ?side2 A51.out).mono ?_); (case side1 => repeat (first | exact (Kd.C_below HR343.out HB.out) | (with_reducible refine Kd.cA_ ?_ _) | (with_reducible refine Kd.cN_ ?_ _) | (with_reducible refine Kd.cD_ ?_))); (case side2 => exact HC343.out); rintro e w' ⟨rfl, ⟨nd, rfl⟩⟩; refine ⟨_, rfl, ?_⟩; (try (rw [drewN_self wc]; generalize hq_ : World.drewN wc _ = wc; have n0_ : Aside0 (Kd.R (Kd.int .u64) 50 wc w.heap.size (fun _ => True) v339 x13_3) := ⟨by rw [← hq_]; exact (by (with_reducible repeat (first | apply Kd.rA_ | apply Kd.rN_ | apply Kd.rD_)); exact HO_13.out)⟩; have n1_ : Aside0 (Below w.heap.size w wc) := ⟨by rw [← hq_]; exact (by repeat (first | (with_reducible first | exact HB.out | apply pbA_ | apply pbN_ | apply pb1_) | exact HB.out))⟩; clear HO_13 HB hq_; have HO_13 := n0_; have HB := n1_; clear n0_ n1_))))
                                (try (rw [drewN_self wc]; generalize hq_ : World.drewN wc _ = wc; have n0_ : Aside0 (Kd.R (Kd.int .u64) 50 wc w.heap.size (fun _ => True) v339 x13_3) := ⟨by rw [← hq_]; exact (by (with_reducible repeat (first | apply Kd.rA_ | apply Kd.rN_ | apply Kd.rD_)); exact HO_13.out)⟩; have n1_ : Aside0 (Below w.heap.size w wc) := ⟨by rw [← hq_]; exact (by repeat (first | (with_reducible first | exact HB.out | apply pbA_ | apply pbN_ | apply pb1_) | exact HB.out))⟩; clear HO_13 HB hq_; have HO_13 := n0_; have HB := n1_; clear n0_ n1_))
                                have n0_ := Aside0.mk (Kd.rD_ HO_13.out)
                                have n1_ := Aside0.mk (pb1_ HB.out)
                                clear HO_13
                                clear HB
                                have HO_13 := n0_
                                have HB := n1_
                                clear n0_ n1_
                                obtain ⟨Ao62, co62, eo62⟩ := Kd.R_slice HO_13.out
                                (first | subst eo62 | (injection eo62 with f1_ f2_ f3_; have f4_ := f1_.symm; have f5_ := f3_.symm; clear f1_ f2_ f3_; subst f4_; subst f5_))
                                have p347 : 0 ≤ ((ji53) : Int) := of_decide_eq_true (by first | (with_reducible assumption) | assumption)
                                have q347 : (ji53) < (x13_3.length : Int) := of_decide_eq_true (by first | (with_reducible assumption) | assumption)
                                obtain ⟨ad347, e347, hx347_0⟩ := Kd.at_int (Kd.R_reads' HO_13.out).2.2 (ji53) p347 q347
                                cases e347
                                replace p347 := eq_true p347
                                replace q347 := eq_true q347
                                have p59 : 0 ≤ ((ji53) : Int) := of_decide_eq_true (by first | (with_reducible assumption) | assumption)
                                have q59 : ((ji53) : Int) < ((x13_3.length : Int) : Int) := of_decide_eq_true (by first | (with_reducible assumption) | assumption)
                                obtain ⟨go59, co59, eo59, gb59, gl59, cl59, HG59⟩ := Kd.R_form HO_13.out (by omega)
                                (first | cases eo59 | (injection eo59 with ea_ en_ ec_; (first | subst ea_ | (injection ea_ with ea_; subst ea_)); subst ec_; clear en_))
                                have GB59 := Aside0.mk gb59
                                have GG59 := Aside0.mk HG59
                                clear gb59 gl59 HG59
                                (first | simp only [add_plain] at hx347_0 | skip)
                                obtain ⟨hx59_0, hf59_0⟩ := Kd.R_celln 0 HO_13.out ((ji53) : Int) p59 q59
                                replace p59 := eq_true p59
                                replace q59 := eq_true q59
                                have HP63 := Kd.R_putn HO_13.out ((ji53) : Int) (IntKind.u64.wrap ((rd x13_3 (ji53)) + (ji58)))
                                rw [← Ny348.out] at HP63
                                have HQ63 := Aside0.mk HP63
                                clear HP63
                                refine start_ (n := 10) (S := fun w' => w'.cell? ⟨go59, ((ji53)).toNat, none⟩ = some (.int .u64 (rd x13_3 (ji53)))) (ds := [9]) #[false, false, false, false, false, false, false, false, false, false] (by kernel_rfl) rfl rfl (hx347_0) (fun hHeld => ?_); refine with_tabW pfor_read.tab25 pfor_read.bits25 (fun HT_ HW_ => ?_)
                                generalize wc.drew = w61 at HO_13 HB GG59 HQ63 hf59_0 hx347_0 hx59_0 hHeld ⊢
                                refine pure_ (i := 0) (N := some 147) (v := ?_) (a' := ?_) #[tT,fF,fF,fF,fF,fF,fF,fF,fF,fF] rfl rfl (any_of HT_.out (by kernel_rfl)) (fun _ _ _ h => h) (Or.inl ⟨by rfl, ?_⟩) ?_ ?_
                                rotate_left
                                ·intro w'
                                 go_simp
                                 with_reducible rfl
                                rotate_left
                                ·simp only [Act.put, List.setIfInBounds_toArray, List.set_cons_zero, List.set_cons_succ, i64_w, i32_w]
                                 rfl
                                refine pure_ (i := 1) (N := some 148) (v := ?_) (a' := ?_) #[tT,tT,fF,fF,fF,fF,fF,fF,fF,fF] rfl rfl (any_of HT_.out (by kernel_rfl)) (fun _ _ _ h => h) (Or.inl ⟨by rfl, ?_⟩) ?_ ?_
                                rotate_left
                                ·intro w'
                                 go_simp
                                 with_reducible rfl
                                rotate_left
                                ·simp only [Act.put, List.setIfInBounds_toArray, List.set_cons_zero, List.set_cons_succ, i64_w, i32_w]
                                 rfl
                                refine pure_ (i := 2) (N := some 149) (v := ?_) (a' := ?_) #[tT,tT,tT,fF,fF,fF,fF,fF,fF,fF] rfl rfl (any_of HT_.out (by kernel_rfl)) (fun _ _ _ h => h) (Or.inl ⟨by rfl, ?_⟩) ?_ ?_
                                rotate_left
                                ·intro w'
                                 go_simp
                                 with_reducible rfl
                                rotate_left
                                ·simp only [Act.put, List.setIfInBounds_toArray, List.set_cons_zero, List.set_cons_succ, i64_w, i32_w]
                                 rfl
                                refine pure_ (i := 4) (N := some 151) (v := ?_) (a' := ?_) #[tT,tT,tT,fF,tT,fF,fF,fF,fF,fF] rfl rfl (any_of HT_.out (by kernel_rfl)) (fun _ _ _ h => h) (Or.inl ⟨by rfl, ?_⟩) ?_ ?_
                                rotate_left
                                ·intro w'
                                 go_simp
                                 with_reducible rfl
                                rotate_left
                                ·simp only [Act.put, List.setIfInBounds_toArray, List.set_cons_zero, List.set_cons_succ, i64_w, i32_w]
                                 rfl
                                refine pure_ (i := 5) (N := some 152) (v := ?_) (a' := ?_) #[tT,tT,tT,fF,tT,tT,fF,fF,fF,fF] rfl rfl (any_of HT_.out (by kernel_rfl)) (fun _ _ _ h => h) (Or.inl ⟨by rfl, ?_⟩) ?_ ?_
                                rotate_left
                                ·intro w'
                                 go_simp
                                 with_reducible rfl
                                rotate_left
                                ·simp only [Act.put, List.setIfInBounds_toArray, List.set_cons_zero, List.set_cons_succ, i64_w, i32_w]
                                 rfl
                                refine pure_ (i := 6) (N := some 153) (v := ?_) (a' := ?_) #[tT,tT,tT,fF,tT,tT,tT,fF,fF,fF] rfl rfl (any_of HT_.out (by kernel_rfl)) (fun _ _ _ h => h) (Or.inl ⟨by rfl, ?_⟩) ?_ ?_
                                rotate_left
                                ·intro w'
                                 go_simp
                                 with_reducible rfl
                                rotate_left
                                ·simp only [Act.put, List.setIfInBounds_toArray, List.set_cons_zero, List.set_cons_succ, i64_w, i32_w]
                                 rfl
                                refine take_ (i := 3) (N := some 150) (v := ?_) (a' := ?_) #[tT,tT,tT,tT,tT,tT,tT,fF,fF,fF] rfl rfl (take_ofW HT_.out HW_.out (by kernel_rfl)) (fun _ _ _ h => h) (Or.inl ⟨by rfl, ?_⟩) hHeld ?_ ?_
                                rotate_left
                                ·intro w' s0
                                 go_simp
                                 with_reducible rfl
                                rotate_left
                                ·simp only [Act.put, List.setIfInBounds_toArray, List.set_cons_zero, List.set_cons_succ, i64_w, i32_w]
                                 rfl
                                refine pure_ (i := 7) (N := some 154) (v := ?_) (a' := ?_) #[tT,tT,tT,tT,tT,tT,tT,tT,fF,fF] rfl rfl (any_of HT_.out (by kernel_rfl)) (fun _ _ _ h => h) (Or.inl ⟨by rfl, ?_⟩) ?_ ?_
                                rotate_left
                                ·intro w'
                                 go_simp
                                 with_reducible rfl
                                rotate_left
                                ·simp only [Act.put, List.setIfInBounds_toArray, List.set_cons_zero, List.set_cons_succ, i64_w, i32_w]
                                 rfl
                                refine pure_ (i := 8) (N := some 155) (v := ?_) (a' := ?_) #[tT,tT,tT,tT,tT,tT,tT,tT,tT,fF] rfl rfl (any_of HT_.out (by kernel_rfl)) (fun _ _ _ h => h) (Or.inl ⟨by rfl, ?_⟩) ?_ ?_
                                rotate_left
                                ·intro w'
                                 go_simp
                                 with_reducible rfl
                                rotate_left
                                ·simp only [Act.put, List.setIfInBounds_toArray, List.set_cons_zero, List.set_cons_succ, i64_w, i32_w]
                                 rfl
                                refine last_ (i := 9) (N := none) #[tT,tT,tT,tT,tT,tT,tT,tT,tT,tT] rfl rfl (one_of HT_.out (by kernel_rfl)) (by decide) (fun K hK => ?_)
                                refine skip_ (w1 := ?_) (by rfl) rfl ?_ ?_
                                rotate_left
                                ·go_simp
                                 rfl
                                refine hK.out _ _ ?_
                                clear hK K
                                refine done_ (done_of HT_.out (by kernel_rfl)) ?_
                                try go_wp2
                                (try subst hji58 hji56 hji53 hji48)
                                go_roundg kj39
                                case measure => have := HJ1.out; have := HJ9.out; have := HK3.out; have := HJ39.out; omega
                                case rel => exact ⟨(wrap64 (x9_3 + (wrap64 (1 + t345)))), (wrap64 (x11_3 - 1)), (y348), (by first | rfl | (simp; done) | (simp [*]; done)), (by first | rfl | (simp; done) | (simp [*]; done)), H', ⟨by have := HJ1.out; have := HJ9.out; have := HK3.out; have := HJ39.out; omega⟩, ⟨by (with_reducible repeat (first | apply Kd.rA_ | apply Kd.rN_ | apply Kd.rD_)); exact HQ63.out⟩, ⟨by repeat (first | (with_reducible first | exact HB.out | apply pbA_ | apply pbN_ | apply pb1_ | refine below_set ?_ GB59.out) | exact HB.out)⟩⟩
                               ·rw [if_neg c57] at H
                                exact absurd H (by simp)
                              ·rw [if_neg c55] at H
                               exact absurd H (by simp)
                             ·rw [if_neg c54] at H
                              exact absurd H (by simp)
                            ·rw [if_neg c52] at H
                             have c52b0 : (t346 == 0) = false := beq_eq_false_iff_ne.mpr c52
                             have c52b1 : (t346 != 0) = true := bne_iff_ne.mpr c52
                             simp only [Option.some.injEq, Prod.mk.injEq] at H
                             obtain ⟨rfl, rfl, rfl⟩ := H
                             have p342 : 0 ≤ (x9_3 : Int) := of_decide_eq_true (by first | (with_reducible assumption) | assumption)
                             have q342 : x9_3 < (l0.length : Int) := of_decide_eq_true (by first | (with_reducible assumption) | assumption)
                             obtain ⟨ad342, e342, hx342_0⟩ := Kd.at_int HR0.out x9_3 p342 q342
                             obtain rfl : ad327 = ad342 := (by injection e342)
                             replace hx342_0 := (HB.out.cell (World.block_lt_of_cell? w _ hx342_0)).trans hx342_0
                             replace p342 := eq_true p342
                             replace q342 := eq_true q342
                             obtain ⟨i064, hi064, _, hsz64, _⟩ := info_parts info5
                             obtain ⟨A64, hcut64, hA64, hC64⟩ := print_drop_of (P := Try.prog) (Value.int .u8) 0 22 5 .i64 Try.underlying22 hi064 hsz64 (some ad327) c0 l0 (ji48) (of_decide_eq_true (by first | (with_reducible assumption) | assumption)) (of_decide_eq_true (by first | (with_reducible assumption) | assumption)) HC0.out
                             have HR343 := Aside0.mk (Kd.C_of_reads (h1 := fun _ => rfl) (hA64 _ (Kd.reads_of_C HR0.out)))
                             have HC343 := Aside0.mk hC64
                             clear hA64 hC64 hi064 hsz64
                             go_wp2_with (first | ((with_reducible refine gaC_ (f := 44) rfl ?_); refine goesL_ (some 141) rfl rfl Try.func44 (by kernel_rfl) rfl #[.slice A64 (l0.drop ((ji48) : Int).toNat).length (c0 - (ji48).toNat)] rfl (by (try simp only [List.map_toArray, List.map_cons, List.map_nil]); first | done | (rw [show (l0.drop ((ji48) : Int).toNat).length = (l0.length - (ji48).toNat) from List.length_drop] <;> rfl) | (simp only [hji48]; rfl) | rfl | (simp only [List.length_drop, List.length_take]; rfl)) ?_; (with_reducible refine (num_Take.calls kj39 _ _ (l0.drop ((ji48) : Int).toNat) t344 t345 t346 _ ?side1 ?side2 A51.out).mono ?_); (case side1 => repeat (first | exact (Kd.C_below HR343.out HB.out) | (with_reducible refine Kd.cA_ ?_ _) | (with_reducible refine Kd.cN_ ?_ _) | (with_reducible refine Kd.cD_ ?_))); (case side2 => exact HC343.out); rintro e w' ⟨rfl, ⟨nd, rfl⟩⟩; refine ⟨_, rfl, ?_⟩))
                             go_ret3
                             exact ⟨_, by first | rfl | (simp [eWn_, eWs_] <;> rfl) | (simp only [← hji22, ← hji25, ← hji30, ← hji48]; first | rfl | (simp [eWn_, eWs_] <;> rfl)) | (simp [*, eWn_, eWs_] <;> rfl), by first | exact Kd.R_nil _ _ _ _ _ | exact Kd.N_nil _ _ _ _ _ | exact Kd.V_nil _ _ _ _ _ | exact Kd.Q_nil _ _ _ _ _ | exact Kd.S_nil _ _ _ _ _, by repeat (first | (with_reducible first | exact HB.out | apply pbA_ | apply pbN_ | apply pb1_) | exact HB.out)⟩
                           ·rw [if_neg c50] at H
                            exact absurd H (by simp)
                          ·rw [if_neg c49] at H
                           exact absurd H (by simp)
                         ·rw [if_neg c47] at H
                          exact absurd H (by simp)
                        ·rw [if_neg c46] at H
                         exact absurd H (by simp)
                    ·rw [if_neg c39] at H
                     have c39b0 : decide (0 < x11_3) = false := decide_eq_false c39
                     clear c39
                     have H' := Aside0.mk H
                     clear H
                     obtain ⟨Ao65, co65, eo65⟩ := Kd.R_slice HO_13.out
                     subst eo65
                     go_wp2
                     go_loopg [162] k3 (fun kq v162 w' => ∃ (x13_4 : List Int) (x162_4 : Int), v162 = .int .i64 x162_4 ∧ Aside0 (pfor_read.l1 kq t329 x9_3 x13_4 (x13_3.length : Int) x162_4 = some (r1, r2, r3)) ∧ Aside0 (kq ≤ k3) ∧ Aside0 (Kd.R (Kd.int .u64) 50 w' w.heap.size (fun _ => True) (.slice Ao65 x13_3.length co65) x13_4) ∧ Aside0 (Below w.heap.size w w'))
                     case atStart => exact ⟨(x13_3), (0), (by first | rfl | (simp; done) | (simp [*]; done)), H', ⟨Nat.le_refl _⟩, ⟨by (with_reducible repeat (first | apply Kd.rA_ | apply Kd.rN_ | apply Kd.rD_)); exact HO_13.out⟩, ⟨by repeat (first | (with_reducible first | exact HB.out | apply pbA_ | apply pbN_ | apply pb1_) | exact HB.out)⟩⟩
                     case round =>
                      clear H'
                      try clear c1
                      try clear c2
                      try clear p2
                      try clear c3
                      try clear c3b0
                      try clear c3b1
                      try clear p3
                      try clear q3
                      try clear hx3
                      try clear qi3
                      try clear c4
                      try clear c4b0
                      try clear c4b1
                      try clear c5
                      try clear c5b0
                      try clear p5
                      try clear q5
                      try clear hx5
                      try clear hf5
                      try clear c6
                      try clear p6
                      try clear c7
                      try clear c7b0
                      try clear c7b1
                      try clear c8
                      try clear c8b0
                      try clear c8b1
                      try clear c12
                      try clear c12b0
                      try clear c12b1
                      try clear c13
                      try clear c13b0
                      try clear c15
                      try clear c15b0
                      try clear c16
                      try clear c16b0
                      try clear c17
                      try clear c17b0
                      try clear c19
                      try clear c19b0
                      try clear c20
                      try clear c20b0
                      try clear c21
                      try clear c23
                      try clear c23b0
                      try clear c24
                      try clear c24b0
                      try clear c26
                      try clear c26b0
                      try clear c27
                      try clear c27b0
                      try clear c28
                      try clear c28b0
                      try clear c31
                      try clear c31b0
                      try clear c31b1
                      try clear c32
                      try clear c32b0
                      try clear c32b1
                      try clear p32
                      try clear q32
                      try clear hx32
                      try clear qi32
                      try clear c33
                      try clear c33b0
                      try clear c33b1
                      try clear p33
                      try clear q33
                      try clear hx33
                      try clear p34
                      try clear q34
                      try clear hx34
                      try clear c35
                      try clear c35b0
                      try clear c35b1
                      try clear c39
                      try clear c39b0
                      try clear c41
                      try clear c41b0
                      try clear c42
                      try clear c42b0
                      try clear c43
                      try clear c43b0
                      try clear c44
                      try clear c44b0
                      try clear c45
                      try clear c46
                      try clear c46b0
                      try clear c47
                      try clear c47b0
                      try clear c49
                      try clear c49b0
                      try clear c49b1
                      try clear c50
                      try clear c50b0
                      try clear c50b1
                      try clear c52
                      try clear c52b0
                      try clear c52b1
                      try clear c54
                      try clear c54b0
                      try clear c55
                      try clear c55b0
                      try clear c57
                      try clear c57b0
                      try clear c57b1
                      try clear p59
                      try clear q59
                      try clear hx59
                      try clear hf59
                      try clear p64
                      try clear hx325_0
                      try clear hx326_0
                      try clear hx327_0
                      try clear hx332_0
                      try clear hx333_0
                      try clear hx334_0
                      try clear hx335_0
                      try clear hx341_0
                      try clear hx342_0
                      try clear hx347_0
                      try clear hx59_0
                      try clear p2
                      try clear p3
                      try clear p32
                      try clear p325
                      try clear p326
                      try clear p327
                      try clear p33
                      try clear p332
                      try clear p333
                      try clear p334
                      try clear p335
                      try clear p34
                      try clear p341
                      try clear p342
                      try clear p347
                      try clear p59
                      try clear p6
                      try clear q3
                      try clear q32
                      try clear q325
                      try clear q326
                      try clear q327
                      try clear q33
                      try clear q332
                      try clear q333
                      try clear q334
                      try clear q335
                      try clear q34
                      try clear q341
                      try clear q342
                      try clear q347
                      try clear q59
                      obtain ⟨x13_4, x162_4, rfl, HA, HK4, HO_13, HB⟩ := hrel
                      have hl13_4 := (Kd.R_reads' HO_13.out).1
                      rw [hl13_4] at HO_13
                      (try simp only [hl13_4])
                      cases gk with
                      | zero => exact absurd HA.out (by simp [pfor_read.l1])
                      | succ k4 =>
                       have H := HA.out
                       clear HA
                       simp only [pfor_read.l1] at H
                       by_cases c66 : x162_4 < (x13_3.length : Int)
                       ·rw [if_pos c66] at H
                        have c66b0 : decide (x162_4 < (x13_3.length : Int)) = true := decide_eq_true c66
                        (try (have c66b0h := c66b0; simp only [hl13_4] at c66b0h))
                        clear c66
                        by_cases c67 : 0 ≤ x162_4
                        ·rw [if_pos c67] at H
                         have c67b0 : decide (0 ≤ x162_4) = true := decide_eq_true c67
                         clear c67
                         by_cases c68 : x162_4 < (x13_4.length : Int)
                         ·rw [if_pos c68] at H
                          have c68b0 : decide (x162_4 < (x13_4.length : Int)) = true := decide_eq_true c68
                          (try (have c68b0h := c68b0; simp only [hl13_4] at c68b0h))
                          clear c68
                          obtain ⟨y350, hy350⟩ : ∃ y_ : List Int, y_ = (x13_4.set (x162_4 : Int).toNat (IntKind.u64.wrap ((rd x13_4 x162_4) + t329))) := ⟨_, rfl⟩
                          replace H : (pfor_read.l1 k4 t329 x9_3 y350 (x13_3.length : Int) (wrap64 (x162_4 + 1))) = some (r1, r2, r3) := by first | (rw [hy350]; with_reducible exact H) | (have H2_ := (Option.bind_some _ _).symm.trans H; rw [hy350]; with_reducible exact H2_) | (have H2_ := (Option.bind_some _ _).symm.trans H; with_reducible exact H2_) | with_reducible exact H | (rw [hy350]; exact H) | exact H
                          have Ny350 := Aside0.mk hy350
                          clear hy350
                          have H' := Aside0.mk H
                          clear H
                          have p349 : 0 ≤ (x162_4 : Int) := of_decide_eq_true (by first | (with_reducible assumption) | assumption)
                          have q349 : x162_4 < (x13_4.length : Int) := of_decide_eq_true (by first | (with_reducible assumption) | assumption)
                          obtain ⟨ad349, e349, hx349_0⟩ := Kd.at_int (Kd.R_reads' HO_13.out).2.2 x162_4 p349 q349
                          cases e349
                          replace p349 := eq_true p349
                          replace q349 := eq_true q349
                          have p69 : 0 ≤ (x162_4 : Int) := of_decide_eq_true (by first | (with_reducible assumption) | assumption)
                          have q69 : (x162_4 : Int) < ((x13_4.length : Int) : Int) := of_decide_eq_true (by first | (with_reducible assumption) | assumption)
                          obtain ⟨go69, co69, eo69, gb69, gl69, cl69, HG69⟩ := Kd.R_form HO_13.out (by omega)
                          (first | cases eo69 | (injection eo69 with ea_ en_ ec_; (first | subst ea_ | (injection ea_ with ea_; subst ea_)); subst ec_; clear en_))
                          have GB69 := Aside0.mk gb69
                          have GG69 := Aside0.mk HG69
                          clear gb69 gl69 HG69
                          (first | simp only [add_plain] at hx349_0 | skip)
                          obtain ⟨hx69_0, hf69_0⟩ := Kd.R_celln 0 HO_13.out (x162_4 : Int) p69 q69
                          replace p69 := eq_true p69
                          replace q69 := eq_true q69
                          have HP70 := Kd.R_putg HO_13.out (x162_4 : Int) (IntKind.u64.wrap ((rd x13_4 x162_4) + t329))
                          go_wp2_with (first | ((with_reducible refine gate_store (t := 50) (p := 171) rfl ?_); refine store_event (t := 50) (p := 171) (v := ?vo_w71) (w1 := (wr.setCell ⟨go69, (x162_4 : Int).toNat, none⟩ (.int .u64 (IntKind.u64.wrap ((rd x13_4 x162_4) + t329))))) ?hg ?ho ?hn ?hr ?_; (case ho => rfl); (case hg => rfl); (case hn => rfl); (case hr => first | (go_simp; done) | (go_simp; rfl)); intro w71 hw; have hg : wr.grownBy w71 (some go69) := (by rw [hw]; exact HP70.2); have hp_ : Kd.R (Kd.int .u64) 50 w71 w.heap.size (fun _ => True) (.slice (some ⟨go69, 0, none⟩) x13_4.length co65) y350 := (by rw [hw, Ny350.out]; exact HP70.1); clear HP70; have n0_ := Aside0.mk (hp_); have n1_ := Aside0.mk ((by rw [hw]; exact below_set (HB.out) GB69.out : Below w.heap.size w w71)); clear HO_13; clear HB; have HO_13 := n0_; have HB := n1_; clear n0_ n1_; clear hg hw hp_))
                          (try simp only [← hl13_4])
                          go_roundg k4
                          case measure => have := HJ1.out; have := HJ9.out; have := HK3.out; have := HK4.out; omega
                          case rel => exact ⟨(y350), (wrap64 (x162_4 + 1)), (by first | rfl | (simp; done) | (simp [*]; done)), H', ⟨by have := HJ1.out; have := HJ9.out; have := HK3.out; have := HK4.out; omega⟩, ⟨by (try simp only [hl13_4]); (with_reducible repeat (first | apply Kd.rA_ | apply Kd.rN_ | apply Kd.rD_)); exact HO_13.out⟩, ⟨by repeat (first | (with_reducible first | exact HB.out | apply pbA_ | apply pbN_ | apply pb1_) | exact HB.out)⟩⟩
                         ·rw [if_neg c68] at H
                          exact absurd H (by simp)
                        ·rw [if_neg c67] at H
                         exact absurd H (by simp)
                       ·rw [if_neg c66] at H
                        have c66b0 : decide (x162_4 < (x13_3.length : Int)) = false := decide_eq_false c66
                        (try (have c66b0h := c66b0; simp only [hl13_4] at c66b0h))
                        clear c66
                        simp only [Option.some.injEq, Prod.mk.injEq] at H
                        obtain ⟨rfl, rfl, rfl⟩ := H
                        go_wp2
                        go_ret3
                        exact ⟨_, by first | rfl | (simp [eWn_, eWs_] <;> rfl) | (simp only [← hji22, ← hji25, ← hji30]; first | rfl | (simp [eWn_, eWs_] <;> rfl)) | (simp [*, eWn_, eWs_] <;> rfl), by (with_reducible repeat (first | apply Kd.rA_ | apply Kd.rN_ | apply Kd.rD_)); exact HO_13.out, by repeat (first | (with_reducible first | exact HB.out | apply pbA_ | apply pbN_ | apply pb1_) | exact HB.out)⟩
                 ·rw [if_neg c35] at H
                  have c35b0 : (t338 == 0) = false := beq_eq_false_iff_ne.mpr c35
                  have c35b1 : (t338 != 0) = true := bne_iff_ne.mpr c35
                  simp only [Option.some.injEq, Prod.mk.injEq] at H
                  obtain ⟨rfl, rfl, rfl⟩ := H
                  try go_wp2
                  (try (rw [drewN_self wc]; generalize hq_ : World.drewN wc _ = wc; have n0_ : Aside0 (Below w.heap.size w wc) := ⟨by rw [← hq_]; exact (by repeat (first | (with_reducible first | exact HB.out | apply pbA_ | apply pbN_ | apply pb1_) | exact HB.out))⟩; clear HB hq_; have HB := n0_; clear n0_))
                  have n0_ := Aside0.mk (pb1_ HB.out)
                  clear HB
                  have HB := n0_
                  clear n0_
                  have p334 : 0 ≤ ((ji22) : Int) := of_decide_eq_true (by first | (with_reducible assumption) | assumption)
                  have q334 : (ji22) < (l0.length : Int) := of_decide_eq_true (by first | (with_reducible assumption) | assumption)
                  obtain ⟨ad334, e334, hx334_0⟩ := Kd.at_int HR0.out (ji22) p334 q334
                  have hw334_0 := hx334_0
                  obtain rfl : ad327 = ad334 := (by injection e334)
                  replace hx334_0 := (HB.out.cell (World.block_lt_of_cell? w _ hx334_0)).trans hx334_0
                  replace p334 := eq_true p334
                  replace q334 := eq_true q334
                  have p335 : 0 ≤ ((ji25) : Int) := of_decide_eq_true (by first | (with_reducible assumption) | assumption)
                  have q335 : (ji25) < (l0.length : Int) := of_decide_eq_true (by first | (with_reducible assumption) | assumption)
                  obtain ⟨ad335, e335, hx335_0⟩ := Kd.at_int HR0.out (ji25) p335 q335
                  have hw335_0 := hx335_0
                  obtain rfl : ad327 = ad335 := (by injection e335)
                  replace hx335_0 := (HB.out.cell (World.block_lt_of_cell? w _ hx335_0)).trans hx335_0
                  replace p335 := eq_true p335
                  replace q335 := eq_true q335
                  refine start_ (n := 13) (S := fun w' => w'.cell? (ad327.add ((ji22)).toNat) = some (.int .u8 (rd l0 (ji22))) ∧ w'.cell? (ad327.add ((ji25)).toNat) = some (.int .u8 (rd l0 (ji25)))) (ds := []) #[false, false, false, false, false, false, false, false, false, false, false, false, false] (by kernel_rfl) rfl rfl ⟨((HB.out.cell (World.block_lt_of_cell? w _ hw334_0)).trans hw334_0), ((HB.out.cell (World.block_lt_of_cell? w _ hw335_0)).trans hw335_0)⟩ (fun hHeld => ?_); refine with_tabW pfor_read.tab8 pfor_read.bits8 (fun HT_ HW_ => ?_)
                  generalize wc.drew = w72 at HB hx334_0 hx335_0 hHeld ⊢
                  refine pure_ (i := 0) (N := some 73) (v := ?_) (a' := ?_) #[tT,fF,fF,fF,fF,fF,fF,fF,fF,fF,fF,fF,fF] rfl rfl (any_of HT_.out (by kernel_rfl)) (fun _ _ _ h => h) (Or.inl ⟨by rfl, ?_⟩) ?_ ?_
                  rotate_left
                  ·intro w'
                   go_simp
                   with_reducible rfl
                  rotate_left
                  ·simp only [Act.put, List.setIfInBounds_toArray, List.set_cons_zero, List.set_cons_succ, i64_w, i32_w]
                   rfl
                  refine pure_ (i := 1) (N := some 74) (v := ?_) (a' := ?_) #[tT,tT,fF,fF,fF,fF,fF,fF,fF,fF,fF,fF,fF] rfl rfl (any_of HT_.out (by kernel_rfl)) (fun _ _ _ h => h) (Or.inl ⟨by rfl, ?_⟩) ?_ ?_
                  rotate_left
                  ·intro w'
                   go_simp
                   with_reducible rfl
                  rotate_left
                  ·simp only [Act.put, List.setIfInBounds_toArray, List.set_cons_zero, List.set_cons_succ, i64_w, i32_w]
                   rfl
                  refine pure_ (i := 2) (N := some 75) (v := ?_) (a' := ?_) #[tT,tT,tT,fF,fF,fF,fF,fF,fF,fF,fF,fF,fF] rfl rfl (any_of HT_.out (by kernel_rfl)) (fun _ _ _ h => h) (Or.inl ⟨by rfl, ?_⟩) ?_ ?_
                  rotate_left
                  ·intro w'
                   go_simp
                   with_reducible rfl
                  rotate_left
                  ·simp only [Act.put, List.setIfInBounds_toArray, List.set_cons_zero, List.set_cons_succ, i64_w, i32_w]
                   rfl
                  refine pure_ (i := 5) (N := some 78) (v := ?_) (a' := ?_) #[tT,tT,tT,fF,fF,tT,fF,fF,fF,fF,fF,fF,fF] rfl rfl (any_of HT_.out (by kernel_rfl)) (fun _ _ _ h => h) (Or.inl ⟨by rfl, ?_⟩) ?_ ?_
                  rotate_left
                  ·intro w'
                   go_simp
                   with_reducible rfl
                  rotate_left
                  ·simp only [Act.put, List.setIfInBounds_toArray, List.set_cons_zero, List.set_cons_succ, i64_w, i32_w]
                   rfl
                  refine pure_ (i := 6) (N := some 79) (v := ?_) (a' := ?_) #[tT,tT,tT,fF,fF,tT,tT,fF,fF,fF,fF,fF,fF] rfl rfl (any_of HT_.out (by kernel_rfl)) (fun _ _ _ h => h) (Or.inl ⟨by rfl, ?_⟩) ?_ ?_
                  rotate_left
                  ·intro w'
                   go_simp
                   with_reducible rfl
                  rotate_left
                  ·simp only [Act.put, List.setIfInBounds_toArray, List.set_cons_zero, List.set_cons_succ, i64_w, i32_w]
                   rfl
                  refine pure_ (i := 7) (N := some 80) (v := ?_) (a' := ?_) #[tT,tT,tT,fF,fF,tT,tT,tT,fF,fF,fF,fF,fF] rfl rfl (any_of HT_.out (by kernel_rfl)) (fun _ _ _ h => h) (Or.inl ⟨by rfl, ?_⟩) ?_ ?_
                  rotate_left
                  ·intro w'
                   go_simp
                   with_reducible rfl
                  rotate_left
                  ·simp only [Act.put, List.setIfInBounds_toArray, List.set_cons_zero, List.set_cons_succ, i64_w, i32_w]
                   rfl
                  refine pure_ (i := 8) (N := some 81) (v := ?_) (a' := ?_) #[tT,tT,tT,fF,fF,tT,tT,tT,tT,fF,fF,fF,fF] rfl rfl (any_of HT_.out (by kernel_rfl)) (fun _ _ _ h => h) (Or.inl ⟨by rfl, ?_⟩) ?_ ?_
                  rotate_left
                  ·intro w'
                   go_simp
                   with_reducible rfl
                  rotate_left
                  ·simp only [Act.put, List.setIfInBounds_toArray, List.set_cons_zero, List.set_cons_succ, i64_w, i32_w]
                   rfl
                  refine take_ (i := 3) (N := some 76) (v := ?_) (a' := ?_) #[tT,tT,tT,tT,fF,tT,tT,tT,tT,fF,fF,fF,fF] rfl rfl (take_ofW HT_.out HW_.out (by kernel_rfl)) (fun _ _ _ h => h) (Or.inl ⟨by rfl, ?_⟩) hHeld ?_ ?_
                  rotate_left
                  ·rintro w' ⟨s0, s1⟩
                   go_simp
                   with_reducible rfl
                  rotate_left
                  ·simp only [Act.put, List.setIfInBounds_toArray, List.set_cons_zero, List.set_cons_succ, i64_w, i32_w]
                   rfl
                  refine pure_ (i := 4) (N := some 77) (v := ?_) (a' := ?_) #[tT,tT,tT,tT,tT,tT,tT,tT,tT,fF,fF,fF,fF] rfl rfl (any_of HT_.out (by kernel_rfl)) (fun _ _ _ h => h) (Or.inl ⟨by rfl, ?_⟩) ?_ ?_
                  rotate_left
                  ·intro w'
                   go_simp
                   with_reducible rfl
                  rotate_left
                  ·simp only [Act.put, List.setIfInBounds_toArray, List.set_cons_zero, List.set_cons_succ, i64_w, i32_w]
                   rfl
                  refine pure_ (i := 11) (N := some 10) (v := ?_) (a' := ?_) #[tT,tT,tT,tT,tT,tT,tT,tT,tT,fF,fF,tT,fF] rfl rfl (any_of HT_.out (by kernel_rfl)) (fun _ _ _ h => h) (Or.inl ⟨by rfl, ?_⟩) ?_ ?_
                  rotate_left
                  ·intro w'
                   go_simp
                   with_reducible rfl
                  rotate_left
                  ·simp only [Act.put, List.setIfInBounds_toArray, List.set_cons_zero, List.set_cons_succ, i64_w, i32_w]
                   rfl
                  refine take_ (i := 9) (N := some 82) (v := ?_) (a' := ?_) #[tT,tT,tT,tT,tT,tT,tT,tT,tT,tT,fF,tT,fF] rfl rfl (take_ofW HT_.out HW_.out (by kernel_rfl)) (fun _ _ _ h => h) (Or.inl ⟨by rfl, ?_⟩) hHeld ?_ ?_
                  rotate_left
                  ·rintro w' ⟨s0, s1⟩
                   go_simp
                   with_reducible rfl
                  rotate_left
                  ·simp only [Act.put, List.setIfInBounds_toArray, List.set_cons_zero, List.set_cons_succ, i64_w, i32_w]
                   rfl
                  refine pure_ (i := 10) (N := some 83) (v := ?_) (a' := ?_) #[tT,tT,tT,tT,tT,tT,tT,tT,tT,tT,tT,tT,fF] rfl rfl (any_of HT_.out (by kernel_rfl)) (fun _ _ _ h => h) (Or.inl ⟨by rfl, ?_⟩) ?_ ?_
                  rotate_left
                  ·intro w'
                   go_simp
                   with_reducible rfl
                  rotate_left
                  ·simp only [Act.put, List.setIfInBounds_toArray, List.set_cons_zero, List.set_cons_succ, i64_w, i32_w]
                   rfl
                  refine pure_ (i := 12) (N := some 11) (v := ?_) (a' := ?_) #[tT,tT,tT,tT,tT,tT,tT,tT,tT,tT,tT,tT,tT] rfl rfl (any_of HT_.out (by kernel_rfl)) (fun _ _ _ h => h) (Or.inl ⟨by rfl, ?_⟩) ?_ ?_
                  rotate_left
                  ·intro w'
                   go_simp
                   with_reducible rfl
                  rotate_left
                  ·simp only [Act.put, List.setIfInBounds_toArray, List.set_cons_zero, List.set_cons_succ, i64_w, i32_w]
                   rfl
                  refine done_ (done_of HT_.out (by kernel_rfl)) ?_
                  obtain ⟨i073, hi073, _, hsz73, _⟩ := info_parts info5
                  obtain ⟨A73, hcut73, hA73, hC73⟩ := print_mid_of (P := Try.prog) (Value.int .u8) 0 22 5 .i64 .i64 Try.underlying22 hi073 hsz73 (some ad327) c0 l0 (ji30) (wrap64 ((ji30) + (wrap64 (Int.tdiv (wrap64 ((wrap64 ((wrap64 (rd l0 0)) * (wrap64 (rd l0 (ji22))))) + 7)) 8)))) (of_decide_eq_true (by first | (with_reducible assumption) | assumption)) (by first | omega | exact of_decide_eq_true (by first | (with_reducible assumption) | assumption)) (of_decide_eq_true (by first | (with_reducible assumption) | assumption)) HC0.out
                  have HR336 := Aside0.mk (Kd.C_of_reads (h1 := fun _ => rfl) (hA73 _ (Kd.reads_of_C HR0.out)))
                  have HC336 := Aside0.mk hC73
                  clear hA73 hC73 hi073 hsz73
                  try go_wp2_with (first | ((with_reducible refine gaC_ (f := 54) rfl ?_); refine goesL_ (some 104) rfl rfl Try.func54 (by kernel_rfl) rfl #[.slice A73 ((l0.take ((wrap64 ((ji30) + (wrap64 (Int.tdiv (wrap64 ((wrap64 ((wrap64 (rd l0 0)) * (wrap64 (rd l0 (ji22))))) + 7)) 8)))) : Int).toNat).drop ((ji30) : Int).toNat).length (c0 - (ji30).toNat), .int .i64 (wrap64 (rd l0 0)), .int .i64 (wrap64 (rd l0 (ji22)))] rfl (by (try simp only [List.map_toArray, List.map_cons, List.map_nil]); first | done | (rw [show ((l0.take ((wrap64 ((ji30) + (wrap64 (Int.tdiv (wrap64 ((wrap64 ((wrap64 (rd l0 0)) * (wrap64 (rd l0 (ji22))))) + 7)) 8)))) : Int).toNat).drop ((ji30) : Int).toNat).length = ((wrap64 ((ji30) + (wrap64 (Int.tdiv (wrap64 ((wrap64 ((wrap64 (rd l0 0)) * (wrap64 (rd l0 (ji22))))) + 7)) 8)))).toNat - (ji30).toNat) from (by rw [List.length_drop, List.length_take]; have h_ : ((wrap64 ((ji30) + (wrap64 (Int.tdiv (wrap64 ((wrap64 ((wrap64 (rd l0 0)) * (wrap64 (rd l0 (ji22))))) + 7)) 8)))) : Int) ≤ (l0.length : Int) := of_decide_eq_true (by first | (with_reducible assumption) | assumption); omega)] <;> rfl) | (simp only [hji22, hji30]; rfl) | rfl | (simp only [List.length_drop, List.length_take]; rfl)) ?_; (with_reducible refine (bits_Unpack.calls kj9 _ _ ((l0.take ((wrap64 ((ji30) + (wrap64 (Int.tdiv (wrap64 ((wrap64 ((wrap64 (rd l0 0)) * (wrap64 (rd l0 (ji22))))) + 7)) 8)))) : Int).toNat).drop ((ji30) : Int).toNat) (wrap64 (rd l0 0)) (wrap64 (rd l0 (ji22))) t337 t338 _ ?side1 ?side2 A34.out).mono ?_); (case side1 => repeat (first | exact (Kd.C_below HR336.out HB.out) | (with_reducible refine Kd.cA_ ?_ _) | (with_reducible refine Kd.cN_ ?_ _) | (with_reducible refine Kd.cD_ ?_))); (case side2 => exact HC336.out); rintro e w74 ⟨v339, rfl, ho0, hb⟩; refine ⟨_, rfl, ?_⟩; have n0_ := Aside0.mk (Kd.R_lower ho0 (pbS_ (by repeat (first | (with_reducible first | exact HB.out | apply pbA_ | apply pbN_ | apply pb1_) | exact HB.out)))); have n1_ := Aside0.mk (below_step (by repeat (first | (with_reducible first | exact HB.out | apply pbA_ | apply pbN_ | apply pb1_) | exact HB.out)) hb); clear HB; have HO340 := n0_; have HB := n1_; clear n0_ n1_; (try clear hb); (try clear hb2); (try clear hk); (try clear hi); (try clear ho0)))
                  go_ret3
                  exact ⟨_, by first | rfl | (simp [eWn_, eWs_] <;> rfl) | (simp only [← hji22, ← hji25, ← hji30]; first | rfl | (simp [eWn_, eWs_] <;> rfl)) | (simp [*, eWn_, eWs_] <;> rfl), by first | exact Kd.R_nil _ _ _ _ _ | exact Kd.N_nil _ _ _ _ _ | exact Kd.V_nil _ _ _ _ _ | exact Kd.Q_nil _ _ _ _ _ | exact Kd.S_nil _ _ _ _ _, by repeat (first | (with_reducible first | exact HB.out | apply pbA_ | apply pbN_ | apply pb1_) | exact HB.out)⟩
                ·rw [if_neg c33] at H
                 exact absurd H (by simp)
               ·rw [if_neg c32] at H
                exact absurd H (by simp)
              ·rw [if_neg c31] at H
               exact absurd H (by simp)
            ·rw [if_neg c27] at H
             exact absurd H (by simp)
           ·rw [if_neg c26] at H
            exact absurd H (by simp)
          ·rw [if_neg c24] at H
           exact absurd H (by simp)
         ·rw [if_neg c23] at H
          exact absurd H (by simp)
     ·rw [if_neg c8] at H
      exact absurd H (by simp)
    ·rw [if_neg c7] at H
     exact absurd H (by simp)
end Go.Proofs.Ytkcjjennlhgmhaa.P
end
section
namespace Go.Proofs.Ytkcjjennlhgmhaa.P
open Go.RowKit Go.Proofs.YtkcjjennlhgmhaaW.PrintWords Go.Proofs.YtkcjjennlhgmhaaW.PrintLast Go.Proofs.YtkcjjennlhgmhaaW.PrintMore
attribute [local go_sem] max2_int min2_int max_two min_two max_three min_three max_four min_four
set_option linter.unusedVariables false
set_option linter.unusedSimpArgs false
def bytes_Equal.f (l0 : List Int) (l1 : List Int) : Option (Bool) := some ((strOfNums l0).toList == (strOfNums l1).toList)
set_option maxHeartbeats 8000000 in
set_option maxRecDepth 100000 in
theorem bytes_Equal.calls (A0 : Option Addr) (c0 : Nat) (l0 : List Int) (A1 : Option Addr) (c1 : Nat) (l1 : List Int) (r : Bool) (w : World) (hr0 : Kd.C (Kd.int .u8) w A0 l0.length l0) (hc0 : l0.length ≤ c0) (hr1 : Kd.C (Kd.int .u8) w A1 l1.length l1) (hc1 : l1.length ≤ c1) (h : bytes_Equal.f l0 l1 = some r) :
  Calls Try.prog 36 #[.slice A0 l0.length c0, .slice A1 l1.length c1] w fun e w' => e = .returned (.bool r) ∧ Drawn0 w w' := by
 have HR0 := Aside0.mk hr0
 have HC0 := Aside0.mk hc0
 clear hr0 hc0
 have HR1 := Aside0.mk hr1
 have HC1 := Aside0.mk hc1
 clear hr1 hc1
 have H : (some ((strOfNums l0).toList == (strOfNums l1).toList)) = some r := h
 clear h
 obtain rfl := Option.some.inj H
 have hcv3 := Kd.C_string (P := Try.prog) (A := A0) (c := c0) Try.underlying22 Try.underlying5 Try.underlying9 HR0.out
 have hcv4 := Kd.C_string (P := Try.prog) (A := A1) (c := c1) Try.underlying22 Try.underlying5 Try.underlying9 HR1.out
 go_enter Try.func36, Try.ntmps36
 go_wp2
 go_ret
 exact ⟨by first | rfl | (simp; done) | (simp [*]; done), by repeat (first | exact Drawn0.refl _ | apply Drawn0.step)⟩
def pfor_TakeBlock.f (k : Nat) (l0 : List Int) : Option (List Int × Int × Int) := (pfor_read.f k l0).bind fun bt351 => (if bt351.2.2 = true then ((pfor_PutBlock.f k ([] : List Int) bt351.1).bind fun bt356 => (if bt356.2 = 0 then (if 0 ≤ bt351.2.1 then (if bt351.2.1 ≤ (l0.length : Int) then ((bytes_Equal.f bt356.1 (l0.take (bt351.2.1 : Int).toNat)).bind fun t361 => (if t361 = true then (some (bt351.1, bt351.2.1, 0)) else (some (([] : List Int), 0, 2)))) else (none)) else (none)) else (some (([] : List Int), 0, 2)))) else (some (([] : List Int), 0, 2)))
theorem pfor_TakeBlock.mono : ∀ a0 k, LeO (pfor_TakeBlock.f k a0) (pfor_TakeBlock.f (k + 1) a0) := by
 intro a0 k
 unfold pfor_TakeBlock.f
 repeat' first
   | (with_reducible exact pfor_PutBlock.mono _ _ _)
   | (with_reducible exact pfor_read.mono _ _)
   | (with_reducible exact LeO.refl _)
   | (with_reducible exact LeO.none _)
   | (with_reducible refine LeO.ite ?_ ?_)
   | (with_reducible refine LeO.bind ?_ (fun _ => ?_))
   | exact pfor_PutBlock.mono _ _ _
   | exact pfor_read.mono _ _
   | exact LeO.none _
   | refine LeO.ite ?_ ?_
   | refine LeO.bind ?_ (fun _ => ?_)
set_option maxHeartbeats 8000000 in
set_option maxRecDepth 100000 in
theorem pfor_TakeBlock.calls (k : Nat) (A0 : Option Addr) (c0 : Nat) (l0 : List Int) (r1 : List Int) (r2 : Int) (r3 : Int) (w : World) (hr0 : Kd.C (Kd.int .u8) w A0 l0.length l0) (hc0 : l0.length ≤ c0) (h : pfor_TakeBlock.f k l0 = some (r1, r2, r3)) :
  Calls Try.prog 16 #[.slice A0 l0.length c0] w fun e w' => ∃ v0_ : Value, e = .returned (.tuple #[v0_, .int .i64 r2, .int .i64 r3]) ∧ Kd.R (Kd.int .u64) 50 w' w.heap.size (fun _ => True) v0_ r1 ∧ Below w.heap.size w w' := by
 have HR0 := Aside0.mk hr0
 have HC0 := Aside0.mk hc0
 clear hr0 hc0
 have HB := Aside0.mk (Below.refl w.heap.size w)
 have H : ((pfor_read.f k l0).bind fun bt351 => (if bt351.2.2 = true then ((pfor_PutBlock.f k ([] : List Int) bt351.1).bind fun bt356 => (if bt356.2 = 0 then (if 0 ≤ bt351.2.1 then (if bt351.2.1 ≤ (l0.length : Int) then ((bytes_Equal.f bt356.1 (l0.take (bt351.2.1 : Int).toNat)).bind fun t361 => (if t361 = true then (some (bt351.1, bt351.2.1, 0)) else (some (([] : List Int), 0, 2)))) else (none)) else (none)) else (some (([] : List Int), 0, 2)))) else (some (([] : List Int), 0, 2)))) = some (r1, r2, r3) := h
 clear h
 replace H := Option.bind_eq_some_iff.mp H
 obtain ⟨⟨t351, t352, t353⟩, A20, H⟩ := H
 replace H : (if t353 = true then ((pfor_PutBlock.f k ([] : List Int) t351).bind fun bt356 => (if bt356.2 = 0 then (if 0 ≤ t352 then (if t352 ≤ (l0.length : Int) then ((bytes_Equal.f bt356.1 (l0.take (t352 : Int).toNat)).bind fun t361 => (if t361 = true then (some (t351, t352, 0)) else (some (([] : List Int), 0, 2)))) else (none)) else (none)) else (some (([] : List Int), 0, 2)))) else (some (([] : List Int), 0, 2))) = some (r1, r2, r3) := H
 have A2 := Aside0.mk A20
 clear A20
 by_cases c3 : t353 = true
 ·subst c3
  have H1 : ((pfor_PutBlock.f k ([] : List Int) t351).bind fun bt356 => (if bt356.2 = 0 then (if 0 ≤ t352 then (if t352 ≤ (l0.length : Int) then ((bytes_Equal.f bt356.1 (l0.take (t352 : Int).toNat)).bind fun t361 => (if t361 = true then (some (t351, t352, 0)) else (some (([] : List Int), 0, 2)))) else (none)) else (none)) else (some (([] : List Int), 0, 2)))) = some (r1, r2, r3) := by rw [if_pos rfl] at H; exact H
  clear H
  have H := H1
  clear H1
  replace H := Option.bind_eq_some_iff.mp H
  obtain ⟨⟨t356, t357⟩, A40, H⟩ := H
  replace H : (if t357 = 0 then (if 0 ≤ t352 then (if t352 ≤ (l0.length : Int) then ((bytes_Equal.f t356 (l0.take (t352 : Int).toNat)).bind fun t361 => (if t361 = true then (some (t351, t352, 0)) else (some (([] : List Int), 0, 2)))) else (none)) else (none)) else (some (([] : List Int), 0, 2))) = some (r1, r2, r3) := H
  have A4 := Aside0.mk A40
  clear A40
  by_cases c5 : t357 = 0
  ·rw [if_pos c5] at H
   have c5b0 : (t357 == 0) = true := beq_iff_eq.mpr c5
   have c5b1 : (t357 != 0) = false := bne_eq_false_iff_eq.mpr c5
   clear c5
   by_cases c6 : 0 ≤ t352
   ·rw [if_pos c6] at H
    have c6b0 := eq_true c6
    have c6b1 : decide (0 ≤ t352) = true := decide_eq_true c6
    clear c6
    by_cases c7 : t352 ≤ (l0.length : Int)
    ·rw [if_pos c7] at H
     have c7b0 := eq_true c7
     have c7b1 : decide (t352 ≤ (l0.length : Int)) = true := decide_eq_true c7
     clear c7
     replace H := Option.bind_eq_some_iff.mp H
     obtain ⟨t361, A80, H⟩ := H
     replace H : (if t361 = true then (some (t351, t352, 0)) else (some (([] : List Int), 0, 2))) = some (r1, r2, r3) := H
     have A8 := Aside0.mk A80
     clear A80
     by_cases c9 : t361 = true
     ·subst c9
      have H1 : (some (t351, t352, 0)) = some (r1, r2, r3) := by rw [if_pos rfl] at H; exact H
      clear H
      have H := H1
      clear H1
      simp only [Option.some.injEq, Prod.mk.injEq] at H
      obtain ⟨rfl, rfl, rfl⟩ := H
      go_enter Try.func16, Try.ntmps16
      go_wp2_with (first | ((with_reducible refine gaC_ (f := 35) rfl ?_); refine goesL_ (some 12) rfl rfl Try.func35 (by kernel_rfl) rfl #[.slice A0 l0.length c0] rfl (by (try simp only [List.map_toArray, List.map_cons, List.map_nil]); first | done | rfl | (simp only [List.length_drop, List.length_take]; rfl)) ?_; (with_reducible refine (pfor_read.calls k _ _ l0 t351 t352 true _ ?side1 ?side2 A2.out).mono ?_); (case side1 => repeat (first | exact HR0.out | (with_reducible refine Kd.cA_ ?_ _) | (with_reducible refine Kd.cN_ ?_ _) | (with_reducible refine Kd.cD_ ?_))); (case side2 => exact HC0.out); rintro e w10 ⟨v354, rfl, ho0, hb⟩; refine ⟨_, rfl, ?_⟩; have n0_ := Aside0.mk (Kd.R_lower ho0 (pbS_ (by repeat (first | (with_reducible first | exact HB.out | apply pbA_ | apply pbN_ | apply pb1_) | exact HB.out)))); have n1_ := Aside0.mk (below_step (by repeat (first | (with_reducible first | exact HB.out | apply pbA_ | apply pbN_ | apply pb1_) | exact HB.out)) hb); clear HB; have HO355 := n0_; have HB := n1_; clear n0_ n1_; (try clear hb); (try clear hb2); (try clear hk); (try clear hi); (try clear ho0); obtain ⟨Ao11, co11, eo11⟩ := Kd.R_slice HO355.out; subst eo11) | ((with_reducible refine gaC_ (f := 12) rfl ?_); refine goesL_ (some 20) rfl rfl Try.func12 (by kernel_rfl) rfl #[.slice none 0 0, .slice Ao11 t351.length co11] rfl (by (try simp only [List.map_toArray, List.map_cons, List.map_nil]); first | done | rfl | (simp only [List.length_drop, List.length_take]; rfl)) ?_; (refine (pfor_PutBlock.calls k _ _ ([] : List Int) _ _ t351 t356 t357 _ ?side1 ?side2 ?side3 ?side4 A4.out).mono ?_); (case side1 => exact Kd.C_nil _ _); (case side2 => exact Nat.le_refl _); (case side3 => repeat (first | exact (Kd.R_reads' HO355.out).2.2 | (with_reducible refine Kd.cA_ ?_ _) | (with_reducible refine Kd.cN_ ?_ _) | (with_reducible refine Kd.cD_ ?_))); (case side4 => exact (Kd.R_reads' HO355.out).2.1); rintro e w12 ⟨v358, rfl, ho0, hb⟩; refine ⟨_, rfl, ?_⟩; have n0_ := Aside0.mk (Kd.R_below (by (with_reducible repeat (first | apply Kd.rA_ | apply Kd.rN_ | apply Kd.rD_)); exact HO355.out) hb); have n1_ := Aside0.mk (Kd.R_lower ho0 (pbS_ (by repeat (first | (with_reducible first | exact HB.out | apply pbA_ | apply pbN_ | apply pb1_) | exact HB.out)))); have n2_ := Aside0.mk (below_step (by repeat (first | (with_reducible first | exact HB.out | apply pbA_ | apply pbN_ | apply pb1_) | exact HB.out)) hb); clear HO355; clear HB; have HO355 := n0_; have HO359 := n1_; have HB := n2_; clear n0_ n1_ n2_; (try clear hb); (try clear hb2); (try clear hk); (try clear hi); (try clear ho0); obtain ⟨i013, hi013, _, hsz13, _⟩ := info_parts info5; obtain ⟨hcut13, hA13, hC13⟩ := print_take_of (P := Try.prog) (Value.int .u8) 0 22 5 .i64 Try.underlying22 hi013 hsz13 A0 c0 l0 t352 (of_decide_eq_true (by first | (with_reducible assumption) | assumption)) (of_decide_eq_true (by first | (with_reducible assumption) | assumption)) HC0.out; have HR360 := Aside0.mk (Kd.C_of_reads (h1 := fun _ => rfl) (hA13 _ (Kd.reads_of_C HR0.out))); have HC360 := Aside0.mk hC13; clear hA13 hC13 hi013 hsz13; obtain ⟨Ao14, co14, eo14⟩ := Kd.R_slice HO359.out; subst eo14) | (go_at_call 36; refine calls_of_args (args' := #[.slice Ao14 t356.length co14, .slice A0 (l0.take (t352 : Int).toNat).length c0]) (by first | (rw [show (l0.take (t352 : Int).toNat).length = t352.toNat from (by rw [List.length_take]; have h_ : (t352 : Int) ≤ (l0.length : Int) := of_decide_eq_true (by first | (with_reducible assumption) | assumption); omega)] <;> rfl) | (simp only [List.length_take, List.length_drop, Int.toNat_natCast] <;> rfl) | rfl) ?_; (with_reducible refine (bytes_Equal.calls _ _ t356 _ _ (l0.take (t352 : Int).toNat) true _ ?side1 ?side2 ?side3 ?side4 A8.out).mono ?_); (case side1 => repeat (first | exact (Kd.R_reads' HO359.out).2.2 | (with_reducible refine Kd.cA_ ?_ _) | (with_reducible refine Kd.cN_ ?_ _) | (with_reducible refine Kd.cD_ ?_))); (case side2 => exact (Kd.R_reads' HO359.out).2.1); (case side3 => repeat (first | exact (Kd.C_below HR360.out HB.out) | (with_reducible refine Kd.cA_ ?_ _) | (with_reducible refine Kd.cN_ ?_ _) | (with_reducible refine Kd.cD_ ?_))); (case side4 => exact HC360.out); rintro e w' ⟨rfl, ⟨nd, rfl⟩⟩))
      go_ret3
      exact ⟨_, by first | rfl | (simp [eWn_, eWs_] <;> rfl) | (simp [*, eWn_, eWs_] <;> rfl), by (with_reducible repeat (first | apply Kd.rA_ | apply Kd.rN_ | apply Kd.rD_)); exact HO355.out, by repeat (first | (with_reducible first | exact HB.out | apply pbA_ | apply pbN_ | apply pb1_) | exact HB.out)⟩
     ·replace c9 := Bool.eq_false_iff.mpr c9
      subst c9
      have H1 : (some (([] : List Int), 0, 2)) = some (r1, r2, r3) := by rw [if_neg (show ¬ (false = true) by decide)] at H; exact H
      clear H
      have H := H1
      clear H1
      simp only [Option.some.injEq, Prod.mk.injEq] at H
      obtain ⟨rfl, rfl, rfl⟩ := H
      go_enter Try.func16, Try.ntmps16
      go_wp2_with (first | ((with_reducible refine gaC_ (f := 35) rfl ?_); refine goesL_ (some 12) rfl rfl Try.func35 (by kernel_rfl) rfl #[.slice A0 l0.length c0] rfl (by (try simp only [List.map_toArray, List.map_cons, List.map_nil]); first | done | rfl | (simp only [List.length_drop, List.length_take]; rfl)) ?_; (with_reducible refine (pfor_read.calls k _ _ l0 t351 t352 true _ ?side1 ?side2 A2.out).mono ?_); (case side1 => repeat (first | exact HR0.out | (with_reducible refine Kd.cA_ ?_ _) | (with_reducible refine Kd.cN_ ?_ _) | (with_reducible refine Kd.cD_ ?_))); (case side2 => exact HC0.out); rintro e w15 ⟨v354, rfl, ho0, hb⟩; refine ⟨_, rfl, ?_⟩; have n0_ := Aside0.mk (Kd.R_lower ho0 (pbS_ (by repeat (first | (with_reducible first | exact HB.out | apply pbA_ | apply pbN_ | apply pb1_) | exact HB.out)))); have n1_ := Aside0.mk (below_step (by repeat (first | (with_reducible first | exact HB.out | apply pbA_ | apply pbN_ | apply pb1_) | exact HB.out)) hb); clear HB; have HO355 := n0_; have HB := n1_; clear n0_ n1_; (try clear hb); (try clear hb2); (try clear hk); (try clear hi); (try clear ho0); obtain ⟨Ao16, co16, eo16⟩ := Kd.R_slice HO355.out; subst eo16) | ((with_reducible refine gaC_ (f := 12) rfl ?_); refine goesL_ (some 20) rfl rfl Try.func12 (by kernel_rfl) rfl #[.slice none 0 0, .slice Ao16 t351.length co16] rfl (by (try simp only [List.map_toArray, List.map_cons, List.map_nil]); first | done | rfl | (simp only [List.length_drop, List.length_take]; rfl)) ?_; (refine (pfor_PutBlock.calls k _ _ ([] : List Int) _ _ t351 t356 t357 _ ?side1 ?side2 ?side3 ?side4 A4.out).mono ?_); (case side1 => exact Kd.C_nil _ _); (case side2 => exact Nat.le_refl _); (case side3 => repeat (first | exact (Kd.R_reads' HO355.out).2.2 | (with_reducible refine Kd.cA_ ?_ _) | (with_reducible refine Kd.cN_ ?_ _) | (with_reducible refine Kd.cD_ ?_))); (case side4 => exact (Kd.R_reads' HO355.out).2.1); rintro e w17 ⟨v358, rfl, ho0, hb⟩; refine ⟨_, rfl, ?_⟩; have n0_ := Aside0.mk (Kd.R_below (by (with_reducible repeat (first | apply Kd.rA_ | apply Kd.rN_ | apply Kd.rD_)); exact HO355.out) hb); have n1_ := Aside0.mk (Kd.R_lower ho0 (pbS_ (by repeat (first | (with_reducible first | exact HB.out | apply pbA_ | apply pbN_ | apply pb1_) | exact HB.out)))); have n2_ := Aside0.mk (below_step (by repeat (first | (with_reducible first | exact HB.out | apply pbA_ | apply pbN_ | apply pb1_) | exact HB.out)) hb); clear HO355; clear HB; have HO355 := n0_; have HO359 := n1_; have HB := n2_; clear n0_ n1_ n2_; (try clear hb); (try clear hb2); (try clear hk); (try clear hi); (try clear ho0); obtain ⟨i018, hi018, _, hsz18, _⟩ := info_parts info5; obtain ⟨hcut18, hA18, hC18⟩ := print_take_of (P := Try.prog) (Value.int .u8) 0 22 5 .i64 Try.underlying22 hi018 hsz18 A0 c0 l0 t352 (of_decide_eq_true (by first | (with_reducible assumption) | assumption)) (of_decide_eq_true (by first | (with_reducible assumption) | assumption)) HC0.out; have HR360 := Aside0.mk (Kd.C_of_reads (h1 := fun _ => rfl) (hA18 _ (Kd.reads_of_C HR0.out))); have HC360 := Aside0.mk hC18; clear hA18 hC18 hi018 hsz18; obtain ⟨Ao19, co19, eo19⟩ := Kd.R_slice HO359.out; subst eo19) | (go_at_call 36; refine calls_of_args (args' := #[.slice Ao19 t356.length co19, .slice A0 (l0.take (t352 : Int).toNat).length c0]) (by first | (rw [show (l0.take (t352 : Int).toNat).length = t352.toNat from (by rw [List.length_take]; have h_ : (t352 : Int) ≤ (l0.length : Int) := of_decide_eq_true (by first | (with_reducible assumption) | assumption); omega)] <;> rfl) | (simp only [List.length_take, List.length_drop, Int.toNat_natCast] <;> rfl) | rfl) ?_; (with_reducible refine (bytes_Equal.calls _ _ t356 _ _ (l0.take (t352 : Int).toNat) false _ ?side1 ?side2 ?side3 ?side4 A8.out).mono ?_); (case side1 => repeat (first | exact (Kd.R_reads' HO359.out).2.2 | (with_reducible refine Kd.cA_ ?_ _) | (with_reducible refine Kd.cN_ ?_ _) | (with_reducible refine Kd.cD_ ?_))); (case side2 => exact (Kd.R_reads' HO359.out).2.1); (case side3 => repeat (first | exact (Kd.C_below HR360.out HB.out) | (with_reducible refine Kd.cA_ ?_ _) | (with_reducible refine Kd.cN_ ?_ _) | (with_reducible refine Kd.cD_ ?_))); (case side4 => exact HC360.out); rintro e w' ⟨rfl, ⟨nd, rfl⟩⟩))
      go_ret3
      exact ⟨_, by first | rfl | (simp [eWn_, eWs_] <;> rfl) | (simp [*, eWn_, eWs_] <;> rfl), by first | exact Kd.R_nil _ _ _ _ _ | exact Kd.N_nil _ _ _ _ _ | exact Kd.V_nil _ _ _ _ _ | exact Kd.Q_nil _ _ _ _ _ | exact Kd.S_nil _ _ _ _ _, by repeat (first | (with_reducible first | exact HB.out | apply pbA_ | apply pbN_ | apply pb1_) | exact HB.out)⟩
    ·rw [if_neg c7] at H
     exact absurd H (by simp)
   ·rw [if_neg c6] at H
    exact absurd H (by simp)
  ·rw [if_neg c5] at H
   have c5b0 : (t357 == 0) = false := beq_eq_false_iff_ne.mpr c5
   have c5b1 : (t357 != 0) = true := bne_iff_ne.mpr c5
   simp only [Option.some.injEq, Prod.mk.injEq] at H
   obtain ⟨rfl, rfl, rfl⟩ := H
   go_enter Try.func16, Try.ntmps16
   go_wp2_with (first | ((with_reducible refine gaC_ (f := 35) rfl ?_); refine goesL_ (some 12) rfl rfl Try.func35 (by kernel_rfl) rfl #[.slice A0 l0.length c0] rfl (by (try simp only [List.map_toArray, List.map_cons, List.map_nil]); first | done | rfl | (simp only [List.length_drop, List.length_take]; rfl)) ?_; (with_reducible refine (pfor_read.calls k _ _ l0 t351 t352 true _ ?side1 ?side2 A2.out).mono ?_); (case side1 => repeat (first | exact HR0.out | (with_reducible refine Kd.cA_ ?_ _) | (with_reducible refine Kd.cN_ ?_ _) | (with_reducible refine Kd.cD_ ?_))); (case side2 => exact HC0.out); rintro e w20 ⟨v354, rfl, ho0, hb⟩; refine ⟨_, rfl, ?_⟩; have n0_ := Aside0.mk (Kd.R_lower ho0 (pbS_ (by repeat (first | (with_reducible first | exact HB.out | apply pbA_ | apply pbN_ | apply pb1_) | exact HB.out)))); have n1_ := Aside0.mk (below_step (by repeat (first | (with_reducible first | exact HB.out | apply pbA_ | apply pbN_ | apply pb1_) | exact HB.out)) hb); clear HB; have HO355 := n0_; have HB := n1_; clear n0_ n1_; (try clear hb); (try clear hb2); (try clear hk); (try clear hi); (try clear ho0); obtain ⟨Ao21, co21, eo21⟩ := Kd.R_slice HO355.out; subst eo21) | ((with_reducible refine gaC_ (f := 12) rfl ?_); refine goesL_ (some 20) rfl rfl Try.func12 (by kernel_rfl) rfl #[.slice none 0 0, .slice Ao21 t351.length co21] rfl (by (try simp only [List.map_toArray, List.map_cons, List.map_nil]); first | done | rfl | (simp only [List.length_drop, List.length_take]; rfl)) ?_; (refine (pfor_PutBlock.calls k _ _ ([] : List Int) _ _ t351 t356 t357 _ ?side1 ?side2 ?side3 ?side4 A4.out).mono ?_); (case side1 => exact Kd.C_nil _ _); (case side2 => exact Nat.le_refl _); (case side3 => repeat (first | exact (Kd.R_reads' HO355.out).2.2 | (with_reducible refine Kd.cA_ ?_ _) | (with_reducible refine Kd.cN_ ?_ _) | (with_reducible refine Kd.cD_ ?_))); (case side4 => exact (Kd.R_reads' HO355.out).2.1); rintro e w22 ⟨v358, rfl, ho0, hb⟩; refine ⟨_, rfl, ?_⟩; have n0_ := Aside0.mk (Kd.R_below (by (with_reducible repeat (first | apply Kd.rA_ | apply Kd.rN_ | apply Kd.rD_)); exact HO355.out) hb); have n1_ := Aside0.mk (Kd.R_lower ho0 (pbS_ (by repeat (first | (with_reducible first | exact HB.out | apply pbA_ | apply pbN_ | apply pb1_) | exact HB.out)))); have n2_ := Aside0.mk (below_step (by repeat (first | (with_reducible first | exact HB.out | apply pbA_ | apply pbN_ | apply pb1_) | exact HB.out)) hb); clear HO355; clear HB; have HO355 := n0_; have HO359 := n1_; have HB := n2_; clear n0_ n1_ n2_; (try clear hb); (try clear hb2); (try clear hk); (try clear hi); (try clear ho0)))
   go_ret3
   exact ⟨_, by first | rfl | (simp [eWn_, eWs_] <;> rfl) | (simp [*, eWn_, eWs_] <;> rfl), by first | exact Kd.R_nil _ _ _ _ _ | exact Kd.N_nil _ _ _ _ _ | exact Kd.V_nil _ _ _ _ _ | exact Kd.Q_nil _ _ _ _ _ | exact Kd.S_nil _ _ _ _ _, by repeat (first | (with_reducible first | exact HB.out | apply pbA_ | apply pbN_ | apply pb1_) | exact HB.out)⟩
 ·replace c3 := Bool.eq_false_iff.mpr c3
  subst c3
  have H1 : (some (([] : List Int), 0, 2)) = some (r1, r2, r3) := by rw [if_neg (show ¬ (false = true) by decide)] at H; exact H
  clear H
  have H := H1
  clear H1
  simp only [Option.some.injEq, Prod.mk.injEq] at H
  obtain ⟨rfl, rfl, rfl⟩ := H
  go_enter Try.func16, Try.ntmps16
  go_wp2_with (first | ((with_reducible refine gaC_ (f := 35) rfl ?_); refine goesL_ (some 12) rfl rfl Try.func35 (by kernel_rfl) rfl #[.slice A0 l0.length c0] rfl (by (try simp only [List.map_toArray, List.map_cons, List.map_nil]); first | done | rfl | (simp only [List.length_drop, List.length_take]; rfl)) ?_; (with_reducible refine (pfor_read.calls k _ _ l0 t351 t352 false _ ?side1 ?side2 A2.out).mono ?_); (case side1 => repeat (first | exact HR0.out | (with_reducible refine Kd.cA_ ?_ _) | (with_reducible refine Kd.cN_ ?_ _) | (with_reducible refine Kd.cD_ ?_))); (case side2 => exact HC0.out); rintro e w23 ⟨v354, rfl, ho0, hb⟩; refine ⟨_, rfl, ?_⟩; have n0_ := Aside0.mk (Kd.R_lower ho0 (pbS_ (by repeat (first | (with_reducible first | exact HB.out | apply pbA_ | apply pbN_ | apply pb1_) | exact HB.out)))); have n1_ := Aside0.mk (below_step (by repeat (first | (with_reducible first | exact HB.out | apply pbA_ | apply pbN_ | apply pb1_) | exact HB.out)) hb); clear HB; have HO355 := n0_; have HB := n1_; clear n0_ n1_; (try clear hb); (try clear hb2); (try clear hk); (try clear hi); (try clear ho0)))
  go_ret3
  exact ⟨_, by first | rfl | (simp [eWn_, eWs_] <;> rfl) | (simp [*, eWn_, eWs_] <;> rfl), by first | exact Kd.R_nil _ _ _ _ _ | exact Kd.N_nil _ _ _ _ _ | exact Kd.V_nil _ _ _ _ _ | exact Kd.Q_nil _ _ _ _ _ | exact Kd.S_nil _ _ _ _ _, by repeat (first | (with_reducible first | exact HB.out | apply pbA_ | apply pbN_ | apply pb1_) | exact HB.out)⟩
end Go.Proofs.Ytkcjjennlhgmhaa.P
end
section
namespace Go.Proofs.Ytkcjjennlhgmhaa.P
open Go.RowKit Go.Proofs.YtkcjjennlhgmhaaW.PrintWords Go.Proofs.YtkcjjennlhgmhaaW.PrintLast Go.Proofs.YtkcjjennlhgmhaaW.PrintMore
attribute [local go_sem] max2_int min2_int max_two min_two max_three min_three max_four min_four
set_option linter.unusedVariables false
set_option linter.unusedSimpArgs false
end Go.Proofs.Ytkcjjennlhgmhaa.P
end
section
namespace Go.Proofs.Ytkcjjennlhgmhaa.P
open Go.RowKit Go.Proofs.YtkcjjennlhgmhaaW.PrintWords Go.Proofs.YtkcjjennlhgmhaaW.PrintLast Go.Proofs.YtkcjjennlhgmhaaW.PrintMore
attribute [local go_sem] max2_int min2_int max_two min_two max_three min_three max_four min_four
set_option linter.unusedVariables false
set_option linter.unusedSimpArgs false
end Go.Proofs.Ytkcjjennlhgmhaa.P
end
section
namespace Go.Proofs.Ytkcjjennlhgmhaa.P
open Go.RowKit Go.Proofs.YtkcjjennlhgmhaaW.PrintWords Go.Proofs.YtkcjjennlhgmhaaW.PrintLast Go.Proofs.YtkcjjennlhgmhaaW.PrintMore
attribute [local go_sem] max2_int min2_int max_two min_two max_three min_three max_four min_four
set_option linter.unusedVariables false
set_option linter.unusedSimpArgs false
end Go.Proofs.Ytkcjjennlhgmhaa.P
end
