/- Words and proofs that UpIntsBack leans on; put together by wip/tools/shake.py. -/
import Derived.Test.YtcjkmmajokkkfaaZUpIntsBack7
import Derived.Test.YtcjkmmajokkkfaaZUpIntsBack13
import Derived.Test.YtcjkmmajokkkfaaZUpIntsBack14
section
namespace Go.Proofs.Ytcjkmmajokkkfaa.P
open Go.RowKit Go.Proofs.YtcjkmmajokkkfaaW.PrintWords Go.Proofs.YtcjkmmajokkkfaaW.PrintLast Go.Proofs.YtcjkmmajokkkfaaW.PrintMore
attribute [local go_sem] max2_int min2_int max_two min_two max_three min_three max_four min_four
set_option linter.unusedVariables false
set_option linter.unusedSimpArgs false
mutual
def bits_Unpack.j0 : Nat → List Int → Int → Int → Bool → Option (List Int × Int)
 | 0, _, _, _, _ => none
 | k + 1, x0, x1, x2, x28 => if x28 = true then (some (([] : List Int), 1)) else (if (x0.length : Int) < (wrap64 (Int.tdiv (wrap64 ((wrap64 (x1 * x2)) + 7)) 8)) then (some (([] : List Int), 3)) else (if (x0.length : Int) > (wrap64 (Int.tdiv (wrap64 ((wrap64 (x1 * x2)) + 7)) 8)) then (some (([] : List Int), 2)) else (if (Int.tmod (wrap64 (x1 * x2)) 8) > 0 then (if 0 ≤ (wrap64 ((wrap64 (Int.tdiv (wrap64 ((wrap64 (x1 * x2)) + 7)) 8)) - 1)) then (if (wrap64 ((wrap64 (Int.tdiv (wrap64 ((wrap64 (x1 * x2)) + 7)) 8)) - 1)) < (x0.length : Int) then (if 0 ≤ (Int.tmod (wrap64 (x1 * x2)) 8) then (bits_Unpack.j1 k x0 x1 x2 ((shr .u8 (rd x0 (wrap64 ((wrap64 (Int.tdiv (wrap64 ((wrap64 (x1 * x2)) + 7)) 8)) - 1))) (Int.tmod (wrap64 (x1 * x2)) 8)) != 0)) else (none)) else (none)) else (none)) else (bits_Unpack.j1 k x0 x1 x2 false))))
def bits_Unpack.j1 : Nat → List Int → Int → Int → Bool → Option (List Int × Int)
 | 0, _, _, _, _ => none
 | k + 1, x0, x1, x2, x59 => if x59 = true then (some (([] : List Int), 2)) else (if 0 ≤ x1 then (if (x1 : Int).toNat ≤ 35184372088832 then ((some (List.replicate (x1 : Int).toNat 0 : List Int)).bind fun y505 => (bits_Unpack.l0 k x0 x2 y505 0 (y505.length : Int) 0)) else (none)) else (none))
def bits_Unpack.l0 : Nat → List Int → Int → List Int → Int → Int → Int → Option (List Int × Int)
 | 0, _, _, _, _, _, _ => none
 | k + 1, x0, x2, x10, x11, x63, x64 => if x64 < x63 then (bits_Unpack.l1 k x0 x2 x10 x11 x64 0 x63 x64) else (some (x10, 0))
def bits_Unpack.l1 : Nat → List Int → Int → List Int → Int → Int → Int → Int → Int → Option (List Int × Int)
 | 0, _, _, _, _, _, _, _, _ => none
 | k + 1, x0, x2, x10, x11, x12, x13, x63, x64 => if x13 < x2 then (if 0 ≤ x12 then (if x12 < (x10.length : Int) then (if 0 ≤ (wrap64 (Int.tdiv x11 8)) then (if (wrap64 (Int.tdiv x11 8)) < (x0.length : Int) then (if 0 ≤ (Int.tmod x11 8) then (if 0 ≤ (mn (wrap64 (x2 - x13)) (wrap64 (8 - (Int.tmod x11 8)))) then (if 0 ≤ x13 then (bits_Unpack.l1 k x0 x2 (x10.set (x12 : Int).toNat (Go.bits .or .u64 (rd x10 x12) (shl .u64 (IntKind.u64.wrap (Go.bits .and .u8 (shr .u8 (rd x0 (wrap64 (Int.tdiv x11 8))) (Int.tmod x11 8)) (((shl .u8 1 (mn (wrap64 (x2 - x13)) (wrap64 (8 - (Int.tmod x11 8))))) - 1) % 256))) x13))) (wrap64 (x11 + (mn (wrap64 (x2 - x13)) (wrap64 (8 - (Int.tmod x11 8)))))) x12 (wrap64 (x13 + (mn (wrap64 (x2 - x13)) (wrap64 (8 - (Int.tmod x11 8)))))) x63 x64) else (none)) else (none)) else (none)) else (none)) else (none)) else (none)) else (none)) else (bits_Unpack.l0 k x0 x2 x10 x11 x63 (wrap64 (x64 + 1)))
end
def bits_Unpack.f (k : Nat) (l0 : List Int) (a1 : Int) (a2 : Int) : Option (List Int × Int) := if a2 < 0 then (bits_Unpack.j0 k l0 a1 a2 true) else (if a2 > 64 then (bits_Unpack.j0 k l0 a1 a2 true) else (if a1 < 0 then (bits_Unpack.j0 k l0 a1 a2 true) else (bits_Unpack.j0 k l0 a1 a2 (decide (a1 > 4096)))))
theorem bits_Unpack.mono_l : ∀ k, (∀ y0 y1 y2 y3, LeO (bits_Unpack.j0 k y0 y1 y2 y3) (bits_Unpack.j0 (k + 1) y0 y1 y2 y3)) ∧ (∀ y0 y1 y2 y3, LeO (bits_Unpack.j1 k y0 y1 y2 y3) (bits_Unpack.j1 (k + 1) y0 y1 y2 y3)) ∧ (∀ y0 y1 y2 y3 y4 y5, LeO (bits_Unpack.l0 k y0 y1 y2 y3 y4 y5) (bits_Unpack.l0 (k + 1) y0 y1 y2 y3 y4 y5)) ∧ (∀ y0 y1 y2 y3 y4 y5 y6 y7, LeO (bits_Unpack.l1 k y0 y1 y2 y3 y4 y5 y6 y7) (bits_Unpack.l1 (k + 1) y0 y1 y2 y3 y4 y5 y6 y7))
 | 0 => ⟨fun _ _ _ _ r h => by simp [bits_Unpack.j0] at h, fun _ _ _ _ r h => by simp [bits_Unpack.j1] at h, fun _ _ _ _ _ _ r h => by simp [bits_Unpack.l0] at h, fun _ _ _ _ _ _ _ _ r h => by simp [bits_Unpack.l1] at h⟩
 | k + 1 => by
  obtain ⟨ih0, ih1, ih2, ih3⟩ := bits_Unpack.mono_l k
  refine ⟨?_, ?_, ?_, ?_⟩
  ·intro y0 y1 y2 y3
   unfold bits_Unpack.j0
   repeat' first
   | (with_reducible exact ih0 _ _ _ _)
   | (with_reducible exact ih1 _ _ _ _)
   | (with_reducible exact ih2 _ _ _ _ _ _)
   | (with_reducible exact ih3 _ _ _ _ _ _ _ _)
   | (with_reducible exact LeO.refl _)
   | (with_reducible exact LeO.none _)
   | (with_reducible refine LeO.ite ?_ ?_)
   | (with_reducible refine LeO.bind ?_ (fun _ => ?_))
  ·intro y0 y1 y2 y3
   unfold bits_Unpack.j1
   repeat' first
   | (with_reducible exact ih0 _ _ _ _)
   | (with_reducible exact ih1 _ _ _ _)
   | (with_reducible exact ih2 _ _ _ _ _ _)
   | (with_reducible exact ih3 _ _ _ _ _ _ _ _)
   | (with_reducible exact LeO.refl _)
   | (with_reducible exact LeO.none _)
   | (with_reducible refine LeO.ite ?_ ?_)
   | (with_reducible refine LeO.bind ?_ (fun _ => ?_))
  ·intro y0 y1 y2 y3 y4 y5
   unfold bits_Unpack.l0
   repeat' first
   | (with_reducible exact ih0 _ _ _ _)
   | (with_reducible exact ih1 _ _ _ _)
   | (with_reducible exact ih2 _ _ _ _ _ _)
   | (with_reducible exact ih3 _ _ _ _ _ _ _ _)
   | (with_reducible exact LeO.refl _)
   | (with_reducible exact LeO.none _)
   | (with_reducible refine LeO.ite ?_ ?_)
   | (with_reducible refine LeO.bind ?_ (fun _ => ?_))
  ·intro y0 y1 y2 y3 y4 y5 y6 y7
   unfold bits_Unpack.l1
   repeat' first
   | (with_reducible exact ih0 _ _ _ _)
   | (with_reducible exact ih1 _ _ _ _)
   | (with_reducible exact ih2 _ _ _ _ _ _)
   | (with_reducible exact ih3 _ _ _ _ _ _ _ _)
   | (with_reducible exact LeO.refl _)
   | (with_reducible exact LeO.none _)
   | (with_reducible refine LeO.ite ?_ ?_)
   | (with_reducible refine LeO.bind ?_ (fun _ => ?_))
theorem bits_Unpack.mono : ∀ a0 a1 a2 k, LeO (bits_Unpack.f k a0 a1 a2) (bits_Unpack.f (k + 1) a0 a1 a2) := by
 intro a0 a1 a2 k
 obtain ⟨ih0, ih1, ih2, ih3⟩ := bits_Unpack.mono_l k
 unfold bits_Unpack.f
 repeat' first
   | (with_reducible exact ih0 _ _ _ _)
   | (with_reducible exact ih1 _ _ _ _)
   | (with_reducible exact ih2 _ _ _ _ _ _)
   | (with_reducible exact ih3 _ _ _ _ _ _ _ _)
   | (with_reducible exact LeO.refl _)
   | (with_reducible exact LeO.none _)
   | (with_reducible refine LeO.ite ?_ ?_)
   | (with_reducible refine LeO.bind ?_ (fun _ => ?_))
def bits_Unpack.T19 : Bool × List (List Nat × List Nat) := (true, [([], []), ([], []), ([0, 1], [0, 1]), ([2], [2]), ([], []), ([], []), ([5], [5]), ([4, 6], [4, 6]), ([7], [7]), ([], []), ([9], [9]), ([8, 10], [8, 10]), ([], []), ([12], [12]), ([13], [13]), ([11, 14], [11, 14]), ([15], [15]), ([], []), ([16, 17], [16, 17]), ([3, 18], [3, 18]), ([0, 1, 0, 1, 2, 3, 4, 5, 6, 7, 8, 9, 10, 11, 12, 13, 14, 15, 16, 17, 18, 19], [0, 1]), ([20, 19, 0, 1, 2, 3, 4, 5, 6, 7, 8, 9, 10, 11, 12, 13, 14, 15, 16, 17, 18, 19], [19, 20])])
def bits_Unpack.B19 : List Nat := [0, 0, 3, 7, 0, 0, 32, 112, 240, 0, 512, 2032, 0, 4096, 12288, 32752, 65520, 0, 262128, 524287, 1048575, 2097151]
theorem bits_Unpack.tab19 : rtab .any (opsOf Try.f39 19) = bits_Unpack.T19 := by kernel_rfl
theorem bits_Unpack.bits19 : waitsOk bits_Unpack.T19.2 bits_Unpack.B19 = true := by kernel_rfl
set_option maxHeartbeats 8000000 in
set_option maxRecDepth 100000 in
theorem bits_Unpack.calls (k : Nat) (A0 : Option Addr) (c0 : Nat) (l0 : List Int) (a1 : Int) (a2 : Int) (r1 : List Int) (r2 : Int) (w : World) (hr0 : Kd.C (Kd.int .u8) w A0 l0.length l0) (hc0 : l0.length ≤ c0) (h : bits_Unpack.f k l0 a1 a2 = some (r1, r2)) :
  Calls Try.prog 39 #[.slice A0 l0.length c0, .int .i64 a1, .int .i64 a2] w fun e w' => ∃ v0_ : Value, e = .returned (.tuple #[v0_, .int .i64 r2]) ∧ Kd.R (Kd.int .u64) 50 w' w.heap.size (fun _ => True) v0_ r1 ∧ Below w.heap.size w w' := by
 have HR0 := Aside0.mk hr0
 have HC0 := Aside0.mk hc0
 clear hr0 hc0
 have HB := Aside0.mk (Below.refl w.heap.size w)
 have H : (if a2 < 0 then (bits_Unpack.j0 k l0 a1 a2 true) else (if a2 > 64 then (bits_Unpack.j0 k l0 a1 a2 true) else (if a1 < 0 then (bits_Unpack.j0 k l0 a1 a2 true) else (bits_Unpack.j0 k l0 a1 a2 (decide (a1 > 4096)))))) = some (r1, r2) := h
 clear h
 have HC4 := Aside0.mk H
 clear H
 go_enter Try.func39, Try.ntmps39
 go_upto_region 1 with (fail)
 go_cut [28] (fun v28 wc => ∃ (kq : Nat) (x28_3 : Bool), v28 = .bool x28_3 ∧ Aside0 (bits_Unpack.j0 kq l0 a1 a2 x28_3 = some (r1, r2)) ∧ Aside0 (kq ≤ k) ∧ Aside0 (Below w.heap.size w wc))
 case first =>
  have H := HC4.out
  clear HC4
  by_cases c5 : a2 < 0
  ·rw [if_pos c5] at H
   have c5b0 : decide (a2 < 0) = true := decide_eq_true c5
   clear c5
   (first | rw [c5b0] | (simp only [i64_w, i32_w]; rw [c5b0]) | skip)
   have H' := Aside0.mk H
   clear H
   go_wp2
   go_meet
   case rel => exact ⟨_, (true), (by first | rfl | (simp; done) | (simp [*]; done)), H', ⟨by first | omega | exact Nat.le_refl _⟩, ⟨bw_⟩⟩
  ·rw [if_neg c5] at H
   have c5b0 : decide (a2 < 0) = false := decide_eq_false c5
   clear c5
   (first | rw [c5b0] | (simp only [i64_w, i32_w]; rw [c5b0]) | skip)
   by_cases c6 : a2 > 64
   ·rw [if_pos c6] at H
    have c6b0 : decide (64 < a2) = true := decide_eq_true c6
    clear c6
    have H' := Aside0.mk H
    clear H
    go_wp2
    go_meet
    case rel => exact ⟨_, (true), (by first | rfl | (simp; done) | (simp [*]; done)), H', ⟨by first | omega | exact Nat.le_refl _⟩, ⟨bw_⟩⟩
   ·rw [if_neg c6] at H
    have c6b0 : decide (64 < a2) = false := decide_eq_false c6
    clear c6
    by_cases c7 : a1 < 0
    rotate_left
    ·rw [if_neg c7] at H
     have c7b0 : decide (a1 < 0) = false := decide_eq_false c7
     clear c7
     have H' := Aside0.mk H
     clear H
     go_wp2
     go_meet
     case rel => exact ⟨_, (decide (a1 > 4096)), (by first | rfl | (simp; done) | (simp [*]; done)), H', ⟨by first | omega | exact Nat.le_refl _⟩, ⟨bw_⟩⟩
    rw [if_pos c7] at H
    have c7b0 : decide (a1 < 0) = true := decide_eq_true c7
    clear c7
    have H' := Aside0.mk H
    clear H
    go_wp2
    go_meet
    case rel => exact ⟨_, (true), (by first | rfl | (simp; done) | (simp [*]; done)), H', ⟨by first | omega | exact Nat.le_refl _⟩, ⟨bw_⟩⟩
 case rest =>
  clear HC4
  try clear p2
  try clear c3
  try clear c5
  try clear c5b0
  try clear c6
  try clear c6b0
  try clear c7
  try clear c7b0
  obtain ⟨kq, x28_3, rfl, HA, HJ3, HB⟩ := hcut
  cases kq with
  | zero => exact absurd HA.out (by simp [bits_Unpack.j0])
  | succ kj3 =>
   have H := HA.out
   clear HA
   simp only [bits_Unpack.j0] at H
   by_cases c8 : x28_3 = true
   ·subst c8
    have H1 : (some (([] : List Int), 1)) = some (r1, r2) := by rw [if_pos rfl] at H; exact H
    clear H
    have H := H1
    clear H1
    simp only [Option.some.injEq, Prod.mk.injEq] at H
    obtain ⟨rfl, rfl⟩ := H
    go_wp2
    go_ret2
    exact ⟨_, rf_, ni_, bw_⟩
   ·replace c8 := Bool.eq_false_iff.mpr c8
    subst c8
    have H1 : (if (l0.length : Int) < (wrap64 (Int.tdiv (wrap64 ((wrap64 (a1 * a2)) + 7)) 8)) then (some (([] : List Int), 3)) else (if (l0.length : Int) > (wrap64 (Int.tdiv (wrap64 ((wrap64 (a1 * a2)) + 7)) 8)) then (some (([] : List Int), 2)) else (if (Int.tmod (wrap64 (a1 * a2)) 8) > 0 then (if 0 ≤ (wrap64 ((wrap64 (Int.tdiv (wrap64 ((wrap64 (a1 * a2)) + 7)) 8)) - 1)) then (if (wrap64 ((wrap64 (Int.tdiv (wrap64 ((wrap64 (a1 * a2)) + 7)) 8)) - 1)) < (l0.length : Int) then (if 0 ≤ (Int.tmod (wrap64 (a1 * a2)) 8) then (bits_Unpack.j1 kj3 l0 a1 a2 ((shr .u8 (rd l0 (wrap64 ((wrap64 (Int.tdiv (wrap64 ((wrap64 (a1 * a2)) + 7)) 8)) - 1))) (Int.tmod (wrap64 (a1 * a2)) 8)) != 0)) else (none)) else (none)) else (none)) else (bits_Unpack.j1 kj3 l0 a1 a2 false)))) = some (r1, r2) := by rw [if_neg (show ¬ (false = true) by decide)] at H; exact H
    clear H
    have H := H1
    clear H1
    by_cases c9 : (l0.length : Int) < (wrap64 (Int.tdiv (wrap64 ((wrap64 (a1 * a2)) + 7)) 8))
    ·rw [if_pos c9] at H
     have c9b0 : decide ((l0.length : Int) < (wrap64 (Int.tdiv (wrap64 ((wrap64 (a1 * a2)) + 7)) 8))) = true := decide_eq_true c9
     clear c9
     simp only [Option.some.injEq, Prod.mk.injEq] at H
     obtain ⟨rfl, rfl⟩ := H
     go_wp2
     go_ret2
     exact ⟨_, rf_, ni_, bw_⟩
    ·rw [if_neg c9] at H
     have c9b0 : decide ((l0.length : Int) < (wrap64 (Int.tdiv (wrap64 ((wrap64 (a1 * a2)) + 7)) 8))) = false := decide_eq_false c9
     clear c9
     by_cases c10 : (l0.length : Int) > (wrap64 (Int.tdiv (wrap64 ((wrap64 (a1 * a2)) + 7)) 8))
     ·rw [if_pos c10] at H
      have c10b0 : decide ((wrap64 (Int.tdiv (wrap64 ((wrap64 (a1 * a2)) + 7)) 8)) < (l0.length : Int)) = true := decide_eq_true c10
      clear c10
      simp only [Option.some.injEq, Prod.mk.injEq] at H
      obtain ⟨rfl, rfl⟩ := H
      go_wp2
      go_ret2
      exact ⟨_, rf_, ni_, bw_⟩
     ·rw [if_neg c10] at H
      have c10b0 : decide ((wrap64 (Int.tdiv (wrap64 ((wrap64 (a1 * a2)) + 7)) 8)) < (l0.length : Int)) = false := decide_eq_false c10
      clear c10
      have HC11 := Aside0.mk H
      clear H
      go_upto_region 9 with (fail)
      go_cut [59] (fun v59 wc => ∃ (kq : Nat) (x59_10 : Bool), v59 = .bool x59_10 ∧ Aside0 (bits_Unpack.j1 kq l0 a1 a2 x59_10 = some (r1, r2)) ∧ Aside0 (kq ≤ kj3) ∧ Aside0 (Below w.heap.size w wc))
      case first =>
       have H := HC11.out
       clear HC11
       by_cases c12 : (Int.tmod (wrap64 (a1 * a2)) 8) > 0
       rotate_left
       ·rw [if_neg c12] at H
        have c12b0 : decide (0 < (Int.tmod (wrap64 (a1 * a2)) 8)) = false := decide_eq_false c12
        clear c12
        (first | rw [c12b0] | (simp only [i64_w, i32_w]; rw [c12b0]) | skip)
        have H' := Aside0.mk H
        clear H
        go_wp2
        go_meet
        case rel => exact ⟨_, (false), (by first | rfl | (simp; done) | (simp [*]; done)), H', ⟨by have := HJ3.out; first | omega | exact Nat.le_refl _⟩, ⟨bw_⟩⟩
       rw [if_pos c12] at H
       have c12b0 : decide (0 < (Int.tmod (wrap64 (a1 * a2)) 8)) = true := decide_eq_true c12
       clear c12
       (first | rw [c12b0] | (simp only [i64_w, i32_w]; rw [c12b0]) | skip)
       obtain ⟨ji13, hji13⟩ : ∃ j_ : Int, (wrap64 ((wrap64 (Int.tdiv (wrap64 ((wrap64 (a1 * a2)) + 7)) 8)) - 1)) = j_ := ⟨_, rfl⟩
       replace H : (if 0 ≤ (ji13) then (if (ji13) < (l0.length : Int) then (if 0 ≤ (Int.tmod (wrap64 (a1 * a2)) 8) then (bits_Unpack.j1 kj3 l0 a1 a2 ((shr .u8 (rd l0 (ji13)) (Int.tmod (wrap64 (a1 * a2)) 8)) != 0)) else (none)) else (none)) else (none)) = some (r1, r2) := by first | (rw [hji13] at H; exact H) | (simp only [hji13] at H ⊢; exact H)
       have hji13w : (IntKind.i64.wrap ((wrap64 (Int.tdiv (wrap64 ((wrap64 (a1 * a2)) + 7)) 8)) - 1)) = ji13 := (i64_w _).trans hji13
       by_cases c14 : 0 ≤ (ji13)
       rotate_left
       ·rw [if_neg c14] at H
        exact absurd H (by simp)
       rw [if_pos c14] at H
       have c14b0 : decide (0 ≤ (ji13)) = true := decide_eq_true c14
       clear c14
       by_cases c15 : (ji13) < (l0.length : Int)
       rotate_left
       ·rw [if_neg c15] at H
        exact absurd H (by simp)
       rw [if_pos c15] at H
       have c15b0 : decide ((ji13) < (l0.length : Int)) = true := decide_eq_true c15
       clear c15
       obtain ⟨ji16, hji16⟩ : ∃ j_ : Int, (Int.tmod (wrap64 (a1 * a2)) 8) = j_ := ⟨_, rfl⟩
       replace H : (if 0 ≤ (ji16) then (bits_Unpack.j1 kj3 l0 a1 a2 ((shr .u8 (rd l0 (ji13)) (ji16)) != 0)) else (none)) = some (r1, r2) := by first | (rw [hji16] at H; exact H) | (simp only [hji16] at H ⊢; exact H)
       (try rw [hji16] at c12b0)
       by_cases c17 : 0 ≤ (ji16)
       rotate_left
       ·rw [if_neg c17] at H
        exact absurd H (by simp)
       rw [if_pos c17] at H
       have c17b0 := eq_true c17
       have c17b1 : decide (0 ≤ (ji16)) = true := decide_eq_true c17
       clear c17
       obtain ⟨ji18, hji18⟩ : ∃ j_ : Int, (shr .u8 (rd l0 (ji13)) (ji16)) = j_ := ⟨_, rfl⟩
       replace H : (bits_Unpack.j1 kj3 l0 a1 a2 ((ji18) != 0)) = some (r1, r2) := by first | (rw [hji18] at H; exact H) | (simp only [hji18] at H ⊢; exact H)
       have hji18_ : ((rd l0 (ji13)) / 2 ^ min (ji16).toNat 8) = ji18 := hji18
       have hji18z : (ji16) ≤ 8 → ((rd l0 (ji13)) / 2 ^ (ji16).toNat) = ji18 := shr_small hji18
       have H' := Aside0.mk H
       clear H
       have p504 : 0 ≤ ((ji13) : Int) := od_
       have q504 : (ji13) < (l0.length : Int) := od_
       obtain ⟨ad504, e504, hx504_0⟩ := Kd.at_int HR0.out (ji13) p504 q504
       cases e504
       replace hx504_0 := (HB.out.cell (World.block_lt_of_cell? w _ hx504_0)).trans hx504_0
       replace p504 := eq_true p504
       replace q504 := eq_true q504
       go_wp2
       (try subst hji18 hji16 hji13)
       go_meet
       case rel => exact ⟨_, ((((shr .u8 (rd l0 ((wrap64 ((wrap64 (Int.tdiv (wrap64 ((wrap64 (a1 * a2)) + 7)) 8)) - 1)))) ((Int.tmod (wrap64 (a1 * a2)) 8)))) != 0)), (by first | rfl | (simp; done) | (simp only [← hji18] <;> (first | rfl | simp)) | (simp [*]; done)), H', ⟨by have := HJ3.out; first | omega | exact Nat.le_refl _⟩, ⟨bw_⟩⟩
      case rest =>
       clear HC11
       try clear c1
       try clear p2
       try clear c3
       try clear c5
       try clear c5b0
       try clear p5
       try clear q5
       try clear hx5
       try clear c6
       try clear c6b0
       try clear p6
       try clear c7
       try clear c7b0
       try clear c8
       try clear c9
       try clear c9b0
       try clear c10
       try clear c10b0
       try clear c12
       try clear c12b0
       try clear c14
       try clear c14b0
       try clear c15
       try clear c15b0
       try clear c17
       try clear c17b0
       try clear c17b1
       try clear hx504_0
       try clear p2
       try clear p504
       try clear q504
       obtain ⟨kq, x59_10, rfl, HA, HJ10, HB⟩ := hcut
       cases kq with
       | zero => exact absurd HA.out (by simp [bits_Unpack.j1])
       | succ kj10 =>
        have H := HA.out
        clear HA
        simp only [bits_Unpack.j1] at H
        by_cases c19 : x59_10 = true
        ·subst c19
         have H1 : (some (([] : List Int), 2)) = some (r1, r2) := by rw [if_pos rfl] at H; exact H
         clear H
         have H := H1
         clear H1
         simp only [Option.some.injEq, Prod.mk.injEq] at H
         obtain ⟨rfl, rfl⟩ := H
         go_wp2
         go_ret2
         exact ⟨_, rf_, ni_, bw_⟩
        ·replace c19 := Bool.eq_false_iff.mpr c19
         subst c19
         have H1 : (if 0 ≤ a1 then (if (a1 : Int).toNat ≤ 35184372088832 then ((some (List.replicate (a1 : Int).toNat 0 : List Int)).bind fun y505 => (bits_Unpack.l0 kj10 l0 a2 y505 0 (y505.length : Int) 0)) else (none)) else (none)) = some (r1, r2) := by rw [if_neg (show ¬ (false = true) by decide)] at H; exact H
         clear H
         have H := H1
         clear H1
         by_cases c20 : 0 ≤ a1
         rotate_left
         ·rw [if_neg c20] at H
          exact absurd H (by simp)
         rw [if_pos c20] at H
         have c20b0 := eq_true c20
         have c20b1 : decide (0 ≤ a1) = true := decide_eq_true c20
         clear c20
         by_cases c21 : (a1 : Int).toNat ≤ 35184372088832
         rotate_left
         ·rw [if_neg c21] at H
          exact absurd H (by simp)
         rw [if_pos c21] at H
         have c21b0 := eq_true c21
         have c21b1 : decide ((a1 : Int).toNat ≤ 35184372088832) = true := decide_eq_true c21
         clear c21
         obtain ⟨y505, hy505⟩ : ∃ y_ : List Int, y_ = (List.replicate (a1 : Int).toNat 0) := ⟨_, rfl⟩
         replace H : (bits_Unpack.l0 kj10 l0 a2 y505 0 (y505.length : Int) 0) = some (r1, r2) := by first | (rw [hy505]; with_reducible exact H) | (have H2_ := (Option.bind_some _ _).symm.trans H; rw [hy505]; with_reducible exact H2_) | (have H2_ := (Option.bind_some _ _).symm.trans H; with_reducible exact H2_) | with_reducible exact H | (rw [hy505]; exact H) | exact H
         have Ny505 := Aside0.mk hy505
         clear hy505
         have H' := Aside0.mk H
         clear H
         go_wp2_with (first | ((with_reducible refine gate_dst (N := 61) rfl ?_); refine Kd.R_make (Kd.int .u64) _ 50 rfl (N := 61) rfl 49 _ _ rfl a1 rfl rfl Try.underlying49 (.int .u64 0) 8 info50 rfl (by decide) (by omega) 0 (ok := fun _ => True) (okp := fun _ => True) rfl (fun _ hk => hk) trivial od_ (Nat.le_trans (Nat.mul_le_mul_right _ (od_ : a1.toNat ≤ 35184372088832)) (by omega)) (Below.refl _ _) (Nat.le_refl _) ?_; intro v506 w22 ho23 hb hg_ hnew_; clear hg_ hnew_; (first | rw [← Ny505.out] at ho23 | (simp only [Int.reduceToNat] at ho23; rw [← Ny505.out] at ho23)); have HO507 := Aside0.mk (Kd.R_lower ho23 (pbS_ bw_)); replace HB := Aside0.mk (below_step bw_ hb); clear hb ho23; obtain ⟨Ao24, co24, eo24⟩ := Kd.R_slice HO507.out; subst eo24))
         go_loopg [11, 64] kj10 (fun kq v11 v64 w' => ∃ (x10_3 : List Int) (x11_3 : Int) (x64_3 : Int), v11 = .int .i64 x11_3 ∧ v64 = .int .i64 x64_3 ∧ Aside0 (bits_Unpack.l0 kq l0 a2 x10_3 x11_3 (y505.length : Int) x64_3 = some (r1, r2)) ∧ Aside0 (kq ≤ kj10) ∧ Aside0 (Kd.R (Kd.int .u64) 50 w' w.heap.size (fun _ => True) (.slice Ao24 y505.length co24) x10_3) ∧ Aside0 (Below w.heap.size w w'))
         case atStart => exact ⟨(y505), (0), (0), (by first | rfl | (simp; done) | (simp [*]; done)), (by first | rfl | (simp; done) | (simp [*]; done)), H', ⟨Nat.le_refl _⟩, ⟨Kd.ru_ HO507.out⟩, ⟨bw_⟩⟩
         case round =>
          clear H'
          try clear c1
          try clear c2
          try clear p2
          try clear c3
          try clear c5
          try clear c5b0
          try clear p5
          try clear q5
          try clear hx5
          try clear c6
          try clear c6b0
          try clear p6
          try clear c7
          try clear c7b0
          try clear c8
          try clear c9
          try clear c9b0
          try clear c10
          try clear c10b0
          try clear c12
          try clear c12b0
          try clear c14
          try clear c14b0
          try clear c15
          try clear c15b0
          try clear c17
          try clear c17b0
          try clear c17b1
          try clear c19
          try clear c20
          try clear c20b0
          try clear c20b1
          try clear c21
          try clear c21b0
          try clear c21b1
          try clear hx504_0
          try clear p2
          try clear p5
          try clear p504
          try clear p6
          try clear q5
          try clear q504
          obtain ⟨x10_3, x11_3, x64_3, rfl, rfl, HA, HK3, HO_10, HB⟩ := hrel
          have hl10_3 := (Kd.R_reads' HO_10.out).1
          rw [hl10_3] at HO_10
          (try simp only [hl10_3])
          cases gk with
          | zero => exact absurd HA.out (by simp [bits_Unpack.l0])
          | succ k3 =>
           have H := HA.out
           clear HA
           simp only [bits_Unpack.l0] at H
           by_cases c25 : x64_3 < (y505.length : Int)
           rotate_left
           ·rw [if_neg c25] at H
            have c25b0 : decide (x64_3 < (y505.length : Int)) = false := decide_eq_false c25
            (try (have c25b0h := c25b0; simp only [hl10_3] at c25b0h))
            clear c25
            simp only [Option.some.injEq, Prod.mk.injEq] at H
            obtain ⟨rfl, rfl⟩ := H
            go_wp2
            go_ret2
            exact ⟨_, rf_, by (with_reducible repeat (first | apply Kd.rA_ | apply Kd.rN_ | apply Kd.rD_)); exact HO_10.out, bw_⟩
           rw [if_pos c25] at H
           have c25b0 : decide (x64_3 < (y505.length : Int)) = true := decide_eq_true c25
           (try (have c25b0h := c25b0; simp only [hl10_3] at c25b0h))
           clear c25
           have H' := Aside0.mk H
           clear H
           go_wp2
           go_loopg [11, 13] k3 (fun kq v11 v13 w' => ∃ (x10_4 : List Int) (x11_4 : Int) (x13_4 : Int), v11 = .int .i64 x11_4 ∧ v13 = .int .i64 x13_4 ∧ Aside0 (bits_Unpack.l1 kq l0 a2 x10_4 x11_4 x64_3 x13_4 (y505.length : Int) x64_3 = some (r1, r2)) ∧ Aside0 (kq ≤ k3) ∧ Aside0 (Kd.R (Kd.int .u64) 50 w' w.heap.size (fun _ => True) (.slice Ao24 x10_3.length co24) x10_4) ∧ Aside0 (Below w.heap.size w w'))
           case atStart => exact ⟨(x10_3), (x11_3), (0), (by first | rfl | (simp; done) | (simp [*]; done)), (by first | rfl | (simp; done) | (simp [*]; done)), H', ⟨Nat.le_refl _⟩, ⟨by (try simp only [hl10_3]); (with_reducible repeat (first | apply Kd.rA_ | apply Kd.rN_ | apply Kd.rD_)); exact HO_10.out⟩, ⟨bw_⟩⟩
           case round =>
            clear H'
            try clear c1
            try clear c2
            try clear p2
            try clear c3
            try clear c5
            try clear c5b0
            try clear p5
            try clear q5
            try clear hx5
            try clear c6
            try clear c6b0
            try clear p6
            try clear c7
            try clear c7b0
            try clear c8
            try clear c9
            try clear c9b0
            try clear c10
            try clear c10b0
            try clear c12
            try clear c12b0
            try clear c14
            try clear c14b0
            try clear c15
            try clear c15b0
            try clear c17
            try clear c17b0
            try clear c17b1
            try clear c19
            try clear c20
            try clear c20b0
            try clear c20b1
            try clear c21
            try clear c21b0
            try clear c21b1
            try clear c25
            try clear c25b0
            try clear hx504_0
            try clear p2
            try clear p5
            try clear p504
            try clear p6
            try clear q5
            try clear q504
            obtain ⟨x10_4, x11_4, x13_4, rfl, rfl, HA, HK4, HO_10, HB⟩ := hrel
            have hl10_4 := (Kd.R_reads' HO_10.out).1
            rw [hl10_4] at HO_10
            (try simp only [hl10_4])
            cases gk with
            | zero => exact absurd HA.out (by simp [bits_Unpack.l1])
            | succ k4 =>
             have H := HA.out
             clear HA
             simp only [bits_Unpack.l1] at H
             by_cases c26 : x13_4 < a2
             rotate_left
             ·rw [if_neg c26] at H
              have c26b0 : decide (x13_4 < a2) = false := decide_eq_false c26
              clear c26
              have H' := Aside0.mk H
              clear H
              go_wp2
              (try simp only [← hl10_3, ← hl10_4])
              go_roundg k4
              case measure => have := HJ3.out; have := HJ10.out; have := HK3.out; have := HK4.out; omega
              case rel => exact ⟨(x10_4), (x11_4), (wrap64 (x64_3 + 1)), (by first | rfl | (simp; done) | (simp [*]; done)), (by first | rfl | (simp; done) | (simp [*]; done)), H', ⟨by have := HJ3.out; have := HJ10.out; have := HK3.out; have := HK4.out; omega⟩, ⟨by (try simp only [hl10_3]); (try simp only [hl10_4]); (with_reducible repeat (first | apply Kd.rA_ | apply Kd.rN_ | apply Kd.rD_)); exact HO_10.out⟩, ⟨bw_⟩⟩
             rw [if_pos c26] at H
             have c26b0 : decide (x13_4 < a2) = true := decide_eq_true c26
             clear c26
             obtain ⟨ji27, hji27⟩ : ∃ j_ : Int, (mn (wrap64 (a2 - x13_4)) (wrap64 (8 - (Int.tmod x11_4 8)))) = j_ := ⟨_, rfl⟩
             replace H : (if 0 ≤ x64_3 then (if x64_3 < (x10_4.length : Int) then (if 0 ≤ (wrap64 (Int.tdiv x11_4 8)) then (if (wrap64 (Int.tdiv x11_4 8)) < (l0.length : Int) then (if 0 ≤ (Int.tmod x11_4 8) then (if 0 ≤ (ji27) then (if 0 ≤ x13_4 then (bits_Unpack.l1 k4 l0 a2 (x10_4.set (x64_3 : Int).toNat (Go.bits .or .u64 (rd x10_4 x64_3) (shl .u64 (IntKind.u64.wrap (Go.bits .and .u8 (shr .u8 (rd l0 (wrap64 (Int.tdiv x11_4 8))) (Int.tmod x11_4 8)) (((shl .u8 1 (ji27)) - 1) % 256))) x13_4))) (wrap64 (x11_4 + (ji27))) x64_3 (wrap64 (x13_4 + (ji27))) (y505.length : Int) x64_3) else (none)) else (none)) else (none)) else (none)) else (none)) else (none)) else (none)) = some (r1, r2) := by first | (rw [hji27] at H; exact H) | (simp only [hji27] at H ⊢; exact H)
             have hji27_ : (if (wrap64 (8 - (Int.tmod x11_4 8))) < (wrap64 (a2 - x13_4)) then (wrap64 (8 - (Int.tmod x11_4 8))) else (wrap64 (a2 - x13_4))) = ji27 := hji27
             by_cases c28 : 0 ≤ x64_3
             rotate_left
             ·rw [if_neg c28] at H
              exact absurd H (by simp)
             rw [if_pos c28] at H
             have c28b0 : decide (0 ≤ x64_3) = true := decide_eq_true c28
             clear c28
             by_cases c29 : x64_3 < (x10_4.length : Int)
             rotate_left
             ·rw [if_neg c29] at H
              exact absurd H (by simp)
             rw [if_pos c29] at H
             have c29b0 : decide (x64_3 < (x10_4.length : Int)) = true := decide_eq_true c29
             (try (have c29b0h := c29b0; simp only [hl10_3, hl10_4] at c29b0h))
             clear c29
             obtain ⟨ji30, hji30⟩ : ∃ j_ : Int, (wrap64 (Int.tdiv x11_4 8)) = j_ := ⟨_, rfl⟩
             replace H : (if 0 ≤ (ji30) then (if (ji30) < (l0.length : Int) then (if 0 ≤ (Int.tmod x11_4 8) then (if 0 ≤ (ji27) then (if 0 ≤ x13_4 then (bits_Unpack.l1 k4 l0 a2 (x10_4.set (x64_3 : Int).toNat (Go.bits .or .u64 (rd x10_4 x64_3) (shl .u64 (IntKind.u64.wrap (Go.bits .and .u8 (shr .u8 (rd l0 (ji30)) (Int.tmod x11_4 8)) (((shl .u8 1 (ji27)) - 1) % 256))) x13_4))) (wrap64 (x11_4 + (ji27))) x64_3 (wrap64 (x13_4 + (ji27))) (y505.length : Int) x64_3) else (none)) else (none)) else (none)) else (none)) else (none)) = some (r1, r2) := by first | (rw [hji30] at H; exact H) | (simp only [hji30] at H ⊢; exact H)
             have hji30w : (IntKind.i64.wrap (Int.tdiv x11_4 8)) = ji30 := (i64_w _).trans hji30
             by_cases c31 : 0 ≤ (ji30)
             rotate_left
             ·rw [if_neg c31] at H
              exact absurd H (by simp)
             rw [if_pos c31] at H
             have c31b0 : decide (0 ≤ (ji30)) = true := decide_eq_true c31
             clear c31
             by_cases c32 : (ji30) < (l0.length : Int)
             rotate_left
             ·rw [if_neg c32] at H
              exact absurd H (by simp)
             rw [if_pos c32] at H
             have c32b0 : decide ((ji30) < (l0.length : Int)) = true := decide_eq_true c32
             (try (have c32b0h := c32b0; simp only [hl10_3, hl10_4] at c32b0h))
             clear c32
             obtain ⟨ji33, hji33⟩ : ∃ j_ : Int, (Int.tmod x11_4 8) = j_ := ⟨_, rfl⟩
             replace H : (if 0 ≤ (ji33) then (if 0 ≤ (ji27) then (if 0 ≤ x13_4 then (bits_Unpack.l1 k4 l0 a2 (x10_4.set (x64_3 : Int).toNat (Go.bits .or .u64 (rd x10_4 x64_3) (shl .u64 (IntKind.u64.wrap (Go.bits .and .u8 (shr .u8 (rd l0 (ji30)) (ji33)) (((shl .u8 1 (ji27)) - 1) % 256))) x13_4))) (wrap64 (x11_4 + (ji27))) x64_3 (wrap64 (x13_4 + (ji27))) (y505.length : Int) x64_3) else (none)) else (none)) else (none)) = some (r1, r2) := by first | (rw [hji33] at H; exact H) | (simp only [hji33] at H ⊢; exact H)
             (try (have hji27_ji33 := hji27; rw [hji33] at hji27_ji33))
             (try (have hji27__ji33 := hji27_; rw [hji33] at hji27__ji33))
             (try (have hji27z_ji33 := hji27z; rw [hji33] at hji27z_ji33))
             (try (have hji27w_ji33 := hji27w; rw [hji33] at hji27w_ji33))
             (try (have hji27u_ji33 := hji27u; rw [hji33] at hji27u_ji33))
             (try (have hji27v_ji33 := hji27v; rw [hji33] at hji27v_ji33))
             by_cases c34 : 0 ≤ (ji33)
             rotate_left
             ·rw [if_neg c34] at H
              exact absurd H (by simp)
             rw [if_pos c34] at H
             have c34b0 := eq_true c34
             have c34b1 : decide (0 ≤ (ji33)) = true := decide_eq_true c34
             clear c34
             obtain ⟨ji35, hji35⟩ : ∃ j_ : Int, (shr .u8 (rd l0 (ji30)) (ji33)) = j_ := ⟨_, rfl⟩
             replace H : (if 0 ≤ (ji27) then (if 0 ≤ x13_4 then (bits_Unpack.l1 k4 l0 a2 (x10_4.set (x64_3 : Int).toNat (Go.bits .or .u64 (rd x10_4 x64_3) (shl .u64 (IntKind.u64.wrap (Go.bits .and .u8 (ji35) (((shl .u8 1 (ji27)) - 1) % 256))) x13_4))) (wrap64 (x11_4 + (ji27))) x64_3 (wrap64 (x13_4 + (ji27))) (y505.length : Int) x64_3) else (none)) else (none)) = some (r1, r2) := by first | (rw [hji35] at H; exact H) | (simp only [hji35] at H ⊢; exact H)
             have hji35_ : ((rd l0 (ji30)) / 2 ^ min (ji33).toNat 8) = ji35 := hji35
             have hji35z : (ji33) ≤ 8 → ((rd l0 (ji30)) / 2 ^ (ji33).toNat) = ji35 := shr_small hji35
             by_cases c36 : 0 ≤ (ji27)
             rotate_left
             ·rw [if_neg c36] at H
              exact absurd H (by simp)
             rw [if_pos c36] at H
             have c36b0 := eq_true c36
             have c36b1 : decide (0 ≤ (ji27)) = true := decide_eq_true c36
             clear c36
             obtain ⟨ji37, hji37⟩ : ∃ j_ : Int, (shl .u8 1 (ji27)) = j_ := ⟨_, rfl⟩
             replace H : (if 0 ≤ x13_4 then (bits_Unpack.l1 k4 l0 a2 (x10_4.set (x64_3 : Int).toNat (Go.bits .or .u64 (rd x10_4 x64_3) (shl .u64 (IntKind.u64.wrap (Go.bits .and .u8 (ji35) (((ji37) - 1) % 256))) x13_4))) (wrap64 (x11_4 + (ji27))) x64_3 (wrap64 (x13_4 + (ji27))) (y505.length : Int) x64_3) else (none)) = some (r1, r2) := by first | (rw [hji37] at H; exact H) | (simp only [hji37] at H ⊢; exact H)
             have hji37_ : (IntKind.u8.wrap (1 * 2 ^ min (ji27).toNat 8)) = ji37 := hji37
             have hji37z : (ji27) ≤ 8 → (IntKind.u8.wrap (1 * 2 ^ (ji27).toNat)) = ji37 := shl_small hji37
             have hji37u : (IntKind.u8.wrap (2 ^ min (ji27).toNat 8)) = ji37 := by have h_ := hji37_; rw [Int.one_mul] at h_; exact h_
             have hji37v : (ji27) ≤ 8 → (IntKind.u8.wrap (2 ^ (ji27).toNat)) = ji37 := fun hle_ => by have h_ := hji37z hle_; rw [Int.one_mul] at h_; exact h_
             by_cases c38 : 0 ≤ x13_4
             rotate_left
             ·rw [if_neg c38] at H
              exact absurd H (by simp)
             rw [if_pos c38] at H
             have c38b0 := eq_true c38
             have c38b1 : decide (0 ≤ x13_4) = true := decide_eq_true c38
             clear c38
             obtain ⟨ji39, hji39⟩ : ∃ j_ : Int, (shl .u64 (IntKind.u64.wrap (Go.bits .and .u8 (ji35) (((ji37) - 1) % 256))) x13_4) = j_ := ⟨_, rfl⟩
             replace H : (bits_Unpack.l1 k4 l0 a2 (x10_4.set (x64_3 : Int).toNat (Go.bits .or .u64 (rd x10_4 x64_3) (ji39))) (wrap64 (x11_4 + (ji27))) x64_3 (wrap64 (x13_4 + (ji27))) (y505.length : Int) x64_3) = some (r1, r2) := by first | (rw [hji39] at H; exact H) | (simp only [hji39] at H ⊢; exact H)
             have hji39_ : (IntKind.u64.wrap ((IntKind.u64.wrap (Go.bits .and .u8 (ji35) (((ji37) - 1) % 256))) * 2 ^ min x13_4.toNat 64)) = ji39 := hji39
             have hji39z : x13_4 ≤ 64 → (IntKind.u64.wrap ((IntKind.u64.wrap (Go.bits .and .u8 (ji35) (((ji37) - 1) % 256))) * 2 ^ x13_4.toNat)) = ji39 := shl_small hji39
             obtain ⟨y510, hy510⟩ : ∃ y_ : List Int, y_ = (x10_4.set (x64_3 : Int).toNat (Go.bits .or .u64 (rd x10_4 x64_3) (ji39))) := ⟨_, rfl⟩
             replace H : (bits_Unpack.l1 k4 l0 a2 y510 (wrap64 (x11_4 + (ji27))) x64_3 (wrap64 (x13_4 + (ji27))) (y505.length : Int) x64_3) = some (r1, r2) := by first | (rw [hy510]; with_reducible exact H) | (have H2_ := (Option.bind_some _ _).symm.trans H; rw [hy510]; with_reducible exact H2_) | (have H2_ := (Option.bind_some _ _).symm.trans H; with_reducible exact H2_) | with_reducible exact H | (rw [hy510]; exact H) | exact H
             have Ny510 := Aside0.mk hy510
             clear hy510
             have H' := Aside0.mk H
             clear H
             try go_wp2
             (try (rw [drewN_self wr]; generalize hq_ : World.drewN wr _ = wr; have n0_ : Aside0 (Kd.R (Kd.int .u64) 50 wr w.heap.size (fun _ => True) (.slice Ao24 x10_4.length co24) x10_4) := ⟨by rw [← hq_]; exact (Kd.ru_ HO_10.out)⟩; have n1_ : Aside0 (Below w.heap.size w wr) := ⟨by rw [← hq_]; exact bw_⟩; clear HO_10 HB hq_; have HO_10 := n0_; have HB := n1_; clear n0_ n1_))
             have n0_ := Aside0.mk (Kd.rD_ HO_10.out)
             have n1_ := Aside0.mk (pb1_ HB.out)
             clear HO_10
             clear HB
             have HO_10 := n0_
             have HB := n1_
             clear n0_ n1_
             have p508 : 0 ≤ (x64_3 : Int) := od_
             have q508 : x64_3 < (x10_4.length : Int) := od_
             obtain ⟨ad508, e508, hx508_0⟩ := Kd.at_int (Kd.R_reads' HO_10.out).2.2 x64_3 p508 q508
             cases e508
             replace p508 := eq_true p508
             replace q508 := eq_true q508
             have p509 : 0 ≤ ((ji30) : Int) := od_
             have q509 : (ji30) < (l0.length : Int) := od_
             obtain ⟨ad509, e509, hx509_0⟩ := Kd.at_int HR0.out (ji30) p509 q509
             have hw509_0 := hx509_0
             cases e509
             replace hx509_0 := (HB.out.cell (World.block_lt_of_cell? w _ hx509_0)).trans hx509_0
             replace p509 := eq_true p509
             replace q509 := eq_true q509
             have p40 : 0 ≤ (x64_3 : Int) := od_
             have q40 : (x64_3 : Int) < ((x10_4.length : Int) : Int) := od_
             obtain ⟨go40, co40, eo40, gb40, gl40, cl40, HG40⟩ := Kd.R_form HO_10.out (by omega)
             (first | cases eo40 | (injection eo40 with ea_ en_ ec_; (first | subst ea_ | (injection ea_ with ea_; subst ea_)); subst ec_; clear en_))
             have GB40 := Aside0.mk gb40
             have GG40 := Aside0.mk HG40
             clear gb40 gl40 HG40
             (first | simp only [add_plain] at hx508_0 | skip)
             obtain ⟨hx40_0, hf40_0⟩ := Kd.R_celln 0 HO_10.out (x64_3 : Int) p40 q40
             replace p40 := eq_true p40
             replace q40 := eq_true q40
             have HP42 := Kd.R_putn HO_10.out (x64_3 : Int) (Go.bits .or .u64 (rd x10_4 x64_3) (ji39))
             rw [← Ny510.out] at HP42
             have HQ42 := Aside0.mk HP42
             clear HP42
             refine start_ (n := 22) (S := fun w' => w'.cell? ⟨go40, (x64_3).toNat, none⟩ = some (.int .u64 (rd x10_4 x64_3)) ∧ w'.cell? (ad509.add ((ji30)).toNat) = some (.int .u8 (rd l0 (ji30)))) (ds := [21]) #[false, false, false, false, false, false, false, false, false, false, false, false, false, false, false, false, false, false, false, false, false, false] (by kernel_rfl) rfl rfl ⟨hx508_0, ((HB.out.cell (World.block_lt_of_cell? w _ hw509_0)).trans hw509_0)⟩ (fun hHeld => ?_); refine with_tabW bits_Unpack.tab19 bits_Unpack.bits19 (fun HT_ HW_ => ?_)
             generalize wr.drew = w41 at HO_10 HB GG40 HQ42 hf40_0 hx40_0 hx508_0 hx509_0 hHeld ⊢
             refine pu_ (i := 0) (N := some 77) HT_ #[true, false, false, false, false, false, false, false, false, false, false, false, false, false, false, false, false, false, false, false, false, false] ?_
             refine pu_ (i := 1) (N := some 78) HT_ #[true, true, false, false, false, false, false, false, false, false, false, false, false, false, false, false, false, false, false, false, false, false] ?_
             refine pu_ (i := 2) (N := some 79) HT_ #[true, true, true, false, false, false, false, false, false, false, false, false, false, false, false, false, false, false, false, false, false, false] ?_
             refine pu_ (i := 4) (N := some 81) HT_ #[true, true, true, false, true, false, false, false, false, false, false, false, false, false, false, false, false, false, false, false, false, false] ?_
             refine pu_ (i := 5) (N := some 82) HT_ #[true, true, true, false, true, true, false, false, false, false, false, false, false, false, false, false, false, false, false, false, false, false] ?_
             refine pu_ (i := 6) (N := some 83) HT_ #[true, true, true, false, true, true, true, false, false, false, false, false, false, false, false, false, false, false, false, false, false, false] ?_
             refine pu_ (i := 7) (N := some 84) HT_ #[true, true, true, false, true, true, true, true, false, false, false, false, false, false, false, false, false, false, false, false, false, false] ?_
             refine pu_ (i := 9) (N := some 86) HT_ #[true, true, true, false, true, true, true, true, false, true, false, false, false, false, false, false, false, false, false, false, false, false] ?_
             refine pu_ (i := 10) (N := some 87) HT_ #[true, true, true, false, true, true, true, true, false, true, true, false, false, false, false, false, false, false, false, false, false, false] ?_
             refine pu_ (i := 12) (N := some 89) HT_ #[true, true, true, false, true, true, true, true, false, true, true, false, true, false, false, false, false, false, false, false, false, false] ?_
             refine pu_ (i := 13) (N := some 90) HT_ #[true, true, true, false, true, true, true, true, false, true, true, false, true, true, false, false, false, false, false, false, false, false] ?_
             refine pu_ (i := 14) (N := some 91) HT_ #[true, true, true, false, true, true, true, true, false, true, true, false, true, true, true, false, false, false, false, false, false, false] ?_
             refine pu_ (i := 17) (N := some 94) HT_ #[true, true, true, false, true, true, true, true, false, true, true, false, true, true, true, false, false, true, false, false, false, false] ?_
             refine ta_ (i := 3) (N := some 80) HT_ HW_ #[true, true, true, true, true, true, true, true, false, true, true, false, true, true, true, false, false, true, false, false, false, false] hHeld ?_
             refine ta_ (i := 8) (N := some 85) HT_ HW_ #[true, true, true, true, true, true, true, true, true, true, true, false, true, true, true, false, false, true, false, false, false, false] hHeld ?_
             refine pu_ (i := 11) (N := some 88) HT_ #[true, true, true, true, true, true, true, true, true, true, true, true, true, true, true, false, false, true, false, false, false, false] ?_
             refine pu_ (i := 15) (N := some 92) HT_ #[true, true, true, true, true, true, true, true, true, true, true, true, true, true, true, true, false, true, false, false, false, false] ?_
             refine pu_ (i := 16) (N := some 93) HT_ #[true, true, true, true, true, true, true, true, true, true, true, true, true, true, true, true, true, true, false, false, false, false] ?_
             refine pu_ (i := 18) (N := some 95) HT_ #[true, true, true, true, true, true, true, true, true, true, true, true, true, true, true, true, true, true, true, false, false, false] ?_
             refine pu_ (i := 19) (N := some 96) HT_ #[true, true, true, true, true, true, true, true, true, true, true, true, true, true, true, true, true, true, true, true, false, false] ?_
             refine pu_ (i := 20) (N := some 97) HT_ #[true, true, true, true, true, true, true, true, true, true, true, true, true, true, true, true, true, true, true, true, true, false] ?_
             refine last_ (i := 21) (N := none) #[tT,tT,tT,tT,tT,tT,tT,tT,tT,tT,tT,tT,tT,tT,tT,tT,tT,tT,tT,tT,tT,tT] rfl rfl (one_of HT_.out (by kernel_rfl)) (by decide) (fun K hK => ?_)
             refine skip_ (w1 := ?_) (by rfl) rfl ?_ ?_
             rotate_left
             ·go_simp
              rfl
             refine hK.out _ _ ?_
             clear hK K
             refine done_ (done_of HT_.out (by kernel_rfl)) ?_
             try go_wp2
             (try simp only [← hl10_4])
             (try subst hji39 hji37 hji35 hji33 hji30 hji27)
             go_roundg k4
             case measure => have := HJ3.out; have := HJ10.out; have := HK3.out; have := HK4.out; omega
             case rel => exact ⟨(y510), (wrap64 (x11_4 + ((mn (wrap64 (a2 - x13_4)) (wrap64 (8 - (Int.tmod x11_4 8))))))), (wrap64 (x13_4 + ((mn (wrap64 (a2 - x13_4)) (wrap64 (8 - (Int.tmod x11_4 8))))))), (by first | rfl | (simp; done) | (simp only [← hji27] <;> (first | rfl | simp)) | (simp [*]; done)), (by first | rfl | (simp; done) | (simp only [← hji27] <;> (first | rfl | simp)) | (simp [*]; done)), H', ⟨by have := HJ3.out; have := HJ10.out; have := HK3.out; have := HK4.out; omega⟩, ⟨by (try simp only [hl10_3]); (try simp only [hl10_4]); (with_reducible repeat (first | apply Kd.rA_ | apply Kd.rN_ | apply Kd.rD_)); exact HQ42.out⟩, ⟨by repeat (first | (with_reducible first | exact HB.out | apply pbA_ | apply pbN_ | apply pb1_ | refine below_set ?_ GB40.out) | exact HB.out)⟩⟩
mutual
def pfor_read.j0 : Nat → List Int → Bool → Option (List Int × Int × Bool)
 | 0, _, _ => none
 | k + 1, x0, x33 => if x33 = true then (some (([] : List Int), 0, false)) else (if 0 < (x0.length : Int) then (if 1 ≤ (x0.length : Int) then ((num_Take.f k (x0.drop 1)).bind fun bt515 => (if bt515.2.2 = 0 then (if (x0.length : Int) < (wrap64 ((wrap64 (1 + bt515.2.1)) + 2)) then (pfor_read.j1 k x0 (wrap64 (rd x0 0)) bt515.1 (wrap64 (1 + bt515.2.1)) true) else (if 0 ≤ (wrap64 (1 + bt515.2.1)) then (if (wrap64 (1 + bt515.2.1)) < (x0.length : Int) then (if (rd x0 (wrap64 (1 + bt515.2.1))) > 64 then (pfor_read.j1 k x0 (wrap64 (rd x0 0)) bt515.1 (wrap64 (1 + bt515.2.1)) true) else (if 0 ≤ (wrap64 ((wrap64 (1 + bt515.2.1)) + 1)) then (if (wrap64 ((wrap64 (1 + bt515.2.1)) + 1)) < (x0.length : Int) then (pfor_read.j1 k x0 (wrap64 (rd x0 0)) bt515.1 (wrap64 (1 + bt515.2.1)) (decide ((wrap64 (rd x0 (wrap64 ((wrap64 (1 + bt515.2.1)) + 1)))) > (wrap64 (rd x0 0))))) else (none)) else (none))) else (none)) else (none))) else (pfor_read.j1 k x0 (wrap64 (rd x0 0)) bt515.1 (wrap64 (1 + bt515.2.1)) true))) else (none)) else (none))
def pfor_read.j1 : Nat → List Int → Int → Int → Int → Bool → Option (List Int × Int × Bool)
 | 0, _, _, _, _, _ => none
 | k + 1, x0, x5, x6, x9, x72 => if x72 = true then (some (([] : List Int), 0, false)) else (if 0 ≤ x9 then (if x9 < (x0.length : Int) then (if 0 ≤ (wrap64 (x9 + 1)) then (if (wrap64 (x9 + 1)) < (x0.length : Int) then (if (wrap64 ((wrap64 (x9 + 2)) + (wrap64 (Int.tdiv (wrap64 ((wrap64 (x5 * (wrap64 (rd x0 x9)))) + 7)) 8)))) > (x0.length : Int) then (some (([] : List Int), 0, false)) else (if 0 ≤ (wrap64 (x9 + 2)) then (if (wrap64 (x9 + 2)) ≤ (wrap64 ((wrap64 (x9 + 2)) + (wrap64 (Int.tdiv (wrap64 ((wrap64 (x5 * (wrap64 (rd x0 x9)))) + 7)) 8)))) then (if (wrap64 ((wrap64 (x9 + 2)) + (wrap64 (Int.tdiv (wrap64 ((wrap64 (x5 * (wrap64 (rd x0 x9)))) + 7)) 8)))) ≤ (x0.length : Int) then ((bits_Unpack.f k ((x0.take ((wrap64 ((wrap64 (x9 + 2)) + (wrap64 (Int.tdiv (wrap64 ((wrap64 (x5 * (wrap64 (rd x0 x9)))) + 7)) 8)))) : Int).toNat).drop ((wrap64 (x9 + 2)) : Int).toNat) x5 (wrap64 (rd x0 x9))).bind fun bt523 => (if bt523.2 = 0 then (pfor_read.l0 k x0 x5 x6 (wrap64 ((wrap64 (x9 + 2)) + (wrap64 (Int.tdiv (wrap64 ((wrap64 (x5 * (wrap64 (rd x0 x9)))) + 7)) 8)))) (wrap64 (rd x0 x9)) (wrap64 (rd x0 (wrap64 (x9 + 1)))) bt523.1) else (some (([] : List Int), 0, false)))) else (none)) else (none)) else (none))) else (none)) else (none)) else (none)) else (none))
def pfor_read.l0 : Nat → List Int → Int → Int → Int → Int → Int → List Int → Option (List Int × Int × Bool)
 | 0, _, _, _, _, _, _, _ => none
 | k + 1, x0, x5, x6, x9, x10, x11, x13 => if x11 > 0 then (if x9 ≥ (x0.length : Int) then (pfor_read.j3 k x0 x5 x6 x9 x10 x11 x13 true) else (if 0 ≤ x9 then (if x9 < (x0.length : Int) then (if (wrap64 (rd x0 x9)) ≥ x5 then (pfor_read.j3 k x0 x5 x6 x9 x10 x11 x13 true) else (pfor_read.j3 k x0 x5 x6 x9 x10 x11 x13 (x10 == 64))) else (none)) else (none))) else (pfor_read.l1 k x6 x9 x13 (x13.length : Int) 0)
def pfor_read.j3 : Nat → List Int → Int → Int → Int → Int → Int → List Int → Bool → Option (List Int × Int × Bool)
 | 0, _, _, _, _, _, _, _, _ => none
 | k + 1, x0, x5, x6, x9, x10, x11, x13, x130 => if x130 = true then (some (([] : List Int), 0, false)) else (if 0 ≤ x9 then (if x9 < (x0.length : Int) then (if 0 ≤ (wrap64 (x9 + 1)) then (if (wrap64 (x9 + 1)) ≤ (x0.length : Int) then ((num_Take.f k (x0.drop ((wrap64 (x9 + 1)) : Int).toNat)).bind fun bt530 => (if bt530.2.2 = 0 then (if 0 ≤ (wrap64 (rd x0 x9)) then (if (wrap64 (rd x0 x9)) < (x13.length : Int) then (if 0 ≤ x10 then (pfor_read.l0 k x0 x5 x6 (wrap64 (x9 + (wrap64 (1 + bt530.2.1)))) x10 (wrap64 (x11 - 1)) (x13.set ((wrap64 (rd x0 x9)) : Int).toNat (IntKind.u64.wrap ((rd x13 (wrap64 (rd x0 x9))) + (shl .u64 bt530.1 x10))))) else (none)) else (none)) else (none)) else (some (([] : List Int), 0, false)))) else (none)) else (none)) else (none)) else (none))
def pfor_read.l1 : Nat → Int → Int → List Int → Int → Int → Option (List Int × Int × Bool)
 | 0, _, _, _, _, _ => none
 | k + 1, x6, x9, x13, x161, x162 => if x162 < x161 then (if 0 ≤ x162 then (if x162 < (x13.length : Int) then (pfor_read.l1 k x6 x9 (x13.set (x162 : Int).toNat (IntKind.u64.wrap ((rd x13 x162) + x6))) x161 (wrap64 (x162 + 1))) else (none)) else (none)) else (some (x13, x9, true))
end
def pfor_read.f (k : Nat) (l0 : List Int) : Option (List Int × Int × Bool) := if (l0.length : Int) < 1 then (pfor_read.j0 k l0 true) else (if 0 < (l0.length : Int) then (if (rd l0 0) < 1 then (pfor_read.j0 k l0 true) else (pfor_read.j0 k l0 (decide ((rd l0 0) > 32)))) else (none))
theorem pfor_read.mono_l : ∀ k, (∀ y0 y1, LeO (pfor_read.j0 k y0 y1) (pfor_read.j0 (k + 1) y0 y1)) ∧ (∀ y0 y1 y2 y3 y4, LeO (pfor_read.j1 k y0 y1 y2 y3 y4) (pfor_read.j1 (k + 1) y0 y1 y2 y3 y4)) ∧ (∀ y0 y1 y2 y3 y4 y5 y6, LeO (pfor_read.l0 k y0 y1 y2 y3 y4 y5 y6) (pfor_read.l0 (k + 1) y0 y1 y2 y3 y4 y5 y6)) ∧ (∀ y0 y1 y2 y3 y4 y5 y6 y7, LeO (pfor_read.j3 k y0 y1 y2 y3 y4 y5 y6 y7) (pfor_read.j3 (k + 1) y0 y1 y2 y3 y4 y5 y6 y7)) ∧ (∀ y0 y1 y2 y3 y4, LeO (pfor_read.l1 k y0 y1 y2 y3 y4) (pfor_read.l1 (k + 1) y0 y1 y2 y3 y4))
 | 0 => ⟨fun _ _ r h => by simp [pfor_read.j0] at h, fun _ _ _ _ _ r h => by simp [pfor_read.j1] at h, fun _ _ _ _ _ _ _ r h => by simp [pfor_read.l0] at h, fun _ _ _ _ _ _ _ _ r h => by simp [pfor_read.j3] at h, fun _ _ _ _ _ r h => by simp [pfor_read.l1] at h⟩
 | k + 1 => by
  obtain ⟨ih0, ih1, ih2, ih3, ih4⟩ := pfor_read.mono_l k
  refine ⟨?_, ?_, ?_, ?_, ?_⟩
  ·intro y0 y1
   unfold pfor_read.j0
   repeat' first
   | (with_reducible exact ih0 _ _)
   | (with_reducible exact ih1 _ _ _ _ _)
   | (with_reducible exact ih2 _ _ _ _ _ _ _)
   | (with_reducible exact ih3 _ _ _ _ _ _ _ _)
   | (with_reducible exact ih4 _ _ _ _ _)
   | (with_reducible exact bits_Unpack.mono _ _ _ _)
   | (with_reducible exact num_Take.mono _ _)
   | (with_reducible exact LeO.refl _)
   | (with_reducible exact LeO.none _)
   | (with_reducible refine LeO.ite ?_ ?_)
   | (with_reducible refine LeO.bind ?_ (fun _ => ?_))
  ·intro y0 y1 y2 y3 y4
   unfold pfor_read.j1
   repeat' first
   | (with_reducible exact ih0 _ _)
   | (with_reducible exact ih1 _ _ _ _ _)
   | (with_reducible exact ih2 _ _ _ _ _ _ _)
   | (with_reducible exact ih3 _ _ _ _ _ _ _ _)
   | (with_reducible exact ih4 _ _ _ _ _)
   | (with_reducible exact bits_Unpack.mono _ _ _ _)
   | (with_reducible exact num_Take.mono _ _)
   | (with_reducible exact LeO.refl _)
   | (with_reducible exact LeO.none _)
   | (with_reducible refine LeO.ite ?_ ?_)
   | (with_reducible refine LeO.bind ?_ (fun _ => ?_))
  ·intro y0 y1 y2 y3 y4 y5 y6
   unfold pfor_read.l0
   repeat' first
   | (with_reducible exact ih0 _ _)
   | (with_reducible exact ih1 _ _ _ _ _)
   | (with_reducible exact ih2 _ _ _ _ _ _ _)
   | (with_reducible exact ih3 _ _ _ _ _ _ _ _)
   | (with_reducible exact ih4 _ _ _ _ _)
   | (with_reducible exact bits_Unpack.mono _ _ _ _)
   | (with_reducible exact num_Take.mono _ _)
   | (with_reducible exact LeO.refl _)
   | (with_reducible exact LeO.none _)
   | (with_reducible refine LeO.ite ?_ ?_)
   | (with_reducible refine LeO.bind ?_ (fun _ => ?_))
  ·intro y0 y1 y2 y3 y4 y5 y6 y7
   unfold pfor_read.j3
   repeat' first
   | (with_reducible exact ih0 _ _)
   | (with_reducible exact ih1 _ _ _ _ _)
   | (with_reducible exact ih2 _ _ _ _ _ _ _)
   | (with_reducible exact ih3 _ _ _ _ _ _ _ _)
   | (with_reducible exact ih4 _ _ _ _ _)
   | (with_reducible exact bits_Unpack.mono _ _ _ _)
   | (with_reducible exact num_Take.mono _ _)
   | (with_reducible exact LeO.refl _)
   | (with_reducible exact LeO.none _)
   | (with_reducible refine LeO.ite ?_ ?_)
   | (with_reducible refine LeO.bind ?_ (fun _ => ?_))
  ·intro y0 y1 y2 y3 y4
   unfold pfor_read.l1
   repeat' first
   | (with_reducible exact ih0 _ _)
   | (with_reducible exact ih1 _ _ _ _ _)
   | (with_reducible exact ih2 _ _ _ _ _ _ _)
   | (with_reducible exact ih3 _ _ _ _ _ _ _ _)
   | (with_reducible exact ih4 _ _ _ _ _)
   | (with_reducible exact bits_Unpack.mono _ _ _ _)
   | (with_reducible exact num_Take.mono _ _)
   | (with_reducible exact LeO.refl _)
   | (with_reducible exact LeO.none _)
   | (with_reducible refine LeO.ite ?_ ?_)
   | (with_reducible refine LeO.bind ?_ (fun _ => ?_))
theorem pfor_read.mono : ∀ a0 k, LeO (pfor_read.f k a0) (pfor_read.f (k + 1) a0) := by
 intro a0 k
 obtain ⟨ih0, ih1, ih2, ih3, ih4⟩ := pfor_read.mono_l k
 unfold pfor_read.f
 repeat' first
   | (with_reducible exact ih0 _ _)
   | (with_reducible exact ih1 _ _ _ _ _)
   | (with_reducible exact ih2 _ _ _ _ _ _ _)
   | (with_reducible exact ih3 _ _ _ _ _ _ _ _)
   | (with_reducible exact ih4 _ _ _ _ _)
   | (with_reducible exact bits_Unpack.mono _ _ _ _)
   | (with_reducible exact num_Take.mono _ _)
   | (with_reducible exact LeO.refl _)
   | (with_reducible exact LeO.none _)
   | (with_reducible refine LeO.ite ?_ ?_)
   | (with_reducible refine LeO.bind ?_ (fun _ => ?_))
def pfor_read.T8 : Bool × List (List Nat × List Nat) := (true, [([], []), ([], []), ([0, 1], [0, 1]), ([2], [2]), ([3], [3]), ([], []), ([], []), ([6], [6]), ([5, 7], [5, 7]), ([8], [8]), ([9], [9]), ([4, 0, 1, 2, 3, 4], [4]), ([10, 11, 0, 1, 2, 3, 4, 5, 6, 7, 8, 9, 10, 11], [10])])
def pfor_read.B8 : List Nat := [0, 0, 3, 7, 15, 0, 0, 64, 224, 480, 992, 31, 4095]
theorem pfor_read.tab8 : rtab .any (opsOf Try.f74 8) = pfor_read.T8 := by kernel_rfl
theorem pfor_read.bits8 : waitsOk pfor_read.T8.2 pfor_read.B8 = true := by kernel_rfl
def pfor_read.T25 : Bool × List (List Nat × List Nat) := (true, [([], []), ([], []), ([0, 1], [0, 1]), ([2], [2]), ([], []), ([], []), ([4, 5], [4, 5]), ([3, 6], [3, 6]), ([0, 1, 0, 1, 2, 3, 4, 5, 6, 7], [0, 1]), ([8, 7, 0, 1, 2, 3, 4, 5, 6, 7], [7, 8])])
def pfor_read.B25 : List Nat := [0, 0, 3, 7, 0, 0, 48, 127, 255, 511]
theorem pfor_read.tab25 : rtab .any (opsOf Try.f74 25) = pfor_read.T25 := by kernel_rfl
theorem pfor_read.bits25 : waitsOk pfor_read.T25.2 pfor_read.B25 = true := by kernel_rfl
set_option maxHeartbeats 8000000 in
set_option maxRecDepth 100000 in
theorem pfor_read.calls (k : Nat) (A0 : Option Addr) (c0 : Nat) (l0 : List Int) (r1 : List Int) (r2 : Int) (r3 : Bool) (w : World) (hr0 : Kd.C (Kd.int .u8) w A0 l0.length l0) (hc0 : l0.length ≤ c0) (h : pfor_read.f k l0 = some (r1, r2, r3)) :
  Calls Try.prog 74 #[.slice A0 l0.length c0] w fun e w' => ∃ v0_ : Value, e = .returned (.tuple #[v0_, .int .i64 r2, .bool r3]) ∧ Kd.R (Kd.int .u64) 50 w' w.heap.size (fun _ => True) v0_ r1 ∧ Below w.heap.size w w' := by
 have HR0 := Aside0.mk hr0
 have HC0 := Aside0.mk hc0
 clear hr0 hc0
 have HB := Aside0.mk (Below.refl w.heap.size w)
 have H : (if (l0.length : Int) < 1 then (pfor_read.j0 k l0 true) else (if 0 < (l0.length : Int) then (if (rd l0 0) < 1 then (pfor_read.j0 k l0 true) else (pfor_read.j0 k l0 (decide ((rd l0 0) > 32)))) else (none))) = some (r1, r2, r3) := h
 clear h
 have HC2 := Aside0.mk H
 clear H
 go_enter Try.func74, Try.ntmps74
 go_upto_region 1 with (fail)
 go_cut [33] (fun v33 wc => ∃ (kq : Nat) (x33_1 : Bool), v33 = .bool x33_1 ∧ Aside0 (pfor_read.j0 kq l0 x33_1 = some (r1, r2, r3)) ∧ Aside0 (kq ≤ k) ∧ Aside0 (Below w.heap.size w wc))
 case first =>
  have H := HC2.out
  clear HC2
  by_cases c3 : (l0.length : Int) < 1
  ·rw [if_pos c3] at H
   have c3b0 : decide ((l0.length : Int) < 1) = true := decide_eq_true c3
   have c3b1 : decide (l0.length < 1) = true := decide_eq_true (by omega)
   clear c3
   (first | rw [c3b0] | (simp only [i64_w, i32_w]; rw [c3b0]) | skip)
   have H' := Aside0.mk H
   clear H
   go_wp2
   go_meet
   case rel => exact ⟨_, (true), (by first | rfl | (simp; done) | (simp [*]; done)), H', ⟨by first | omega | exact Nat.le_refl _⟩, ⟨bw_⟩⟩
  ·rw [if_neg c3] at H
   have c3b0 : decide ((l0.length : Int) < 1) = false := decide_eq_false c3
   have c3b1 : decide (l0.length < 1) = false := decide_eq_false (by omega)
   clear c3
   (first | rw [c3b0] | (simp only [i64_w, i32_w]; rw [c3b0]) | skip)
   by_cases c4 : 0 < (l0.length : Int)
   rotate_left
   ·rw [if_neg c4] at H
    exact absurd H (by simp)
   rw [if_pos c4] at H
   have c4b0 : decide (0 < (l0.length : Int)) = true := decide_eq_true c4
   have c4b1 : decide (0 < l0.length) = true := decide_eq_true (by omega)
   clear c4
   by_cases c5 : (rd l0 0) < 1
   ·rw [if_pos c5] at H
    have c5b0 : decide ((rd l0 0) < 1) = true := decide_eq_true c5
    clear c5
    have H' := Aside0.mk H
    clear H
    have p511 : 0 ≤ (0 : Int) := (by omega)
    have q511 : 0 < (l0.length : Int) := od_
    obtain ⟨ad511, e511, hx511_0⟩ := Kd.at_int HR0.out 0 p511 q511
    cases e511
    have qi511 : (0 < l0.length) = True := eq_true (by omega)
    (try rw [show ((0 : Int)).toNat = 0 from rfl] at hx511_0)
    (try rw [Addr.add_zero'] at hx511_0)
    replace hx511_0 := (HB.out.cell (World.block_lt_of_cell? w _ hx511_0)).trans hx511_0
    replace p511 := eq_true p511
    replace q511 := eq_true q511
    go_wp2
    go_meet
    case rel => exact ⟨_, (true), (by first | rfl | (simp; done) | (simp [*]; done)), H', ⟨by first | omega | exact Nat.le_refl _⟩, ⟨bw_⟩⟩
   ·rw [if_neg c5] at H
    have c5b0 : decide ((rd l0 0) < 1) = false := decide_eq_false c5
    clear c5
    have H' := Aside0.mk H
    clear H
    have p511 : 0 ≤ (0 : Int) := (by omega)
    have q511 : 0 < (l0.length : Int) := od_
    obtain ⟨ad511, e511, hx511_0⟩ := Kd.at_int HR0.out 0 p511 q511
    cases e511
    have qi511 : (0 < l0.length) = True := eq_true (by omega)
    (try rw [show ((0 : Int)).toNat = 0 from rfl] at hx511_0)
    (try rw [Addr.add_zero'] at hx511_0)
    replace hx511_0 := (HB.out.cell (World.block_lt_of_cell? w _ hx511_0)).trans hx511_0
    replace p511 := eq_true p511
    replace q511 := eq_true q511
    have p512 : 0 ≤ (0 : Int) := (by omega)
    have q512 : 0 < (l0.length : Int) := od_
    obtain ⟨ad512, e512, hx512_0⟩ := Kd.at_int HR0.out 0 p512 q512
    obtain rfl : ad511 = ad512 := (by injection e512)
    have qi512 : (0 < l0.length) = True := eq_true (by omega)
    (try rw [show ((0 : Int)).toNat = 0 from rfl] at hx512_0)
    (try rw [Addr.add_zero'] at hx512_0)
    replace hx512_0 := (HB.out.cell (World.block_lt_of_cell? w _ hx512_0)).trans hx512_0
    replace p512 := eq_true p512
    replace q512 := eq_true q512
    go_wp2
    go_meet
    case rel => exact ⟨_, (decide ((rd l0 0) > 32)), (by first | rfl | (simp; done) | (simp [*]; done)), H', ⟨by first | omega | exact Nat.le_refl _⟩, ⟨bw_⟩⟩
 case rest =>
  clear HC2
  try clear p2
  try clear c3
  try clear c3b0
  try clear c3b1
  try clear c4
  try clear c4b0
  try clear c4b1
  try clear c5
  try clear c5b0
  try clear p5
  try clear q5
  try clear hx5
  try clear qi5
  try clear hx511_0
  try clear hx512_0
  try clear p511
  try clear p512
  try clear q511
  try clear q512
  obtain ⟨kq, x33_1, rfl, HA, HJ1, HB⟩ := hcut
  cases kq with
  | zero => exact absurd HA.out (by simp [pfor_read.j0])
  | succ kj1 =>
   have H := HA.out
   clear HA
   simp only [pfor_read.j0] at H
   by_cases c6 : x33_1 = true
   ·subst c6
    have H1 : (some (([] : List Int), 0, false)) = some (r1, r2, r3) := by rw [if_pos rfl] at H; exact H
    clear H
    have H := H1
    clear H1
    simp only [Option.some.injEq, Prod.mk.injEq] at H
    obtain ⟨rfl, rfl, rfl⟩ := H
    go_wp2
    go_ret3
    exact ⟨_, rf_, ni_, bw_⟩
   ·replace c6 := Bool.eq_false_iff.mpr c6
    subst c6
    have H1 : (if 0 < (l0.length : Int) then (if 1 ≤ (l0.length : Int) then ((num_Take.f kj1 (l0.drop 1)).bind fun bt515 => (if bt515.2.2 = 0 then (if (l0.length : Int) < (wrap64 ((wrap64 (1 + bt515.2.1)) + 2)) then (pfor_read.j1 kj1 l0 (wrap64 (rd l0 0)) bt515.1 (wrap64 (1 + bt515.2.1)) true) else (if 0 ≤ (wrap64 (1 + bt515.2.1)) then (if (wrap64 (1 + bt515.2.1)) < (l0.length : Int) then (if (rd l0 (wrap64 (1 + bt515.2.1))) > 64 then (pfor_read.j1 kj1 l0 (wrap64 (rd l0 0)) bt515.1 (wrap64 (1 + bt515.2.1)) true) else (if 0 ≤ (wrap64 ((wrap64 (1 + bt515.2.1)) + 1)) then (if (wrap64 ((wrap64 (1 + bt515.2.1)) + 1)) < (l0.length : Int) then (pfor_read.j1 kj1 l0 (wrap64 (rd l0 0)) bt515.1 (wrap64 (1 + bt515.2.1)) (decide ((wrap64 (rd l0 (wrap64 ((wrap64 (1 + bt515.2.1)) + 1)))) > (wrap64 (rd l0 0))))) else (none)) else (none))) else (none)) else (none))) else (pfor_read.j1 kj1 l0 (wrap64 (rd l0 0)) bt515.1 (wrap64 (1 + bt515.2.1)) true))) else (none)) else (none)) = some (r1, r2, r3) := by rw [if_neg (show ¬ (false = true) by decide)] at H; exact H
    clear H
    have H := H1
    clear H1
    by_cases c7 : 0 < (l0.length : Int)
    rotate_left
    ·rw [if_neg c7] at H
     exact absurd H (by simp)
    rw [if_pos c7] at H
    have c7b0 : decide (0 < (l0.length : Int)) = true := decide_eq_true c7
    have c7b1 : decide (0 < l0.length) = true := decide_eq_true (by omega)
    clear c7
    by_cases c8 : 1 ≤ (l0.length : Int)
    rotate_left
    ·rw [if_neg c8] at H
     exact absurd H (by simp)
    rw [if_pos c8] at H
    have c8b0 := eq_true c8
    have c8b1 : decide (1 ≤ (l0.length : Int)) = true := decide_eq_true c8
    clear c8
    replace H := Option.bind_eq_some_iff.mp H
    obtain ⟨⟨t515, t516, t517⟩, A90, H⟩ := H
    replace H : (if t517 = 0 then (if (l0.length : Int) < (wrap64 ((wrap64 (1 + t516)) + 2)) then (pfor_read.j1 kj1 l0 (wrap64 (rd l0 0)) t515 (wrap64 (1 + t516)) true) else (if 0 ≤ (wrap64 (1 + t516)) then (if (wrap64 (1 + t516)) < (l0.length : Int) then (if (rd l0 (wrap64 (1 + t516))) > 64 then (pfor_read.j1 kj1 l0 (wrap64 (rd l0 0)) t515 (wrap64 (1 + t516)) true) else (if 0 ≤ (wrap64 ((wrap64 (1 + t516)) + 1)) then (if (wrap64 ((wrap64 (1 + t516)) + 1)) < (l0.length : Int) then (pfor_read.j1 kj1 l0 (wrap64 (rd l0 0)) t515 (wrap64 (1 + t516)) (decide ((wrap64 (rd l0 (wrap64 ((wrap64 (1 + t516)) + 1)))) > (wrap64 (rd l0 0))))) else (none)) else (none))) else (none)) else (none))) else (pfor_read.j1 kj1 l0 (wrap64 (rd l0 0)) t515 (wrap64 (1 + t516)) true)) = some (r1, r2, r3) := H
    have A9 := Aside0.mk A90
    clear A90
    have HC10 := Aside0.mk H
    clear H
    have p513 : 0 ≤ (0 : Int) := (by omega)
    have q513 : 0 < (l0.length : Int) := od_
    obtain ⟨ad513, e513, hx513_0⟩ := Kd.at_int HR0.out 0 p513 q513
    cases e513
    have qi513 : (0 < l0.length) = True := eq_true (by omega)
    (try rw [show ((0 : Int)).toNat = 0 from rfl] at hx513_0)
    (try rw [Addr.add_zero'] at hx513_0)
    replace hx513_0 := (HB.out.cell (World.block_lt_of_cell? w _ hx513_0)).trans hx513_0
    replace p513 := eq_true p513
    replace q513 := eq_true q513
    obtain ⟨i011, hi011, _, hsz11, _⟩ := info_parts info5
    obtain ⟨A11, hcut11, hA11, hC11⟩ := print_drop_of (P := Try.prog) (Value.int .u8) 0 22 5 .i64 Try.underlying22 hi011 hsz11 (some ad513) c0 l0 1 (by omega) od_ HC0.out
    have HR514 := Aside0.mk (Kd.C_of_reads (h1 := fun _ => rfl) (hA11 _ (Kd.reads_of_C HR0.out)))
    have HC514 := Aside0.mk hC11
    clear hA11 hC11 hi011 hsz11
    go_upto_region 6 with (first | ((with_reducible refine gaC_ (f := 38) rfl ?_); refine goesL_ (some 41) rfl rfl Try.func38 (by kernel_rfl) rfl #[.slice A11 (l0.drop 1).length (c0 - 1)] rfl (by (try simp only [List.map_toArray, List.map_cons, List.map_nil]); first | done | (rw [show (l0.drop 1).length = (l0.length - 1) from List.length_drop] <;> rfl) | rfl | (simp only [List.length_drop, List.length_take]; rfl)) ?_; (with_reducible refine (num_Take.calls kj1 _ _ (l0.drop 1) t515 t516 t517 _ ?side1 ?side2 A9.out).mono ?_); (case side1 => exact Kd.cu_ (Kd.C_below HR514.out HB.out)); (case side2 => exact HC514.out); rintro e w' ⟨rfl, ⟨nd, rfl⟩⟩; refine ⟨_, rfl, ?_⟩))
    (try simp only [Act.put, List.setIfInBounds_toArray, List.set_cons_zero, List.set_cons_succ])
    go_cut [72] (fun v72 wc => ∃ (kq : Nat) (x72_9 : Bool), v72 = .bool x72_9 ∧ Aside0 (pfor_read.j1 kq l0 (wrap64 (rd l0 0)) t515 (wrap64 (1 + t516)) x72_9 = some (r1, r2, r3)) ∧ Aside0 (kq ≤ kj1) ∧ Aside0 (Below w.heap.size w wc))
    case first =>
     have H := HC10.out
     clear HC10
     by_cases c12 : t517 = 0
     rotate_left
     ·rw [if_neg c12] at H
      have c12b0 : (t517 == 0) = false := beq_eq_false_iff_ne.mpr c12
      have c12b1 : (t517 != 0) = true := bne_iff_ne.mpr c12
      (first | rw [c12b0] | (simp only [i64_w, i32_w]; rw [c12b0]) | skip)
      have H' := Aside0.mk H
      clear H
      go_wp2
      go_meet
      case rel => exact ⟨_, (true), (by first | rfl | (simp; done) | (simp [*]; done)), H', ⟨by have := HJ1.out; first | omega | exact Nat.le_refl _⟩, ⟨bw_⟩⟩
     rw [if_pos c12] at H
     have c12b0 : (t517 == 0) = true := beq_iff_eq.mpr c12
     have c12b1 : (t517 != 0) = false := bne_eq_false_iff_eq.mpr c12
     clear c12
     (first | rw [c12b0] | (simp only [i64_w, i32_w]; rw [c12b0]) | skip)
     by_cases c13 : (l0.length : Int) < (wrap64 ((wrap64 (1 + t516)) + 2))
     ·rw [if_pos c13] at H
      have c13b0 : decide ((l0.length : Int) < (wrap64 ((wrap64 (1 + t516)) + 2))) = true := decide_eq_true c13
      clear c13
      have H' := Aside0.mk H
      clear H
      go_wp2
      go_meet
      case rel => exact ⟨_, (true), (by first | rfl | (simp; done) | (simp [*]; done)), H', ⟨by have := HJ1.out; first | omega | exact Nat.le_refl _⟩, ⟨bw_⟩⟩
     ·rw [if_neg c13] at H
      have c13b0 : decide ((l0.length : Int) < (wrap64 ((wrap64 (1 + t516)) + 2))) = false := decide_eq_false c13
      clear c13
      obtain ⟨ji14, hji14⟩ : ∃ j_ : Int, (wrap64 (1 + t516)) = j_ := ⟨_, rfl⟩
      replace H : (if 0 ≤ (ji14) then (if (ji14) < (l0.length : Int) then (if (rd l0 (ji14)) > 64 then (pfor_read.j1 kj1 l0 (wrap64 (rd l0 0)) t515 ji14 true) else (if 0 ≤ (wrap64 ((ji14) + 1)) then (if (wrap64 ((ji14) + 1)) < (l0.length : Int) then (pfor_read.j1 kj1 l0 (wrap64 (rd l0 0)) t515 ji14 (decide ((wrap64 (rd l0 (wrap64 ((ji14) + 1)))) > (wrap64 (rd l0 0))))) else (none)) else (none))) else (none)) else (none)) = some (r1, r2, r3) := by first | (rw [hji14] at H; exact H) | (simp only [hji14] at H ⊢; exact H)
      (try rw [hji14] at c13b0)
      have hji14w : (IntKind.i64.wrap (1 + t516)) = ji14 := (i64_w _).trans hji14
      by_cases c15 : 0 ≤ (ji14)
      rotate_left
      ·rw [if_neg c15] at H
       exact absurd H (by simp)
      rw [if_pos c15] at H
      have c15b0 : decide (0 ≤ (ji14)) = true := decide_eq_true c15
      clear c15
      by_cases c16 : (ji14) < (l0.length : Int)
      rotate_left
      ·rw [if_neg c16] at H
       exact absurd H (by simp)
      rw [if_pos c16] at H
      have c16b0 : decide ((ji14) < (l0.length : Int)) = true := decide_eq_true c16
      clear c16
      by_cases c17 : (rd l0 (ji14)) > 64
      ·rw [if_pos c17] at H
       have c17b0 : decide (64 < (rd l0 (ji14))) = true := decide_eq_true c17
       clear c17
       have H' := Aside0.mk H
       clear H
       have p518 : 0 ≤ ((ji14) : Int) := od_
       have q518 : (ji14) < (l0.length : Int) := od_
       obtain ⟨ad518, e518, hx518_0⟩ := Kd.at_int HR0.out (ji14) p518 q518
       obtain rfl : ad513 = ad518 := (by injection e518)
       replace hx518_0 := (HB.out.cell (World.block_lt_of_cell? w _ hx518_0)).trans hx518_0
       replace p518 := eq_true p518
       replace q518 := eq_true q518
       go_wp2
       (try subst hji14)
       go_meet
       case rel => exact ⟨_, (true), (by first | rfl | (simp; done) | (simp [*]; done)), H', ⟨by have := HJ1.out; first | omega | exact Nat.le_refl _⟩, ⟨bw_⟩⟩
      ·rw [if_neg c17] at H
       have c17b0 : decide (64 < (rd l0 (ji14))) = false := decide_eq_false c17
       clear c17
       obtain ⟨ji18, hji18⟩ : ∃ j_ : Int, (wrap64 ((ji14) + 1)) = j_ := ⟨_, rfl⟩
       replace H : (if 0 ≤ (ji18) then (if (ji18) < (l0.length : Int) then (pfor_read.j1 kj1 l0 (wrap64 (rd l0 0)) t515 ji14 (decide ((wrap64 (rd l0 (ji18))) > (wrap64 (rd l0 0))))) else (none)) else (none)) = some (r1, r2, r3) := by first | (rw [hji18] at H; exact H) | (simp only [hji18] at H ⊢; exact H)
       have hji18w : (IntKind.i64.wrap ((ji14) + 1)) = ji18 := (i64_w _).trans hji18
       by_cases c19 : 0 ≤ (ji18)
       rotate_left
       ·rw [if_neg c19] at H
        exact absurd H (by simp)
       rw [if_pos c19] at H
       have c19b0 : decide (0 ≤ (ji18)) = true := decide_eq_true c19
       clear c19
       by_cases c20 : (ji18) < (l0.length : Int)
       rotate_left
       ·rw [if_neg c20] at H
        exact absurd H (by simp)
       rw [if_pos c20] at H
       have c20b0 : decide ((ji18) < (l0.length : Int)) = true := decide_eq_true c20
       clear c20
       have H' := Aside0.mk H
       clear H
       have p518 : 0 ≤ ((ji14) : Int) := od_
       have q518 : (ji14) < (l0.length : Int) := od_
       obtain ⟨ad518, e518, hx518_0⟩ := Kd.at_int HR0.out (ji14) p518 q518
       obtain rfl : ad513 = ad518 := (by injection e518)
       replace hx518_0 := (HB.out.cell (World.block_lt_of_cell? w _ hx518_0)).trans hx518_0
       replace p518 := eq_true p518
       replace q518 := eq_true q518
       have p519 : 0 ≤ ((ji18) : Int) := od_
       have q519 : (ji18) < (l0.length : Int) := od_
       obtain ⟨ad519, e519, hx519_0⟩ := Kd.at_int HR0.out (ji18) p519 q519
       obtain rfl : ad513 = ad519 := (by injection e519)
       replace hx519_0 := (HB.out.cell (World.block_lt_of_cell? w _ hx519_0)).trans hx519_0
       replace p519 := eq_true p519
       replace q519 := eq_true q519
       go_wp2
       (try subst hji18 hji14)
       go_meet
       case rel => exact ⟨_, (decide ((wrap64 (rd l0 ((wrap64 (((wrap64 (1 + t516))) + 1))))) > (wrap64 (rd l0 0)))), (by first | rfl | (simp; done) | (simp only [← hji18] <;> (first | rfl | simp)) | (simp [*]; done)), H', ⟨by have := HJ1.out; first | omega | exact Nat.le_refl _⟩, ⟨bw_⟩⟩
    case rest =>
     clear HC10
     try clear c1
     try clear c2
     try clear p2
     try clear c3
     try clear c3b0
     try clear c3b1
     try clear c4
     try clear c4b0
     try clear c4b1
     try clear c5
     try clear c5b0
     try clear p5
     try clear q5
     try clear hx5
     try clear qi5
     try clear c6
     try clear p6
     try clear c7
     try clear c7b0
     try clear c7b1
     try clear c8
     try clear c8b0
     try clear c8b1
     try clear c12
     try clear c12b0
     try clear c12b1
     try clear c13
     try clear c13b0
     try clear c15
     try clear c15b0
     try clear c16
     try clear c16b0
     try clear c17
     try clear c17b0
     try clear c19
     try clear c19b0
     try clear c20
     try clear c20b0
     try clear hx511_0
     try clear hx512_0
     try clear hx513_0
     try clear hx518_0
     try clear hx519_0
     try clear p2
     try clear p5
     try clear p511
     try clear p512
     try clear p513
     try clear p518
     try clear p519
     try clear q5
     try clear q511
     try clear q512
     try clear q513
     try clear q518
     try clear q519
     obtain ⟨kq, x72_9, rfl, HA, HJ9, HB⟩ := hcut
     cases kq with
     | zero => exact absurd HA.out (by simp [pfor_read.j1])
     | succ kj9 =>
      have H := HA.out
      clear HA
      simp only [pfor_read.j1] at H
      by_cases c21 : x72_9 = true
      ·subst c21
       have H1 : (some (([] : List Int), 0, false)) = some (r1, r2, r3) := by rw [if_pos rfl] at H; exact H
       clear H
       have H := H1
       clear H1
       simp only [Option.some.injEq, Prod.mk.injEq] at H
       obtain ⟨rfl, rfl, rfl⟩ := H
       go_wp2
       go_ret3
       exact ⟨_, rf_, ni_, bw_⟩
      ·replace c21 := Bool.eq_false_iff.mpr c21
       subst c21
       have H1 : (if 0 ≤ (wrap64 (1 + t516)) then (if (wrap64 (1 + t516)) < (l0.length : Int) then (if 0 ≤ (wrap64 ((wrap64 (1 + t516)) + 1)) then (if (wrap64 ((wrap64 (1 + t516)) + 1)) < (l0.length : Int) then (if (wrap64 ((wrap64 ((wrap64 (1 + t516)) + 2)) + (wrap64 (Int.tdiv (wrap64 ((wrap64 ((wrap64 (rd l0 0)) * (wrap64 (rd l0 (wrap64 (1 + t516)))))) + 7)) 8)))) > (l0.length : Int) then (some (([] : List Int), 0, false)) else (if 0 ≤ (wrap64 ((wrap64 (1 + t516)) + 2)) then (if (wrap64 ((wrap64 (1 + t516)) + 2)) ≤ (wrap64 ((wrap64 ((wrap64 (1 + t516)) + 2)) + (wrap64 (Int.tdiv (wrap64 ((wrap64 ((wrap64 (rd l0 0)) * (wrap64 (rd l0 (wrap64 (1 + t516)))))) + 7)) 8)))) then (if (wrap64 ((wrap64 ((wrap64 (1 + t516)) + 2)) + (wrap64 (Int.tdiv (wrap64 ((wrap64 ((wrap64 (rd l0 0)) * (wrap64 (rd l0 (wrap64 (1 + t516)))))) + 7)) 8)))) ≤ (l0.length : Int) then ((bits_Unpack.f kj9 ((l0.take ((wrap64 ((wrap64 ((wrap64 (1 + t516)) + 2)) + (wrap64 (Int.tdiv (wrap64 ((wrap64 ((wrap64 (rd l0 0)) * (wrap64 (rd l0 (wrap64 (1 + t516)))))) + 7)) 8)))) : Int).toNat).drop ((wrap64 ((wrap64 (1 + t516)) + 2)) : Int).toNat) (wrap64 (rd l0 0)) (wrap64 (rd l0 (wrap64 (1 + t516))))).bind fun bt523 => (if bt523.2 = 0 then (pfor_read.l0 kj9 l0 (wrap64 (rd l0 0)) t515 (wrap64 ((wrap64 ((wrap64 (1 + t516)) + 2)) + (wrap64 (Int.tdiv (wrap64 ((wrap64 ((wrap64 (rd l0 0)) * (wrap64 (rd l0 (wrap64 (1 + t516)))))) + 7)) 8)))) (wrap64 (rd l0 (wrap64 (1 + t516)))) (wrap64 (rd l0 (wrap64 ((wrap64 (1 + t516)) + 1)))) bt523.1) else (some (([] : List Int), 0, false)))) else (none)) else (none)) else (none))) else (none)) else (none)) else (none)) else (none)) = some (r1, r2, r3) := by rw [if_neg (show ¬ (false = true) by decide)] at H; exact H
       clear H
       have H := H1
       clear H1
       obtain ⟨ji22, hji22⟩ : ∃ j_ : Int, (wrap64 (1 + t516)) = j_ := ⟨_, rfl⟩
       replace H : (if 0 ≤ (ji22) then (if (ji22) < (l0.length : Int) then (if 0 ≤ (wrap64 ((ji22) + 1)) then (if (wrap64 ((ji22) + 1)) < (l0.length : Int) then (if (wrap64 ((wrap64 ((ji22) + 2)) + (wrap64 (Int.tdiv (wrap64 ((wrap64 ((wrap64 (rd l0 0)) * (wrap64 (rd l0 (ji22))))) + 7)) 8)))) > (l0.length : Int) then (some (([] : List Int), 0, false)) else (if 0 ≤ (wrap64 ((ji22) + 2)) then (if (wrap64 ((ji22) + 2)) ≤ (wrap64 ((wrap64 ((ji22) + 2)) + (wrap64 (Int.tdiv (wrap64 ((wrap64 ((wrap64 (rd l0 0)) * (wrap64 (rd l0 (ji22))))) + 7)) 8)))) then (if (wrap64 ((wrap64 ((ji22) + 2)) + (wrap64 (Int.tdiv (wrap64 ((wrap64 ((wrap64 (rd l0 0)) * (wrap64 (rd l0 (ji22))))) + 7)) 8)))) ≤ (l0.length : Int) then ((bits_Unpack.f kj9 ((l0.take ((wrap64 ((wrap64 ((ji22) + 2)) + (wrap64 (Int.tdiv (wrap64 ((wrap64 ((wrap64 (rd l0 0)) * (wrap64 (rd l0 (ji22))))) + 7)) 8)))) : Int).toNat).drop ((wrap64 ((ji22) + 2)) : Int).toNat) (wrap64 (rd l0 0)) (wrap64 (rd l0 (ji22)))).bind fun bt523 => (if bt523.2 = 0 then (pfor_read.l0 kj9 l0 (wrap64 (rd l0 0)) t515 (wrap64 ((wrap64 ((ji22) + 2)) + (wrap64 (Int.tdiv (wrap64 ((wrap64 ((wrap64 (rd l0 0)) * (wrap64 (rd l0 (ji22))))) + 7)) 8)))) (wrap64 (rd l0 (ji22))) (wrap64 (rd l0 (wrap64 ((ji22) + 1)))) bt523.1) else (some (([] : List Int), 0, false)))) else (none)) else (none)) else (none))) else (none)) else (none)) else (none)) else (none)) = some (r1, r2, r3) := by first | (rw [hji22] at H; exact H) | (simp only [hji22] at H ⊢; exact H)
       have hji22w : (IntKind.i64.wrap (1 + t516)) = ji22 := (i64_w _).trans hji22
       by_cases c23 : 0 ≤ (ji22)
       rotate_left
       ·rw [if_neg c23] at H
        exact absurd H (by simp)
       rw [if_pos c23] at H
       have c23b0 : decide (0 ≤ (ji22)) = true := decide_eq_true c23
       clear c23
       by_cases c24 : (ji22) < (l0.length : Int)
       rotate_left
       ·rw [if_neg c24] at H
        exact absurd H (by simp)
       rw [if_pos c24] at H
       have c24b0 : decide ((ji22) < (l0.length : Int)) = true := decide_eq_true c24
       clear c24
       obtain ⟨ji25, hji25⟩ : ∃ j_ : Int, (wrap64 ((ji22) + 1)) = j_ := ⟨_, rfl⟩
       replace H : (if 0 ≤ (ji25) then (if (ji25) < (l0.length : Int) then (if (wrap64 ((wrap64 ((ji22) + 2)) + (wrap64 (Int.tdiv (wrap64 ((wrap64 ((wrap64 (rd l0 0)) * (wrap64 (rd l0 (ji22))))) + 7)) 8)))) > (l0.length : Int) then (some (([] : List Int), 0, false)) else (if 0 ≤ (wrap64 ((ji22) + 2)) then (if (wrap64 ((ji22) + 2)) ≤ (wrap64 ((wrap64 ((ji22) + 2)) + (wrap64 (Int.tdiv (wrap64 ((wrap64 ((wrap64 (rd l0 0)) * (wrap64 (rd l0 (ji22))))) + 7)) 8)))) then (if (wrap64 ((wrap64 ((ji22) + 2)) + (wrap64 (Int.tdiv (wrap64 ((wrap64 ((wrap64 (rd l0 0)) * (wrap64 (rd l0 (ji22))))) + 7)) 8)))) ≤ (l0.length : Int) then ((bits_Unpack.f kj9 ((l0.take ((wrap64 ((wrap64 ((ji22) + 2)) + (wrap64 (Int.tdiv (wrap64 ((wrap64 ((wrap64 (rd l0 0)) * (wrap64 (rd l0 (ji22))))) + 7)) 8)))) : Int).toNat).drop ((wrap64 ((ji22) + 2)) : Int).toNat) (wrap64 (rd l0 0)) (wrap64 (rd l0 (ji22)))).bind fun bt523 => (if bt523.2 = 0 then (pfor_read.l0 kj9 l0 (wrap64 (rd l0 0)) t515 (wrap64 ((wrap64 ((ji22) + 2)) + (wrap64 (Int.tdiv (wrap64 ((wrap64 ((wrap64 (rd l0 0)) * (wrap64 (rd l0 (ji22))))) + 7)) 8)))) (wrap64 (rd l0 (ji22))) (wrap64 (rd l0 (ji25))) bt523.1) else (some (([] : List Int), 0, false)))) else (none)) else (none)) else (none))) else (none)) else (none)) = some (r1, r2, r3) := by first | (rw [hji25] at H; exact H) | (simp only [hji25] at H ⊢; exact H)
       have hji25w : (IntKind.i64.wrap ((ji22) + 1)) = ji25 := (i64_w _).trans hji25
       by_cases c26 : 0 ≤ (ji25)
       rotate_left
       ·rw [if_neg c26] at H
        exact absurd H (by simp)
       rw [if_pos c26] at H
       have c26b0 : decide (0 ≤ (ji25)) = true := decide_eq_true c26
       clear c26
       by_cases c27 : (ji25) < (l0.length : Int)
       rotate_left
       ·rw [if_neg c27] at H
        exact absurd H (by simp)
       rw [if_pos c27] at H
       have c27b0 : decide ((ji25) < (l0.length : Int)) = true := decide_eq_true c27
       clear c27
       by_cases c28 : (wrap64 ((wrap64 ((ji22) + 2)) + (wrap64 (Int.tdiv (wrap64 ((wrap64 ((wrap64 (rd l0 0)) * (wrap64 (rd l0 (ji22))))) + 7)) 8)))) > (l0.length : Int)
       ·rw [if_pos c28] at H
        have c28b0 : decide ((l0.length : Int) < (wrap64 ((wrap64 ((ji22) + 2)) + (wrap64 (Int.tdiv (wrap64 ((wrap64 ((wrap64 (rd l0 0)) * (wrap64 (rd l0 (ji22))))) + 7)) 8))))) = true := decide_eq_true c28
        clear c28
        simp only [Option.some.injEq, Prod.mk.injEq] at H
        obtain ⟨rfl, rfl, rfl⟩ := H
        try go_wp2
        (try (rw [drewN_self wc]; generalize hq_ : World.drewN wc _ = wc; have n0_ : Aside0 (Below w.heap.size w wc) := ⟨by rw [← hq_]; exact bw_⟩; clear HB hq_; have HB := n0_; clear n0_))
        have n0_ := Aside0.mk (pb1_ HB.out)
        clear HB
        have HB := n0_
        clear n0_
        have p520 : 0 ≤ ((ji22) : Int) := od_
        have q520 : (ji22) < (l0.length : Int) := od_
        obtain ⟨ad520, e520, hx520_0⟩ := Kd.at_int HR0.out (ji22) p520 q520
        have hw520_0 := hx520_0
        obtain rfl : ad513 = ad520 := (by injection e520)
        replace hx520_0 := (HB.out.cell (World.block_lt_of_cell? w _ hx520_0)).trans hx520_0
        replace p520 := eq_true p520
        replace q520 := eq_true q520
        have p521 : 0 ≤ ((ji25) : Int) := od_
        have q521 : (ji25) < (l0.length : Int) := od_
        obtain ⟨ad521, e521, hx521_0⟩ := Kd.at_int HR0.out (ji25) p521 q521
        have hw521_0 := hx521_0
        obtain rfl : ad513 = ad521 := (by injection e521)
        replace hx521_0 := (HB.out.cell (World.block_lt_of_cell? w _ hx521_0)).trans hx521_0
        replace p521 := eq_true p521
        replace q521 := eq_true q521
        refine start_ (n := 13) (S := fun w' => w'.cell? (ad513.add ((ji22)).toNat) = some (.int .u8 (rd l0 (ji22))) ∧ w'.cell? (ad513.add ((ji25)).toNat) = some (.int .u8 (rd l0 (ji25)))) (ds := []) #[false, false, false, false, false, false, false, false, false, false, false, false, false] (by kernel_rfl) rfl rfl ⟨((HB.out.cell (World.block_lt_of_cell? w _ hw520_0)).trans hw520_0), ((HB.out.cell (World.block_lt_of_cell? w _ hw521_0)).trans hw521_0)⟩ (fun hHeld => ?_); refine with_tabW pfor_read.tab8 pfor_read.bits8 (fun HT_ HW_ => ?_)
        generalize wc.drew = w29 at HB hx520_0 hx521_0 hHeld ⊢
        refine pu_ (i := 0) (N := some 73) HT_ #[true, false, false, false, false, false, false, false, false, false, false, false, false] ?_
        refine pu_ (i := 1) (N := some 74) HT_ #[true, true, false, false, false, false, false, false, false, false, false, false, false] ?_
        refine pu_ (i := 2) (N := some 75) HT_ #[true, true, true, false, false, false, false, false, false, false, false, false, false] ?_
        refine pu_ (i := 5) (N := some 78) HT_ #[true, true, true, false, false, true, false, false, false, false, false, false, false] ?_
        refine pu_ (i := 6) (N := some 79) HT_ #[true, true, true, false, false, true, true, false, false, false, false, false, false] ?_
        refine pu_ (i := 7) (N := some 80) HT_ #[true, true, true, false, false, true, true, true, false, false, false, false, false] ?_
        refine pu_ (i := 8) (N := some 81) HT_ #[true, true, true, false, false, true, true, true, true, false, false, false, false] ?_
        refine ta_ (i := 3) (N := some 76) HT_ HW_ #[true, true, true, true, false, true, true, true, true, false, false, false, false] hHeld ?_
        refine pu_ (i := 4) (N := some 77) HT_ #[true, true, true, true, true, true, true, true, true, false, false, false, false] ?_
        refine pu_ (i := 11) (N := some 10) HT_ #[true, true, true, true, true, true, true, true, true, false, false, true, false] ?_
        refine ta_ (i := 9) (N := some 82) HT_ HW_ #[true, true, true, true, true, true, true, true, true, true, false, true, false] hHeld ?_
        refine pu_ (i := 10) (N := some 83) HT_ #[true, true, true, true, true, true, true, true, true, true, true, true, false] ?_
        refine pu_ (i := 12) (N := some 11) HT_ #[true, true, true, true, true, true, true, true, true, true, true, true, true] ?_
        refine done_ (done_of HT_.out (by kernel_rfl)) ?_
        try go_wp2
        go_ret3
        exact ⟨_, by first | rfl | (simp [eWn_, eWs_] <;> rfl) | (simp only [← hji22, ← hji25]; first | rfl | (simp [eWn_, eWs_] <;> rfl)) | (simp [*, eWn_, eWs_] <;> rfl), ni_, bw_⟩
       ·rw [if_neg c28] at H
        have c28b0 : decide ((l0.length : Int) < (wrap64 ((wrap64 ((ji22) + 2)) + (wrap64 (Int.tdiv (wrap64 ((wrap64 ((wrap64 (rd l0 0)) * (wrap64 (rd l0 (ji22))))) + 7)) 8))))) = false := decide_eq_false c28
        clear c28
        obtain ⟨ji30, hji30⟩ : ∃ j_ : Int, (wrap64 ((ji22) + 2)) = j_ := ⟨_, rfl⟩
        replace H : (if 0 ≤ (ji30) then (if (ji30) ≤ (wrap64 ((ji30) + (wrap64 (Int.tdiv (wrap64 ((wrap64 ((wrap64 (rd l0 0)) * (wrap64 (rd l0 (ji22))))) + 7)) 8)))) then (if (wrap64 ((ji30) + (wrap64 (Int.tdiv (wrap64 ((wrap64 ((wrap64 (rd l0 0)) * (wrap64 (rd l0 (ji22))))) + 7)) 8)))) ≤ (l0.length : Int) then ((bits_Unpack.f kj9 ((l0.take ((wrap64 ((ji30) + (wrap64 (Int.tdiv (wrap64 ((wrap64 ((wrap64 (rd l0 0)) * (wrap64 (rd l0 (ji22))))) + 7)) 8)))) : Int).toNat).drop ((ji30) : Int).toNat) (wrap64 (rd l0 0)) (wrap64 (rd l0 (ji22)))).bind fun bt523 => (if bt523.2 = 0 then (pfor_read.l0 kj9 l0 (wrap64 (rd l0 0)) t515 (wrap64 ((ji30) + (wrap64 (Int.tdiv (wrap64 ((wrap64 ((wrap64 (rd l0 0)) * (wrap64 (rd l0 (ji22))))) + 7)) 8)))) (wrap64 (rd l0 (ji22))) (wrap64 (rd l0 (ji25))) bt523.1) else (some (([] : List Int), 0, false)))) else (none)) else (none)) else (none)) = some (r1, r2, r3) := by first | (rw [hji30] at H; exact H) | (simp only [hji30] at H ⊢; exact H)
        (try rw [hji30] at c28b0)
        have hji30w : (IntKind.i64.wrap ((ji22) + 2)) = ji30 := (i64_w _).trans hji30
        by_cases c31 : 0 ≤ (ji30)
        rotate_left
        ·rw [if_neg c31] at H
         exact absurd H (by simp)
        rw [if_pos c31] at H
        have c31b0 := eq_true c31
        have c31b1 : decide (0 ≤ (ji30)) = true := decide_eq_true c31
        clear c31
        by_cases c32 : (ji30) ≤ (wrap64 ((ji30) + (wrap64 (Int.tdiv (wrap64 ((wrap64 ((wrap64 (rd l0 0)) * (wrap64 (rd l0 (ji22))))) + 7)) 8))))
        rotate_left
        ·rw [if_neg c32] at H
         exact absurd H (by simp)
        rw [if_pos c32] at H
        have c32b0 := eq_true c32
        have c32b1 : decide ((ji30) ≤ (wrap64 ((ji30) + (wrap64 (Int.tdiv (wrap64 ((wrap64 ((wrap64 (rd l0 0)) * (wrap64 (rd l0 (ji22))))) + 7)) 8))))) = true := decide_eq_true c32
        by_cases c33 : (wrap64 ((ji30) + (wrap64 (Int.tdiv (wrap64 ((wrap64 ((wrap64 (rd l0 0)) * (wrap64 (rd l0 (ji22))))) + 7)) 8)))) ≤ (l0.length : Int)
        rotate_left
        ·rw [if_neg c33] at H
         exact absurd H (by simp)
        rw [if_pos c33] at H
        have c33b0 := eq_true c33
        have c33b1 : decide ((wrap64 ((ji30) + (wrap64 (Int.tdiv (wrap64 ((wrap64 ((wrap64 (rd l0 0)) * (wrap64 (rd l0 (ji22))))) + 7)) 8)))) ≤ (l0.length : Int)) = true := decide_eq_true c33
        replace H := Option.bind_eq_some_iff.mp H
        obtain ⟨⟨t523, t524⟩, A340, H⟩ := H
        replace H : (if t524 = 0 then (pfor_read.l0 kj9 l0 (wrap64 (rd l0 0)) t515 (wrap64 ((ji30) + (wrap64 (Int.tdiv (wrap64 ((wrap64 ((wrap64 (rd l0 0)) * (wrap64 (rd l0 (ji22))))) + 7)) 8)))) (wrap64 (rd l0 (ji22))) (wrap64 (rd l0 (ji25))) t523) else (some (([] : List Int), 0, false))) = some (r1, r2, r3) := H
        have A34 := Aside0.mk A340
        clear A340
        by_cases c35 : t524 = 0
        rotate_left
        ·rw [if_neg c35] at H
         have c35b0 : (t524 == 0) = false := beq_eq_false_iff_ne.mpr c35
         have c35b1 : (t524 != 0) = true := bne_iff_ne.mpr c35
         simp only [Option.some.injEq, Prod.mk.injEq] at H
         obtain ⟨rfl, rfl, rfl⟩ := H
         try go_wp2
         (try (rw [drewN_self wc]; generalize hq_ : World.drewN wc _ = wc; have n0_ : Aside0 (Below w.heap.size w wc) := ⟨by rw [← hq_]; exact bw_⟩; clear HB hq_; have HB := n0_; clear n0_))
         have n0_ := Aside0.mk (pb1_ HB.out)
         clear HB
         have HB := n0_
         clear n0_
         have p520 : 0 ≤ ((ji22) : Int) := od_
         have q520 : (ji22) < (l0.length : Int) := od_
         obtain ⟨ad520, e520, hx520_0⟩ := Kd.at_int HR0.out (ji22) p520 q520
         have hw520_0 := hx520_0
         obtain rfl : ad513 = ad520 := (by injection e520)
         replace hx520_0 := (HB.out.cell (World.block_lt_of_cell? w _ hx520_0)).trans hx520_0
         replace p520 := eq_true p520
         replace q520 := eq_true q520
         have p521 : 0 ≤ ((ji25) : Int) := od_
         have q521 : (ji25) < (l0.length : Int) := od_
         obtain ⟨ad521, e521, hx521_0⟩ := Kd.at_int HR0.out (ji25) p521 q521
         have hw521_0 := hx521_0
         obtain rfl : ad513 = ad521 := (by injection e521)
         replace hx521_0 := (HB.out.cell (World.block_lt_of_cell? w _ hx521_0)).trans hx521_0
         replace p521 := eq_true p521
         replace q521 := eq_true q521
         refine start_ (n := 13) (S := fun w' => w'.cell? (ad513.add ((ji22)).toNat) = some (.int .u8 (rd l0 (ji22))) ∧ w'.cell? (ad513.add ((ji25)).toNat) = some (.int .u8 (rd l0 (ji25)))) (ds := []) #[false, false, false, false, false, false, false, false, false, false, false, false, false] (by kernel_rfl) rfl rfl ⟨((HB.out.cell (World.block_lt_of_cell? w _ hw520_0)).trans hw520_0), ((HB.out.cell (World.block_lt_of_cell? w _ hw521_0)).trans hw521_0)⟩ (fun hHeld => ?_); refine with_tabW pfor_read.tab8 pfor_read.bits8 (fun HT_ HW_ => ?_)
         generalize wc.drew = w72 at HB hx520_0 hx521_0 hHeld ⊢
         refine pu_ (i := 0) (N := some 73) HT_ #[true, false, false, false, false, false, false, false, false, false, false, false, false] ?_
         refine pu_ (i := 1) (N := some 74) HT_ #[true, true, false, false, false, false, false, false, false, false, false, false, false] ?_
         refine pu_ (i := 2) (N := some 75) HT_ #[true, true, true, false, false, false, false, false, false, false, false, false, false] ?_
         refine pu_ (i := 5) (N := some 78) HT_ #[true, true, true, false, false, true, false, false, false, false, false, false, false] ?_
         refine pu_ (i := 6) (N := some 79) HT_ #[true, true, true, false, false, true, true, false, false, false, false, false, false] ?_
         refine pu_ (i := 7) (N := some 80) HT_ #[true, true, true, false, false, true, true, true, false, false, false, false, false] ?_
         refine pu_ (i := 8) (N := some 81) HT_ #[true, true, true, false, false, true, true, true, true, false, false, false, false] ?_
         refine ta_ (i := 3) (N := some 76) HT_ HW_ #[true, true, true, true, false, true, true, true, true, false, false, false, false] hHeld ?_
         refine pu_ (i := 4) (N := some 77) HT_ #[true, true, true, true, true, true, true, true, true, false, false, false, false] ?_
         refine pu_ (i := 11) (N := some 10) HT_ #[true, true, true, true, true, true, true, true, true, false, false, true, false] ?_
         refine ta_ (i := 9) (N := some 82) HT_ HW_ #[true, true, true, true, true, true, true, true, true, true, false, true, false] hHeld ?_
         refine pu_ (i := 10) (N := some 83) HT_ #[true, true, true, true, true, true, true, true, true, true, true, true, false] ?_
         refine pu_ (i := 12) (N := some 11) HT_ #[true, true, true, true, true, true, true, true, true, true, true, true, true] ?_
         refine done_ (done_of HT_.out (by kernel_rfl)) ?_
         obtain ⟨i073, hi073, _, hsz73, _⟩ := info_parts info5
         obtain ⟨A73, hcut73, hA73, hC73⟩ := print_mid_of (P := Try.prog) (Value.int .u8) 0 22 5 .i64 .i64 Try.underlying22 hi073 hsz73 (some ad513) c0 l0 (ji30) (wrap64 ((ji30) + (wrap64 (Int.tdiv (wrap64 ((wrap64 ((wrap64 (rd l0 0)) * (wrap64 (rd l0 (ji22))))) + 7)) 8)))) od_ (by first | omega | exact od_) od_ HC0.out
         have HR522 := Aside0.mk (Kd.C_of_reads (h1 := fun _ => rfl) (hA73 _ (Kd.reads_of_C HR0.out)))
         have HC522 := Aside0.mk hC73
         clear hA73 hC73 hi073 hsz73
         try go_wp2_with (first | ((with_reducible refine gaC_ (f := 39) rfl ?_); refine goesL_ (some 104) rfl rfl Try.func39 (by kernel_rfl) rfl #[.slice A73 ((l0.take ((wrap64 ((ji30) + (wrap64 (Int.tdiv (wrap64 ((wrap64 ((wrap64 (rd l0 0)) * (wrap64 (rd l0 (ji22))))) + 7)) 8)))) : Int).toNat).drop ((ji30) : Int).toNat).length (c0 - (ji30).toNat), .int .i64 (wrap64 (rd l0 0)), .int .i64 (wrap64 (rd l0 (ji22)))] rfl (by (try simp only [List.map_toArray, List.map_cons, List.map_nil]); first | done | (rw [show ((l0.take ((wrap64 ((ji30) + (wrap64 (Int.tdiv (wrap64 ((wrap64 ((wrap64 (rd l0 0)) * (wrap64 (rd l0 (ji22))))) + 7)) 8)))) : Int).toNat).drop ((ji30) : Int).toNat).length = ((wrap64 ((ji30) + (wrap64 (Int.tdiv (wrap64 ((wrap64 ((wrap64 (rd l0 0)) * (wrap64 (rd l0 (ji22))))) + 7)) 8)))).toNat - (ji30).toNat) from (by rw [List.length_drop, List.length_take]; have h_ : ((wrap64 ((ji30) + (wrap64 (Int.tdiv (wrap64 ((wrap64 ((wrap64 (rd l0 0)) * (wrap64 (rd l0 (ji22))))) + 7)) 8)))) : Int) ≤ (l0.length : Int) := od_; omega)] <;> rfl) | (simp only [hji22, hji30]; rfl) | rfl | (simp only [List.length_drop, List.length_take]; rfl)) ?_; (with_reducible refine (bits_Unpack.calls kj9 _ _ ((l0.take ((wrap64 ((ji30) + (wrap64 (Int.tdiv (wrap64 ((wrap64 ((wrap64 (rd l0 0)) * (wrap64 (rd l0 (ji22))))) + 7)) 8)))) : Int).toNat).drop ((ji30) : Int).toNat) (wrap64 (rd l0 0)) (wrap64 (rd l0 (ji22))) t523 t524 _ ?side1 ?side2 A34.out).mono ?_); (case side1 => exact Kd.cu_ (Kd.C_below HR522.out HB.out)); (case side2 => exact HC522.out); rintro e w74 ⟨v525, rfl, ho0, hb⟩; refine ⟨_, rfl, ?_⟩; have HO526 := Aside0.mk (Kd.R_lower ho0 (pbS_ bw_)); replace HB := Aside0.mk (below_step bw_ hb); (try clear hb); (try clear hb2); (try clear hk); (try clear hi); (try clear ho0)))
         go_ret3
         exact ⟨_, by first | rfl | (simp [eWn_, eWs_] <;> rfl) | (simp only [← hji22, ← hji25, ← hji30]; first | rfl | (simp [eWn_, eWs_] <;> rfl)) | (simp [*, eWn_, eWs_] <;> rfl), ni_, bw_⟩
        rw [if_pos c35] at H
        have c35b0 : (t524 == 0) = true := beq_iff_eq.mpr c35
        have c35b1 : (t524 != 0) = false := bne_eq_false_iff_eq.mpr c35
        clear c35
        have H' := Aside0.mk H
        clear H
        try go_wp2
        (try (rw [drewN_self wc]; generalize hq_ : World.drewN wc _ = wc; have n0_ : Aside0 (Below w.heap.size w wc) := ⟨by rw [← hq_]; exact bw_⟩; clear HB hq_; have HB := n0_; clear n0_))
        have n0_ := Aside0.mk (pb1_ HB.out)
        clear HB
        have HB := n0_
        clear n0_
        have p520 : 0 ≤ ((ji22) : Int) := od_
        have q520 : (ji22) < (l0.length : Int) := od_
        obtain ⟨ad520, e520, hx520_0⟩ := Kd.at_int HR0.out (ji22) p520 q520
        have hw520_0 := hx520_0
        obtain rfl : ad513 = ad520 := (by injection e520)
        replace hx520_0 := (HB.out.cell (World.block_lt_of_cell? w _ hx520_0)).trans hx520_0
        replace p520 := eq_true p520
        replace q520 := eq_true q520
        have p521 : 0 ≤ ((ji25) : Int) := od_
        have q521 : (ji25) < (l0.length : Int) := od_
        obtain ⟨ad521, e521, hx521_0⟩ := Kd.at_int HR0.out (ji25) p521 q521
        have hw521_0 := hx521_0
        obtain rfl : ad513 = ad521 := (by injection e521)
        replace hx521_0 := (HB.out.cell (World.block_lt_of_cell? w _ hx521_0)).trans hx521_0
        replace p521 := eq_true p521
        replace q521 := eq_true q521
        refine start_ (n := 13) (S := fun w' => w'.cell? (ad513.add ((ji22)).toNat) = some (.int .u8 (rd l0 (ji22))) ∧ w'.cell? (ad513.add ((ji25)).toNat) = some (.int .u8 (rd l0 (ji25)))) (ds := []) #[false, false, false, false, false, false, false, false, false, false, false, false, false] (by kernel_rfl) rfl rfl ⟨((HB.out.cell (World.block_lt_of_cell? w _ hw520_0)).trans hw520_0), ((HB.out.cell (World.block_lt_of_cell? w _ hw521_0)).trans hw521_0)⟩ (fun hHeld => ?_); refine with_tabW pfor_read.tab8 pfor_read.bits8 (fun HT_ HW_ => ?_)
        generalize wc.drew = w36 at HB hx520_0 hx521_0 hHeld ⊢
        refine pu_ (i := 0) (N := some 73) HT_ #[true, false, false, false, false, false, false, false, false, false, false, false, false] ?_
        refine pu_ (i := 1) (N := some 74) HT_ #[true, true, false, false, false, false, false, false, false, false, false, false, false] ?_
        refine pu_ (i := 2) (N := some 75) HT_ #[true, true, true, false, false, false, false, false, false, false, false, false, false] ?_
        refine pu_ (i := 5) (N := some 78) HT_ #[true, true, true, false, false, true, false, false, false, false, false, false, false] ?_
        refine pu_ (i := 6) (N := some 79) HT_ #[true, true, true, false, false, true, true, false, false, false, false, false, false] ?_
        refine pu_ (i := 7) (N := some 80) HT_ #[true, true, true, false, false, true, true, true, false, false, false, false, false] ?_
        refine pu_ (i := 8) (N := some 81) HT_ #[true, true, true, false, false, true, true, true, true, false, false, false, false] ?_
        refine ta_ (i := 3) (N := some 76) HT_ HW_ #[true, true, true, true, false, true, true, true, true, false, false, false, false] hHeld ?_
        refine pu_ (i := 4) (N := some 77) HT_ #[true, true, true, true, true, true, true, true, true, false, false, false, false] ?_
        refine pu_ (i := 11) (N := some 10) HT_ #[true, true, true, true, true, true, true, true, true, false, false, true, false] ?_
        refine ta_ (i := 9) (N := some 82) HT_ HW_ #[true, true, true, true, true, true, true, true, true, true, false, true, false] hHeld ?_
        refine pu_ (i := 10) (N := some 83) HT_ #[true, true, true, true, true, true, true, true, true, true, true, true, false] ?_
        refine pu_ (i := 12) (N := some 11) HT_ #[true, true, true, true, true, true, true, true, true, true, true, true, true] ?_
        refine done_ (done_of HT_.out (by kernel_rfl)) ?_
        obtain ⟨i037, hi037, _, hsz37, _⟩ := info_parts info5
        obtain ⟨A37, hcut37, hA37, hC37⟩ := print_mid_of (P := Try.prog) (Value.int .u8) 0 22 5 .i64 .i64 Try.underlying22 hi037 hsz37 (some ad513) c0 l0 (ji30) (wrap64 ((ji30) + (wrap64 (Int.tdiv (wrap64 ((wrap64 ((wrap64 (rd l0 0)) * (wrap64 (rd l0 (ji22))))) + 7)) 8)))) od_ (by first | omega | exact od_) od_ HC0.out
        have HR522 := Aside0.mk (Kd.C_of_reads (h1 := fun _ => rfl) (hA37 _ (Kd.reads_of_C HR0.out)))
        have HC522 := Aside0.mk hC37
        clear hA37 hC37 hi037 hsz37
        try go_wp2_with (first | ((with_reducible refine gaC_ (f := 39) rfl ?_); refine goesL_ (some 104) rfl rfl Try.func39 (by kernel_rfl) rfl #[.slice A37 ((l0.take ((wrap64 ((ji30) + (wrap64 (Int.tdiv (wrap64 ((wrap64 ((wrap64 (rd l0 0)) * (wrap64 (rd l0 (ji22))))) + 7)) 8)))) : Int).toNat).drop ((ji30) : Int).toNat).length (c0 - (ji30).toNat), .int .i64 (wrap64 (rd l0 0)), .int .i64 (wrap64 (rd l0 (ji22)))] rfl (by (try simp only [List.map_toArray, List.map_cons, List.map_nil]); first | done | (rw [show ((l0.take ((wrap64 ((ji30) + (wrap64 (Int.tdiv (wrap64 ((wrap64 ((wrap64 (rd l0 0)) * (wrap64 (rd l0 (ji22))))) + 7)) 8)))) : Int).toNat).drop ((ji30) : Int).toNat).length = ((wrap64 ((ji30) + (wrap64 (Int.tdiv (wrap64 ((wrap64 ((wrap64 (rd l0 0)) * (wrap64 (rd l0 (ji22))))) + 7)) 8)))).toNat - (ji30).toNat) from (by rw [List.length_drop, List.length_take]; have h_ : ((wrap64 ((ji30) + (wrap64 (Int.tdiv (wrap64 ((wrap64 ((wrap64 (rd l0 0)) * (wrap64 (rd l0 (ji22))))) + 7)) 8)))) : Int) ≤ (l0.length : Int) := od_; omega)] <;> rfl) | (simp only [hji22, hji30]; rfl) | rfl | (simp only [List.length_drop, List.length_take]; rfl)) ?_; (with_reducible refine (bits_Unpack.calls kj9 _ _ ((l0.take ((wrap64 ((ji30) + (wrap64 (Int.tdiv (wrap64 ((wrap64 ((wrap64 (rd l0 0)) * (wrap64 (rd l0 (ji22))))) + 7)) 8)))) : Int).toNat).drop ((ji30) : Int).toNat) (wrap64 (rd l0 0)) (wrap64 (rd l0 (ji22))) t523 t524 _ ?side1 ?side2 A34.out).mono ?_); (case side1 => exact Kd.cu_ (Kd.C_below HR522.out HB.out)); (case side2 => exact HC522.out); rintro e w38 ⟨v525, rfl, ho0, hb⟩; refine ⟨_, rfl, ?_⟩; have HO526 := Aside0.mk (Kd.R_lower ho0 (pbS_ bw_)); replace HB := Aside0.mk (below_step bw_ hb); (try clear hb); (try clear hb2); (try clear hk); (try clear hi); (try clear ho0)))
        go_loopg [9, 11] kj9 (fun kq v9 v11 w' => ∃ (x9_3 : Int) (x11_3 : Int) (x13_3 : List Int), v9 = .int .i64 x9_3 ∧ v11 = .int .i64 x11_3 ∧ Aside0 (pfor_read.l0 kq l0 (wrap64 (rd l0 0)) t515 x9_3 (wrap64 (rd l0 (ji22))) x11_3 x13_3 = some (r1, r2, r3)) ∧ Aside0 (kq ≤ kj9) ∧ Aside0 (Kd.R (Kd.int .u64) 50 w' w.heap.size (fun _ => True) v525 x13_3) ∧ Aside0 (Below w.heap.size w w'))
        case atStart => exact ⟨(wrap64 ((ji30) + (wrap64 (Int.tdiv (wrap64 ((wrap64 ((wrap64 (rd l0 0)) * (wrap64 (rd l0 (ji22))))) + 7)) 8)))), (wrap64 (rd l0 (ji25))), (t523), (by first | rfl | (simp; done) | (simp only [← hji22, ← hji30] <;> (first | rfl | simp)) | (simp [*]; done)), (by first | rfl | (simp; done) | (simp only [← hji25] <;> (first | rfl | simp)) | (simp [*]; done)), H', ⟨Nat.le_refl _⟩, ⟨Kd.ru_ HO526.out⟩, ⟨bw_⟩⟩
        case round =>
         clear H'
         try clear c1
         try clear c2
         try clear p2
         try clear c3
         try clear c3b0
         try clear c3b1
         try clear c4
         try clear c4b0
         try clear c4b1
         try clear c5
         try clear c5b0
         try clear p5
         try clear q5
         try clear hx5
         try clear qi5
         try clear c6
         try clear p6
         try clear c7
         try clear c7b0
         try clear c7b1
         try clear c8
         try clear c8b0
         try clear c8b1
         try clear c12
         try clear c12b0
         try clear c12b1
         try clear c13
         try clear c13b0
         try clear c15
         try clear c15b0
         try clear c16
         try clear c16b0
         try clear c17
         try clear c17b0
         try clear c19
         try clear c19b0
         try clear c20
         try clear c20b0
         try clear c21
         try clear c23
         try clear c23b0
         try clear c24
         try clear c24b0
         try clear c26
         try clear c26b0
         try clear c27
         try clear c27b0
         try clear c28
         try clear c28b0
         try clear c31
         try clear c31b0
         try clear c31b1
         try clear c32
         try clear c32b0
         try clear c32b1
         try clear c33
         try clear c33b0
         try clear c33b1
         try clear c35
         try clear c35b0
         try clear c35b1
         try clear c38
         try clear hx511_0
         try clear hx512_0
         try clear hx513_0
         try clear hx518_0
         try clear hx519_0
         try clear hx520_0
         try clear hx521_0
         try clear p2
         try clear p5
         try clear p511
         try clear p512
         try clear p513
         try clear p518
         try clear p519
         try clear p520
         try clear p521
         try clear p6
         try clear q5
         try clear q511
         try clear q512
         try clear q513
         try clear q518
         try clear q519
         try clear q520
         try clear q521
         obtain ⟨x9_3, x11_3, x13_3, rfl, rfl, HA, HK3, HO_13, HB⟩ := hrel
         cases gk with
         | zero => exact absurd HA.out (by simp [pfor_read.l0])
         | succ k3 =>
          have H := HA.out
          clear HA
          simp only [pfor_read.l0] at H
          by_cases c39 : x11_3 > 0
          rotate_left
          ·rw [if_neg c39] at H
           have c39b0 : decide (0 < x11_3) = false := decide_eq_false c39
           clear c39
           have H' := Aside0.mk H
           clear H
           obtain ⟨Ao65, co65, eo65⟩ := Kd.R_slice HO_13.out
           subst eo65
           go_wp2
           go_loopg [162] k3 (fun kq v162 w' => ∃ (x13_4 : List Int) (x162_4 : Int), v162 = .int .i64 x162_4 ∧ Aside0 (pfor_read.l1 kq t515 x9_3 x13_4 (x13_3.length : Int) x162_4 = some (r1, r2, r3)) ∧ Aside0 (kq ≤ k3) ∧ Aside0 (Kd.R (Kd.int .u64) 50 w' w.heap.size (fun _ => True) (.slice Ao65 x13_3.length co65) x13_4) ∧ Aside0 (Below w.heap.size w w'))
           case atStart => exact ⟨(x13_3), (0), (by first | rfl | (simp; done) | (simp [*]; done)), H', ⟨Nat.le_refl _⟩, ⟨Kd.ru_ HO_13.out⟩, ⟨bw_⟩⟩
           case round =>
            clear H'
            try clear c1
            try clear c2
            try clear p2
            try clear c3
            try clear c3b0
            try clear c3b1
            try clear c4
            try clear c4b0
            try clear c4b1
            try clear c5
            try clear c5b0
            try clear p5
            try clear q5
            try clear hx5
            try clear qi5
            try clear hf5
            try clear c6
            try clear p6
            try clear c7
            try clear c7b0
            try clear c7b1
            try clear c8
            try clear c8b0
            try clear c8b1
            try clear c12
            try clear c12b0
            try clear c12b1
            try clear c13
            try clear c13b0
            try clear c15
            try clear c15b0
            try clear c16
            try clear c16b0
            try clear c17
            try clear c17b0
            try clear c19
            try clear c19b0
            try clear c20
            try clear c20b0
            try clear c21
            try clear c23
            try clear c23b0
            try clear c24
            try clear c24b0
            try clear c26
            try clear c26b0
            try clear c27
            try clear c27b0
            try clear c28
            try clear c28b0
            try clear c31
            try clear c31b0
            try clear c31b1
            try clear c32
            try clear c32b0
            try clear c32b1
            try clear c33
            try clear c33b0
            try clear c33b1
            try clear c35
            try clear c35b0
            try clear c35b1
            try clear c38
            try clear c39
            try clear c39b0
            try clear c41
            try clear c41b0
            try clear c42
            try clear c42b0
            try clear c43
            try clear c43b0
            try clear c44
            try clear c44b0
            try clear c45
            try clear c46
            try clear c46b0
            try clear c47
            try clear c47b0
            try clear c49
            try clear c49b0
            try clear c49b1
            try clear c50
            try clear c50b0
            try clear c50b1
            try clear p51
            try clear q51
            try clear hx51
            try clear c52
            try clear c52b0
            try clear c52b1
            try clear p52
            try clear q52
            try clear hx52
            try clear p53
            try clear q53
            try clear hx53
            try clear c54
            try clear c54b0
            try clear c55
            try clear c55b0
            try clear c57
            try clear c57b0
            try clear c57b1
            try clear p59
            try clear q59
            try clear hx59
            try clear hf59
            try clear p64
            try clear hx511_0
            try clear hx512_0
            try clear hx513_0
            try clear hx518_0
            try clear hx519_0
            try clear hx520_0
            try clear hx521_0
            try clear hx527_0
            try clear hx528_0
            try clear hx533_0
            try clear hx59_0
            try clear p2
            try clear p5
            try clear p511
            try clear p512
            try clear p513
            try clear p518
            try clear p519
            try clear p520
            try clear p521
            try clear p527
            try clear p528
            try clear p533
            try clear p59
            try clear p6
            try clear q5
            try clear q511
            try clear q512
            try clear q513
            try clear q518
            try clear q519
            try clear q520
            try clear q521
            try clear q527
            try clear q528
            try clear q533
            try clear q59
            obtain ⟨x13_4, x162_4, rfl, HA, HK4, HO_13, HB⟩ := hrel
            have hl13_4 := (Kd.R_reads' HO_13.out).1
            rw [hl13_4] at HO_13
            (try simp only [hl13_4])
            cases gk with
            | zero => exact absurd HA.out (by simp [pfor_read.l1])
            | succ k4 =>
             have H := HA.out
             clear HA
             simp only [pfor_read.l1] at H
             by_cases c66 : x162_4 < (x13_3.length : Int)
             rotate_left
             ·rw [if_neg c66] at H
              have c66b0 : decide (x162_4 < (x13_3.length : Int)) = false := decide_eq_false c66
              (try (have c66b0h := c66b0; simp only [hl13_4] at c66b0h))
              clear c66
              simp only [Option.some.injEq, Prod.mk.injEq] at H
              obtain ⟨rfl, rfl, rfl⟩ := H
              go_wp2
              go_ret3
              exact ⟨_, by first | rfl | (simp [eWn_, eWs_] <;> rfl) | (simp only [← hji22, ← hji25, ← hji30]; first | rfl | (simp [eWn_, eWs_] <;> rfl)) | (simp [*, eWn_, eWs_] <;> rfl), by (with_reducible repeat (first | apply Kd.rA_ | apply Kd.rN_ | apply Kd.rD_)); exact HO_13.out, bw_⟩
             rw [if_pos c66] at H
             have c66b0 : decide (x162_4 < (x13_3.length : Int)) = true := decide_eq_true c66
             (try (have c66b0h := c66b0; simp only [hl13_4] at c66b0h))
             clear c66
             by_cases c67 : 0 ≤ x162_4
             rotate_left
             ·rw [if_neg c67] at H
              exact absurd H (by simp)
             rw [if_pos c67] at H
             have c67b0 : decide (0 ≤ x162_4) = true := decide_eq_true c67
             clear c67
             by_cases c68 : x162_4 < (x13_4.length : Int)
             rotate_left
             ·rw [if_neg c68] at H
              exact absurd H (by simp)
             rw [if_pos c68] at H
             have c68b0 : decide (x162_4 < (x13_4.length : Int)) = true := decide_eq_true c68
             (try (have c68b0h := c68b0; simp only [hl13_4] at c68b0h))
             clear c68
             obtain ⟨y536, hy536⟩ : ∃ y_ : List Int, y_ = (x13_4.set (x162_4 : Int).toNat (IntKind.u64.wrap ((rd x13_4 x162_4) + t515))) := ⟨_, rfl⟩
             replace H : (pfor_read.l1 k4 t515 x9_3 y536 (x13_3.length : Int) (wrap64 (x162_4 + 1))) = some (r1, r2, r3) := by first | (rw [hy536]; with_reducible exact H) | (have H2_ := (Option.bind_some _ _).symm.trans H; rw [hy536]; with_reducible exact H2_) | (have H2_ := (Option.bind_some _ _).symm.trans H; with_reducible exact H2_) | with_reducible exact H | (rw [hy536]; exact H) | exact H
             have Ny536 := Aside0.mk hy536
             clear hy536
             have H' := Aside0.mk H
             clear H
             have p535 : 0 ≤ (x162_4 : Int) := od_
             have q535 : x162_4 < (x13_4.length : Int) := od_
             obtain ⟨ad535, e535, hx535_0⟩ := Kd.at_int (Kd.R_reads' HO_13.out).2.2 x162_4 p535 q535
             cases e535
             replace p535 := eq_true p535
             replace q535 := eq_true q535
             have p69 : 0 ≤ (x162_4 : Int) := od_
             have q69 : (x162_4 : Int) < ((x13_4.length : Int) : Int) := od_
             obtain ⟨go69, co69, eo69, gb69, gl69, cl69, HG69⟩ := Kd.R_form HO_13.out (by omega)
             (first | cases eo69 | (injection eo69 with ea_ en_ ec_; (first | subst ea_ | (injection ea_ with ea_; subst ea_)); subst ec_; clear en_))
             have GB69 := Aside0.mk gb69
             have GG69 := Aside0.mk HG69
             clear gb69 gl69 HG69
             (first | simp only [add_plain] at hx535_0 | skip)
             obtain ⟨hx69_0, hf69_0⟩ := Kd.R_celln 0 HO_13.out (x162_4 : Int) p69 q69
             replace p69 := eq_true p69
             replace q69 := eq_true q69
             have HP70 := Kd.R_putg HO_13.out (x162_4 : Int) (IntKind.u64.wrap ((rd x13_4 x162_4) + t515))
             go_wp2_with (first | ((with_reducible refine gate_store (t := 50) (p := 171) rfl ?_); refine store_event (t := 50) (p := 171) (v := ?vo_w71) (w1 := (wr.setCell ⟨go69, (x162_4 : Int).toNat, none⟩ (.int .u64 (IntKind.u64.wrap ((rd x13_4 x162_4) + t515))))) ?hg ?ho ?hn ?hr ?_; (case ho => rfl); (case hg => rfl); (case hn => rfl); (case hr => first | (go_simp; done) | (go_simp; rfl)); intro w71 hw; have hg : wr.grownBy w71 (some go69) := (by rw [hw]; exact HP70.2); have hp_ : Kd.R (Kd.int .u64) 50 w71 w.heap.size (fun _ => True) (.slice (some ⟨go69, 0, none⟩) x13_4.length co65) y536 := (by rw [hw, Ny536.out]; exact HP70.1); clear HP70; replace HO_13 := Aside0.mk (hp_); replace HB := Aside0.mk ((by rw [hw]; exact below_set (HB.out) GB69.out : Below w.heap.size w w71)); clear hg hw hp_))
             (try simp only [← hl13_4])
             go_roundg k4
             case measure => have := HJ1.out; have := HJ9.out; have := HK3.out; have := HK4.out; omega
             case rel => exact ⟨(y536), (wrap64 (x162_4 + 1)), (by first | rfl | (simp; done) | (simp [*]; done)), H', ⟨by have := HJ1.out; have := HJ9.out; have := HK3.out; have := HK4.out; omega⟩, ⟨by (try simp only [hl13_4]); (with_reducible repeat (first | apply Kd.rA_ | apply Kd.rN_ | apply Kd.rD_)); exact HO_13.out⟩, ⟨bw_⟩⟩
          rw [if_pos c39] at H
          have c39b0 : decide (0 < x11_3) = true := decide_eq_true c39
          clear c39
          have HC40 := Aside0.mk H
          clear H
          go_upto_region 19 with (fail)
          go_cut [130] (fun v130 wc => ∃ (kq : Nat) (x130_39 : Bool), v130 = .bool x130_39 ∧ Aside0 (pfor_read.j3 kq l0 (wrap64 (rd l0 0)) t515 x9_3 (wrap64 (rd l0 (ji22))) x11_3 x13_3 x130_39 = some (r1, r2, r3)) ∧ Aside0 (kq ≤ k3) ∧ Aside0 (Kd.R (Kd.int .u64) 50 wc w.heap.size (fun _ => True) v525 x13_3) ∧ Aside0 (Below w.heap.size w wc))
          case first =>
           have H := HC40.out
           clear HC40
           by_cases c41 : x9_3 ≥ (l0.length : Int)
           ·rw [if_pos c41] at H
            have c41b0 : decide ((l0.length : Int) ≤ x9_3) = true := decide_eq_true c41
            clear c41
            (first | rw [c41b0] | (simp only [i64_w, i32_w]; rw [c41b0]) | skip)
            have H' := Aside0.mk H
            clear H
            go_wp2
            go_meet
            case rel => exact ⟨_, (true), (by first | rfl | (simp; done) | (simp [*]; done)), H', ⟨by have := HJ1.out; have := HJ9.out; have := HK3.out; first | omega | exact Nat.le_refl _⟩, ⟨Kd.ru_ HO_13.out⟩, ⟨bw_⟩⟩
           ·rw [if_neg c41] at H
            have c41b0 : decide ((l0.length : Int) ≤ x9_3) = false := decide_eq_false c41
            clear c41
            (first | rw [c41b0] | (simp only [i64_w, i32_w]; rw [c41b0]) | skip)
            by_cases c42 : 0 ≤ x9_3
            rotate_left
            ·rw [if_neg c42] at H
             exact absurd H (by simp)
            rw [if_pos c42] at H
            have c42b0 : decide (0 ≤ x9_3) = true := decide_eq_true c42
            clear c42
            by_cases c43 : x9_3 < (l0.length : Int)
            rotate_left
            ·rw [if_neg c43] at H
             exact absurd H (by simp)
            rw [if_pos c43] at H
            have c43b0 : decide (x9_3 < (l0.length : Int)) = true := decide_eq_true c43
            clear c43
            by_cases c44 : (wrap64 (rd l0 x9_3)) ≥ (wrap64 (rd l0 0))
            rotate_left
            ·rw [if_neg c44] at H
             have c44b0 : decide ((wrap64 (rd l0 0)) ≤ (wrap64 (rd l0 x9_3))) = false := decide_eq_false c44
             clear c44
             have H' := Aside0.mk H
             clear H
             have p527 : 0 ≤ (x9_3 : Int) := od_
             have q527 : x9_3 < (l0.length : Int) := od_
             obtain ⟨ad527, e527, hx527_0⟩ := Kd.at_int HR0.out x9_3 p527 q527
             obtain rfl : ad513 = ad527 := (by injection e527)
             replace hx527_0 := (HB.out.cell (World.block_lt_of_cell? w _ hx527_0)).trans hx527_0
             replace p527 := eq_true p527
             replace q527 := eq_true q527
             go_wp2
             go_meet
             case rel => exact ⟨_, (((wrap64 (rd l0 (ji22))) == 64)), (by first | rfl | (simp; done) | (simp only [← hji22] <;> (first | rfl | simp)) | (simp [*]; done)), H', ⟨by have := HJ1.out; have := HJ9.out; have := HK3.out; first | omega | exact Nat.le_refl _⟩, ⟨Kd.ru_ HO_13.out⟩, ⟨bw_⟩⟩
            rw [if_pos c44] at H
            have c44b0 : decide ((wrap64 (rd l0 0)) ≤ (wrap64 (rd l0 x9_3))) = true := decide_eq_true c44
            clear c44
            have H' := Aside0.mk H
            clear H
            have p527 : 0 ≤ (x9_3 : Int) := od_
            have q527 : x9_3 < (l0.length : Int) := od_
            obtain ⟨ad527, e527, hx527_0⟩ := Kd.at_int HR0.out x9_3 p527 q527
            obtain rfl : ad513 = ad527 := (by injection e527)
            replace hx527_0 := (HB.out.cell (World.block_lt_of_cell? w _ hx527_0)).trans hx527_0
            replace p527 := eq_true p527
            replace q527 := eq_true q527
            go_wp2
            go_meet
            case rel => exact ⟨_, (true), (by first | rfl | (simp; done) | (simp [*]; done)), H', ⟨by have := HJ1.out; have := HJ9.out; have := HK3.out; first | omega | exact Nat.le_refl _⟩, ⟨Kd.ru_ HO_13.out⟩, ⟨bw_⟩⟩
          case rest =>
           clear HC40
           try clear c1
           try clear c2
           try clear p2
           try clear c3
           try clear c3b0
           try clear c3b1
           try clear c4
           try clear c4b0
           try clear c4b1
           try clear c5
           try clear c5b0
           try clear p5
           try clear q5
           try clear hx5
           try clear qi5
           try clear c6
           try clear p6
           try clear c7
           try clear c7b0
           try clear c7b1
           try clear c8
           try clear c8b0
           try clear c8b1
           try clear c12
           try clear c12b0
           try clear c12b1
           try clear c13
           try clear c13b0
           try clear c15
           try clear c15b0
           try clear c16
           try clear c16b0
           try clear c17
           try clear c17b0
           try clear c19
           try clear c19b0
           try clear c20
           try clear c20b0
           try clear c21
           try clear c23
           try clear c23b0
           try clear c24
           try clear c24b0
           try clear c26
           try clear c26b0
           try clear c27
           try clear c27b0
           try clear c28
           try clear c28b0
           try clear c31
           try clear c31b0
           try clear c31b1
           try clear c32
           try clear c32b0
           try clear c32b1
           try clear c33
           try clear c33b0
           try clear c33b1
           try clear c35
           try clear c35b0
           try clear c35b1
           try clear c38
           try clear c39
           try clear c39b0
           try clear c41
           try clear c41b0
           try clear c42
           try clear c42b0
           try clear c43
           try clear c43b0
           try clear c44
           try clear c44b0
           try clear hx511_0
           try clear hx512_0
           try clear hx513_0
           try clear hx518_0
           try clear hx519_0
           try clear hx520_0
           try clear hx521_0
           try clear hx527_0
           try clear p2
           try clear p5
           try clear p511
           try clear p512
           try clear p513
           try clear p518
           try clear p519
           try clear p520
           try clear p521
           try clear p527
           try clear p6
           try clear q5
           try clear q511
           try clear q512
           try clear q513
           try clear q518
           try clear q519
           try clear q520
           try clear q521
           try clear q527
           obtain ⟨kq, x130_39, rfl, HA, HJ39, HO_13, HB⟩ := hcut
           cases kq with
           | zero => exact absurd HA.out (by simp [pfor_read.j3])
           | succ kj39 =>
            have H := HA.out
            clear HA
            simp only [pfor_read.j3] at H
            by_cases c45 : x130_39 = true
            ·subst c45
             have H1 : (some (([] : List Int), 0, false)) = some (r1, r2, r3) := by rw [if_pos rfl] at H; exact H
             clear H
             have H := H1
             clear H1
             simp only [Option.some.injEq, Prod.mk.injEq] at H
             obtain ⟨rfl, rfl, rfl⟩ := H
             go_wp2
             go_ret3
             exact ⟨_, by first | rfl | (simp [eWn_, eWs_] <;> rfl) | (simp only [← hji22, ← hji25, ← hji30]; first | rfl | (simp [eWn_, eWs_] <;> rfl)) | (simp [*, eWn_, eWs_] <;> rfl), ni_, bw_⟩
            ·replace c45 := Bool.eq_false_iff.mpr c45
             subst c45
             have H1 : (if 0 ≤ x9_3 then (if x9_3 < (l0.length : Int) then (if 0 ≤ (wrap64 (x9_3 + 1)) then (if (wrap64 (x9_3 + 1)) ≤ (l0.length : Int) then ((num_Take.f kj39 (l0.drop ((wrap64 (x9_3 + 1)) : Int).toNat)).bind fun bt530 => (if bt530.2.2 = 0 then (if 0 ≤ (wrap64 (rd l0 x9_3)) then (if (wrap64 (rd l0 x9_3)) < (x13_3.length : Int) then (if 0 ≤ (wrap64 (rd l0 (ji22))) then (pfor_read.l0 kj39 l0 (wrap64 (rd l0 0)) t515 (wrap64 (x9_3 + (wrap64 (1 + bt530.2.1)))) (wrap64 (rd l0 (ji22))) (wrap64 (x11_3 - 1)) (x13_3.set ((wrap64 (rd l0 x9_3)) : Int).toNat (IntKind.u64.wrap ((rd x13_3 (wrap64 (rd l0 x9_3))) + (shl .u64 bt530.1 (wrap64 (rd l0 (ji22)))))))) else (none)) else (none)) else (none)) else (some (([] : List Int), 0, false)))) else (none)) else (none)) else (none)) else (none)) = some (r1, r2, r3) := by rw [if_neg (show ¬ (false = true) by decide)] at H; exact H
             clear H
             have H := H1
             clear H1
             by_cases c46 : 0 ≤ x9_3
             rotate_left
             ·rw [if_neg c46] at H
              exact absurd H (by simp)
             rw [if_pos c46] at H
             have c46b0 : decide (0 ≤ x9_3) = true := decide_eq_true c46
             clear c46
             by_cases c47 : x9_3 < (l0.length : Int)
             rotate_left
             ·rw [if_neg c47] at H
              exact absurd H (by simp)
             rw [if_pos c47] at H
             have c47b0 : decide (x9_3 < (l0.length : Int)) = true := decide_eq_true c47
             clear c47
             obtain ⟨ji48, hji48⟩ : ∃ j_ : Int, (wrap64 (x9_3 + 1)) = j_ := ⟨_, rfl⟩
             replace H : (if 0 ≤ (ji48) then (if (ji48) ≤ (l0.length : Int) then ((num_Take.f kj39 (l0.drop ((ji48) : Int).toNat)).bind fun bt530 => (if bt530.2.2 = 0 then (if 0 ≤ (wrap64 (rd l0 x9_3)) then (if (wrap64 (rd l0 x9_3)) < (x13_3.length : Int) then (if 0 ≤ (wrap64 (rd l0 (ji22))) then (pfor_read.l0 kj39 l0 (wrap64 (rd l0 0)) t515 (wrap64 (x9_3 + (wrap64 (1 + bt530.2.1)))) (wrap64 (rd l0 (ji22))) (wrap64 (x11_3 - 1)) (x13_3.set ((wrap64 (rd l0 x9_3)) : Int).toNat (IntKind.u64.wrap ((rd x13_3 (wrap64 (rd l0 x9_3))) + (shl .u64 bt530.1 (wrap64 (rd l0 (ji22)))))))) else (none)) else (none)) else (none)) else (some (([] : List Int), 0, false)))) else (none)) else (none)) = some (r1, r2, r3) := by first | (rw [hji48] at H; exact H) | (simp only [hji48] at H ⊢; exact H)
             have hji48w : (IntKind.i64.wrap (x9_3 + 1)) = ji48 := (i64_w _).trans hji48
             by_cases c49 : 0 ≤ (ji48)
             rotate_left
             ·rw [if_neg c49] at H
              exact absurd H (by simp)
             rw [if_pos c49] at H
             have c49b0 := eq_true c49
             have c49b1 : decide (0 ≤ (ji48)) = true := decide_eq_true c49
             clear c49
             by_cases c50 : (ji48) ≤ (l0.length : Int)
             rotate_left
             ·rw [if_neg c50] at H
              exact absurd H (by simp)
             rw [if_pos c50] at H
             have c50b0 := eq_true c50
             have c50b1 : decide ((ji48) ≤ (l0.length : Int)) = true := decide_eq_true c50
             clear c50
             replace H := Option.bind_eq_some_iff.mp H
             obtain ⟨⟨t530, t531, t532⟩, A510, H⟩ := H
             replace H : (if t532 = 0 then (if 0 ≤ (wrap64 (rd l0 x9_3)) then (if (wrap64 (rd l0 x9_3)) < (x13_3.length : Int) then (if 0 ≤ (wrap64 (rd l0 (ji22))) then (pfor_read.l0 kj39 l0 (wrap64 (rd l0 0)) t515 (wrap64 (x9_3 + (wrap64 (1 + t531)))) (wrap64 (rd l0 (ji22))) (wrap64 (x11_3 - 1)) (x13_3.set ((wrap64 (rd l0 x9_3)) : Int).toNat (IntKind.u64.wrap ((rd x13_3 (wrap64 (rd l0 x9_3))) + (shl .u64 t530 (wrap64 (rd l0 (ji22)))))))) else (none)) else (none)) else (none)) else (some (([] : List Int), 0, false))) = some (r1, r2, r3) := H
             have A51 := Aside0.mk A510
             clear A510
             by_cases c52 : t532 = 0
             rotate_left
             ·rw [if_neg c52] at H
              have c52b0 : (t532 == 0) = false := beq_eq_false_iff_ne.mpr c52
              have c52b1 : (t532 != 0) = true := bne_iff_ne.mpr c52
              simp only [Option.some.injEq, Prod.mk.injEq] at H
              obtain ⟨rfl, rfl, rfl⟩ := H
              have p528 : 0 ≤ (x9_3 : Int) := od_
              have q528 : x9_3 < (l0.length : Int) := od_
              obtain ⟨ad528, e528, hx528_0⟩ := Kd.at_int HR0.out x9_3 p528 q528
              obtain rfl : ad513 = ad528 := (by injection e528)
              replace hx528_0 := (HB.out.cell (World.block_lt_of_cell? w _ hx528_0)).trans hx528_0
              replace p528 := eq_true p528
              replace q528 := eq_true q528
              obtain ⟨i064, hi064, _, hsz64, _⟩ := info_parts info5
              obtain ⟨A64, hcut64, hA64, hC64⟩ := print_drop_of (P := Try.prog) (Value.int .u8) 0 22 5 .i64 Try.underlying22 hi064 hsz64 (some ad513) c0 l0 (ji48) od_ od_ HC0.out
              have HR529 := Aside0.mk (Kd.C_of_reads (h1 := fun _ => rfl) (hA64 _ (Kd.reads_of_C HR0.out)))
              have HC529 := Aside0.mk hC64
              clear hA64 hC64 hi064 hsz64
              go_wp2_with (first | ((with_reducible refine gaC_ (f := 38) rfl ?_); refine goesL_ (some 141) rfl rfl Try.func38 (by kernel_rfl) rfl #[.slice A64 (l0.drop ((ji48) : Int).toNat).length (c0 - (ji48).toNat)] rfl (by (try simp only [List.map_toArray, List.map_cons, List.map_nil]); first | done | (rw [show (l0.drop ((ji48) : Int).toNat).length = (l0.length - (ji48).toNat) from List.length_drop] <;> rfl) | (simp only [hji48]; rfl) | rfl | (simp only [List.length_drop, List.length_take]; rfl)) ?_; (with_reducible refine (num_Take.calls kj39 _ _ (l0.drop ((ji48) : Int).toNat) t530 t531 t532 _ ?side1 ?side2 A51.out).mono ?_); (case side1 => exact Kd.cu_ (Kd.C_below HR529.out HB.out)); (case side2 => exact HC529.out); rintro e w' ⟨rfl, ⟨nd, rfl⟩⟩; refine ⟨_, rfl, ?_⟩))
              go_ret3
              exact ⟨_, by first | rfl | (simp [eWn_, eWs_] <;> rfl) | (simp only [← hji22, ← hji25, ← hji30, ← hji48]; first | rfl | (simp [eWn_, eWs_] <;> rfl)) | (simp [*, eWn_, eWs_] <;> rfl), ni_, bw_⟩
             rw [if_pos c52] at H
             have c52b0 : (t532 == 0) = true := beq_iff_eq.mpr c52
             have c52b1 : (t532 != 0) = false := bne_eq_false_iff_eq.mpr c52
             clear c52
             obtain ⟨ji53, hji53⟩ : ∃ j_ : Int, (wrap64 (rd l0 x9_3)) = j_ := ⟨_, rfl⟩
             replace H : (if 0 ≤ (ji53) then (if (ji53) < (x13_3.length : Int) then (if 0 ≤ (wrap64 (rd l0 (ji22))) then (pfor_read.l0 kj39 l0 (wrap64 (rd l0 0)) t515 (wrap64 (x9_3 + (wrap64 (1 + t531)))) (wrap64 (rd l0 (ji22))) (wrap64 (x11_3 - 1)) (x13_3.set ((ji53) : Int).toNat (IntKind.u64.wrap ((rd x13_3 (ji53)) + (shl .u64 t530 (wrap64 (rd l0 (ji22)))))))) else (none)) else (none)) else (none)) = some (r1, r2, r3) := by first | (rw [hji53] at H; exact H) | (simp only [hji53] at H ⊢; exact H)
             (try rw [hji53] at A51)
             have hji53w : (IntKind.i64.wrap (rd l0 x9_3)) = ji53 := (i64_w _).trans hji53
             by_cases c54 : 0 ≤ (ji53)
             rotate_left
             ·rw [if_neg c54] at H
              exact absurd H (by simp)
             rw [if_pos c54] at H
             have c54b0 : decide (0 ≤ (ji53)) = true := decide_eq_true c54
             clear c54
             by_cases c55 : (ji53) < (x13_3.length : Int)
             rotate_left
             ·rw [if_neg c55] at H
              exact absurd H (by simp)
             rw [if_pos c55] at H
             have c55b0 : decide ((ji53) < (x13_3.length : Int)) = true := decide_eq_true c55
             clear c55
             obtain ⟨ji56, hji56⟩ : ∃ j_ : Int, (wrap64 (rd l0 (ji22))) = j_ := ⟨_, rfl⟩
             replace H : (if 0 ≤ (ji56) then (pfor_read.l0 kj39 l0 (wrap64 (rd l0 0)) t515 (wrap64 (x9_3 + (wrap64 (1 + t531)))) (ji56) (wrap64 (x11_3 - 1)) (x13_3.set ((ji53) : Int).toNat (IntKind.u64.wrap ((rd x13_3 (ji53)) + (shl .u64 t530 (ji56)))))) else (none)) = some (r1, r2, r3) := by first | (rw [hji56] at H; exact H) | (simp only [hji56] at H ⊢; exact H)
             (try rw [hji56] at c28b0)
             (try rw [hji56] at c32b0)
             (try rw [hji56] at c32b1)
             (try rw [hji56] at c32)
             (try rw [hji56] at c33b0)
             (try rw [hji56] at c33b1)
             (try rw [hji56] at c33)
             (try rw [hji56] at A51)
             have hji56w : (IntKind.i64.wrap (rd l0 (ji22))) = ji56 := (i64_w _).trans hji56
             by_cases c57 : 0 ≤ (ji56)
             rotate_left
             ·rw [if_neg c57] at H
              exact absurd H (by simp)
             rw [if_pos c57] at H
             have c57b0 := eq_true c57
             have c57b1 : decide (0 ≤ (ji56)) = true := decide_eq_true c57
             clear c57
             obtain ⟨ji58, hji58⟩ : ∃ j_ : Int, (shl .u64 t530 (ji56)) = j_ := ⟨_, rfl⟩
             replace H : (pfor_read.l0 kj39 l0 (wrap64 (rd l0 0)) t515 (wrap64 (x9_3 + (wrap64 (1 + t531)))) (ji56) (wrap64 (x11_3 - 1)) (x13_3.set ((ji53) : Int).toNat (IntKind.u64.wrap ((rd x13_3 (ji53)) + (ji58))))) = some (r1, r2, r3) := by first | (rw [hji58] at H; exact H) | (simp only [hji58] at H ⊢; exact H)
             (try rw [hji58] at A51)
             have hji58_ : (IntKind.u64.wrap (t530 * 2 ^ min (ji56).toNat 64)) = ji58 := hji58
             have hji58z : (ji56) ≤ 64 → (IntKind.u64.wrap (t530 * 2 ^ (ji56).toNat)) = ji58 := shl_small hji58
             obtain ⟨y534, hy534⟩ : ∃ y_ : List Int, y_ = (x13_3.set ((ji53) : Int).toNat (IntKind.u64.wrap ((rd x13_3 (ji53)) + (ji58)))) := ⟨_, rfl⟩
             replace H : (pfor_read.l0 kj39 l0 (wrap64 (rd l0 0)) t515 (wrap64 (x9_3 + (wrap64 (1 + t531)))) (ji56) (wrap64 (x11_3 - 1)) y534) = some (r1, r2, r3) := by first | (rw [hy534]; with_reducible exact H) | (have H2_ := (Option.bind_some _ _).symm.trans H; rw [hy534]; with_reducible exact H2_) | (have H2_ := (Option.bind_some _ _).symm.trans H; with_reducible exact H2_) | with_reducible exact H | (rw [hy534]; exact H) | exact H
             have Ny534 := Aside0.mk hy534
             clear hy534
             have H' := Aside0.mk H
             clear H
             have p528 : 0 ≤ (x9_3 : Int) := od_
             have q528 : x9_3 < (l0.length : Int) := od_
             obtain ⟨ad528, e528, hx528_0⟩ := Kd.at_int HR0.out x9_3 p528 q528
             obtain rfl : ad513 = ad528 := (by injection e528)
             replace hx528_0 := (HB.out.cell (World.block_lt_of_cell? w _ hx528_0)).trans hx528_0
             replace p528 := eq_true p528
             replace q528 := eq_true q528
             obtain ⟨i060, hi060, _, hsz60, _⟩ := info_parts info5
             obtain ⟨A60, hcut60, hA60, hC60⟩ := print_drop_of (P := Try.prog) (Value.int .u8) 0 22 5 .i64 Try.underlying22 hi060 hsz60 (some ad513) c0 l0 (ji48) od_ od_ HC0.out
             have HR529 := Aside0.mk (Kd.C_of_reads (h1 := fun _ => rfl) (hA60 _ (Kd.reads_of_C HR0.out)))
             have HC529 := Aside0.mk hC60
             clear hA60 hC60 hi060 hsz60
             try go_wp2_with (first | ((with_reducible refine gaC_ (f := 38) rfl ?_); refine goesL_ (some 141) rfl rfl Try.func38 (by kernel_rfl) rfl #[.slice A60 (l0.drop ((ji48) : Int).toNat).length (c0 - (ji48).toNat)] rfl (by (try simp only [List.map_toArray, List.map_cons, List.map_nil]); first | done | (rw [show (l0.drop ((ji48) : Int).toNat).length = (l0.length - (ji48).toNat) from List.length_drop] <;> rfl) | (simp only [hji48]; rfl) | rfl | (simp only [List.length_drop, List.length_take]; rfl)) ?_; (with_reducible refine (num_Take.calls kj39 _ _ (l0.drop ((ji48) : Int).toNat) t530 t531 t532 _ ?side1 ?side2 A51.out).mono ?_); (case side1 => exact Kd.cu_ (Kd.C_below HR529.out HB.out)); (case side2 => exact HC529.out); rintro e w' ⟨rfl, ⟨nd, rfl⟩⟩; refine ⟨_, rfl, ?_⟩; (try (rw [drewN_self wc]; generalize hq_ : World.drewN wc _ = wc; have n0_ : Aside0 (Kd.R (Kd.int .u64) 50 wc w.heap.size (fun _ => True) v525 x13_3) := ⟨by rw [← hq_]; exact (Kd.ru_ HO_13.out)⟩; have n1_ : Aside0 (Below w.heap.size w wc) := ⟨by rw [← hq_]; exact bw_⟩; clear HO_13 HB hq_; have HO_13 := n0_; have HB := n1_; clear n0_ n1_))))
             (try (rw [drewN_self wc]; generalize hq_ : World.drewN wc _ = wc; have n0_ : Aside0 (Kd.R (Kd.int .u64) 50 wc w.heap.size (fun _ => True) v525 x13_3) := ⟨by rw [← hq_]; exact (Kd.ru_ HO_13.out)⟩; have n1_ : Aside0 (Below w.heap.size w wc) := ⟨by rw [← hq_]; exact bw_⟩; clear HO_13 HB hq_; have HO_13 := n0_; have HB := n1_; clear n0_ n1_))
             have n0_ := Aside0.mk (Kd.rD_ HO_13.out)
             have n1_ := Aside0.mk (pb1_ HB.out)
             clear HO_13
             clear HB
             have HO_13 := n0_
             have HB := n1_
             clear n0_ n1_
             obtain ⟨Ao62, co62, eo62⟩ := Kd.R_slice HO_13.out
             (first | subst eo62 | (injection eo62 with f1_ f2_ f3_; have f4_ := f1_.symm; have f5_ := f3_.symm; clear f1_ f2_ f3_; subst f4_; subst f5_))
             have p533 : 0 ≤ ((ji53) : Int) := od_
             have q533 : (ji53) < (x13_3.length : Int) := od_
             obtain ⟨ad533, e533, hx533_0⟩ := Kd.at_int (Kd.R_reads' HO_13.out).2.2 (ji53) p533 q533
             cases e533
             replace p533 := eq_true p533
             replace q533 := eq_true q533
             have p59 : 0 ≤ ((ji53) : Int) := od_
             have q59 : ((ji53) : Int) < ((x13_3.length : Int) : Int) := od_
             obtain ⟨go59, co59, eo59, gb59, gl59, cl59, HG59⟩ := Kd.R_form HO_13.out (by omega)
             (first | cases eo59 | (injection eo59 with ea_ en_ ec_; (first | subst ea_ | (injection ea_ with ea_; subst ea_)); subst ec_; clear en_))
             have GB59 := Aside0.mk gb59
             have GG59 := Aside0.mk HG59
             clear gb59 gl59 HG59
             (first | simp only [add_plain] at hx533_0 | skip)
             obtain ⟨hx59_0, hf59_0⟩ := Kd.R_celln 0 HO_13.out ((ji53) : Int) p59 q59
             replace p59 := eq_true p59
             replace q59 := eq_true q59
             have HP63 := Kd.R_putn HO_13.out ((ji53) : Int) (IntKind.u64.wrap ((rd x13_3 (ji53)) + (ji58)))
             rw [← Ny534.out] at HP63
             have HQ63 := Aside0.mk HP63
             clear HP63
             refine start_ (n := 10) (S := fun w' => w'.cell? ⟨go59, ((ji53)).toNat, none⟩ = some (.int .u64 (rd x13_3 (ji53)))) (ds := [9]) #[false, false, false, false, false, false, false, false, false, false] (by kernel_rfl) rfl rfl (hx533_0) (fun hHeld => ?_); refine with_tabW pfor_read.tab25 pfor_read.bits25 (fun HT_ HW_ => ?_)
             generalize wc.drew = w61 at HO_13 HB GG59 HQ63 hf59_0 hx533_0 hx59_0 hHeld ⊢
             refine pu_ (i := 0) (N := some 147) HT_ #[true, false, false, false, false, false, false, false, false, false] ?_
             refine pu_ (i := 1) (N := some 148) HT_ #[true, true, false, false, false, false, false, false, false, false] ?_
             refine pu_ (i := 2) (N := some 149) HT_ #[true, true, true, false, false, false, false, false, false, false] ?_
             refine pu_ (i := 4) (N := some 151) HT_ #[true, true, true, false, true, false, false, false, false, false] ?_
             refine pu_ (i := 5) (N := some 152) HT_ #[true, true, true, false, true, true, false, false, false, false] ?_
             refine pu_ (i := 6) (N := some 153) HT_ #[true, true, true, false, true, true, true, false, false, false] ?_
             refine ta_ (i := 3) (N := some 150) HT_ HW_ #[true, true, true, true, true, true, true, false, false, false] hHeld ?_
             refine pu_ (i := 7) (N := some 154) HT_ #[true, true, true, true, true, true, true, true, false, false] ?_
             refine pu_ (i := 8) (N := some 155) HT_ #[true, true, true, true, true, true, true, true, true, false] ?_
             refine last_ (i := 9) (N := none) #[tT,tT,tT,tT,tT,tT,tT,tT,tT,tT] rfl rfl (one_of HT_.out (by kernel_rfl)) (by decide) (fun K hK => ?_)
             refine skip_ (w1 := ?_) (by rfl) rfl ?_ ?_
             rotate_left
             ·go_simp
              rfl
             refine hK.out _ _ ?_
             clear hK K
             refine done_ (done_of HT_.out (by kernel_rfl)) ?_
             try go_wp2
             (try subst hji58 hji56 hji53 hji48)
             go_roundg kj39
             case measure => have := HJ1.out; have := HJ9.out; have := HK3.out; have := HJ39.out; omega
             case rel => exact ⟨(wrap64 (x9_3 + (wrap64 (1 + t531)))), (wrap64 (x11_3 - 1)), (y534), (by first | rfl | (simp; done) | (simp [*]; done)), (by first | rfl | (simp; done) | (simp [*]; done)), H', ⟨by have := HJ1.out; have := HJ9.out; have := HK3.out; have := HJ39.out; omega⟩, ⟨Kd.ru_ HQ63.out⟩, ⟨by repeat (first | (with_reducible first | exact HB.out | apply pbA_ | apply pbN_ | apply pb1_ | refine below_set ?_ GB59.out) | exact HB.out)⟩⟩
noncomputable def bytes_Equal.f (l0 : List Int) (l1 : List Int) : Option (Bool) := some ((strOfNums l0).toList == (strOfNums l1).toList)
set_option maxHeartbeats 8000000 in
set_option maxRecDepth 100000 in
theorem bytes_Equal.calls (A0 : Option Addr) (c0 : Nat) (l0 : List Int) (A1 : Option Addr) (c1 : Nat) (l1 : List Int) (r : Bool) (w : World) (hr0 : Kd.C (Kd.int .u8) w A0 l0.length l0) (hc0 : l0.length ≤ c0) (hr1 : Kd.C (Kd.int .u8) w A1 l1.length l1) (hc1 : l1.length ≤ c1) (h : bytes_Equal.f l0 l1 = some r) :
  Calls Try.prog 75 #[.slice A0 l0.length c0, .slice A1 l1.length c1] w fun e w' => e = .returned (.bool r) ∧ Drawn0 w w' := by
 have HR0 := Aside0.mk hr0
 have HC0 := Aside0.mk hc0
 clear hr0 hc0
 have HR1 := Aside0.mk hr1
 have HC1 := Aside0.mk hc1
 clear hr1 hc1
 have H : (some ((strOfNums l0).toList == (strOfNums l1).toList)) = some r := h
 clear h
 obtain rfl := Option.some.inj H
 have hcv3 := Kd.C_string (P := Try.prog) (A := A0) (c := c0) Try.underlying22 Try.underlying5 Try.underlying9 HR0.out
 have hcv4 := Kd.C_string (P := Try.prog) (A := A1) (c := c1) Try.underlying22 Try.underlying5 Try.underlying9 HR1.out
 go_enter Try.func75, Try.ntmps75
 go_wp2
 go_ret
 exact ⟨by first | rfl | (simp; done) | (simp [*]; done), by repeat (first | exact Drawn0.refl _ | apply Drawn0.step)⟩
noncomputable def pfor_TakeBlock.f (k : Nat) (l0 : List Int) : Option (List Int × Int × Int) := (pfor_read.f k l0).bind fun bt537 => (if bt537.2.2 = true then ((pfor_PutBlock.f k ([] : List Int) bt537.1).bind fun bt542 => (if bt542.2 = 0 then (if 0 ≤ bt537.2.1 then (if bt537.2.1 ≤ (l0.length : Int) then ((bytes_Equal.f bt542.1 (l0.take (bt537.2.1 : Int).toNat)).bind fun t547 => (if t547 = true then (some (bt537.1, bt537.2.1, 0)) else (some (([] : List Int), 0, 2)))) else (none)) else (none)) else (some (([] : List Int), 0, 2)))) else (some (([] : List Int), 0, 2)))
theorem pfor_TakeBlock.mono : ∀ a0 k, LeO (pfor_TakeBlock.f k a0) (pfor_TakeBlock.f (k + 1) a0) := by
 intro a0 k
 unfold pfor_TakeBlock.f
 repeat' first
   | (with_reducible exact pfor_PutBlock.mono _ _ _)
   | (with_reducible exact pfor_read.mono _ _)
   | (with_reducible exact LeO.refl _)
   | (with_reducible exact LeO.none _)
   | (with_reducible refine LeO.ite ?_ ?_)
   | (with_reducible refine LeO.bind ?_ (fun _ => ?_))
set_option maxHeartbeats 8000000 in
set_option maxRecDepth 100000 in
theorem pfor_TakeBlock.calls (k : Nat) (A0 : Option Addr) (c0 : Nat) (l0 : List Int) (r1 : List Int) (r2 : Int) (r3 : Int) (w : World) (hr0 : Kd.C (Kd.int .u8) w A0 l0.length l0) (hc0 : l0.length ≤ c0) (h : pfor_TakeBlock.f k l0 = some (r1, r2, r3)) :
  Calls Try.prog 65 #[.slice A0 l0.length c0] w fun e w' => ∃ v0_ : Value, e = .returned (.tuple #[v0_, .int .i64 r2, .int .i64 r3]) ∧ Kd.R (Kd.int .u64) 50 w' w.heap.size (fun _ => True) v0_ r1 ∧ Below w.heap.size w w' := by
 have HR0 := Aside0.mk hr0
 have HC0 := Aside0.mk hc0
 clear hr0 hc0
 have HB := Aside0.mk (Below.refl w.heap.size w)
 have H : ((pfor_read.f k l0).bind fun bt537 => (if bt537.2.2 = true then ((pfor_PutBlock.f k ([] : List Int) bt537.1).bind fun bt542 => (if bt542.2 = 0 then (if 0 ≤ bt537.2.1 then (if bt537.2.1 ≤ (l0.length : Int) then ((bytes_Equal.f bt542.1 (l0.take (bt537.2.1 : Int).toNat)).bind fun t547 => (if t547 = true then (some (bt537.1, bt537.2.1, 0)) else (some (([] : List Int), 0, 2)))) else (none)) else (none)) else (some (([] : List Int), 0, 2)))) else (some (([] : List Int), 0, 2)))) = some (r1, r2, r3) := h
 clear h
 replace H := Option.bind_eq_some_iff.mp H
 obtain ⟨⟨t537, t538, t539⟩, A20, H⟩ := H
 replace H : (if t539 = true then ((pfor_PutBlock.f k ([] : List Int) t537).bind fun bt542 => (if bt542.2 = 0 then (if 0 ≤ t538 then (if t538 ≤ (l0.length : Int) then ((bytes_Equal.f bt542.1 (l0.take (t538 : Int).toNat)).bind fun t547 => (if t547 = true then (some (t537, t538, 0)) else (some (([] : List Int), 0, 2)))) else (none)) else (none)) else (some (([] : List Int), 0, 2)))) else (some (([] : List Int), 0, 2))) = some (r1, r2, r3) := H
 have A2 := Aside0.mk A20
 clear A20
 by_cases c3 : t539 = true
 rotate_left
 ·replace c3 := Bool.eq_false_iff.mpr c3
  subst c3
  have H1 : (some (([] : List Int), 0, 2)) = some (r1, r2, r3) := by rw [if_neg (show ¬ (false = true) by decide)] at H; exact H
  clear H
  have H := H1
  clear H1
  simp only [Option.some.injEq, Prod.mk.injEq] at H
  obtain ⟨rfl, rfl, rfl⟩ := H
  go_enter Try.func65, Try.ntmps65
  go_wp2_with (first | ((with_reducible refine gaC_ (f := 74) rfl ?_); refine goesL_ (some 12) rfl rfl Try.func74 (by kernel_rfl) rfl #[.slice A0 l0.length c0] rfl (by (try simp only [List.map_toArray, List.map_cons, List.map_nil]); first | done | rfl | (simp only [List.length_drop, List.length_take]; rfl)) ?_; (with_reducible refine (pfor_read.calls k _ _ l0 t537 t538 false _ ?side1 ?side2 A2.out).mono ?_); (case side1 => exact Kd.cu_ HR0.out); (case side2 => exact HC0.out); rintro e w23 ⟨v540, rfl, ho0, hb⟩; refine ⟨_, rfl, ?_⟩; have HO541 := Aside0.mk (Kd.R_lower ho0 (pbS_ bw_)); replace HB := Aside0.mk (below_step bw_ hb); (try clear hb); (try clear hb2); (try clear hk); (try clear hi); (try clear ho0)))
  go_ret3
  exact ⟨_, rf_, ni_, bw_⟩
 subst c3
 have H1 : ((pfor_PutBlock.f k ([] : List Int) t537).bind fun bt542 => (if bt542.2 = 0 then (if 0 ≤ t538 then (if t538 ≤ (l0.length : Int) then ((bytes_Equal.f bt542.1 (l0.take (t538 : Int).toNat)).bind fun t547 => (if t547 = true then (some (t537, t538, 0)) else (some (([] : List Int), 0, 2)))) else (none)) else (none)) else (some (([] : List Int), 0, 2)))) = some (r1, r2, r3) := by rw [if_pos rfl] at H; exact H
 clear H
 have H := H1
 clear H1
 replace H := Option.bind_eq_some_iff.mp H
 obtain ⟨⟨t542, t543⟩, A40, H⟩ := H
 replace H : (if t543 = 0 then (if 0 ≤ t538 then (if t538 ≤ (l0.length : Int) then ((bytes_Equal.f t542 (l0.take (t538 : Int).toNat)).bind fun t547 => (if t547 = true then (some (t537, t538, 0)) else (some (([] : List Int), 0, 2)))) else (none)) else (none)) else (some (([] : List Int), 0, 2))) = some (r1, r2, r3) := H
 have A4 := Aside0.mk A40
 clear A40
 by_cases c5 : t543 = 0
 rotate_left
 ·rw [if_neg c5] at H
  have c5b0 : (t543 == 0) = false := beq_eq_false_iff_ne.mpr c5
  have c5b1 : (t543 != 0) = true := bne_iff_ne.mpr c5
  simp only [Option.some.injEq, Prod.mk.injEq] at H
  obtain ⟨rfl, rfl, rfl⟩ := H
  go_enter Try.func65, Try.ntmps65
  go_wp2_with (first | ((with_reducible refine gaC_ (f := 74) rfl ?_); refine goesL_ (some 12) rfl rfl Try.func74 (by kernel_rfl) rfl #[.slice A0 l0.length c0] rfl (by (try simp only [List.map_toArray, List.map_cons, List.map_nil]); first | done | rfl | (simp only [List.length_drop, List.length_take]; rfl)) ?_; (with_reducible refine (pfor_read.calls k _ _ l0 t537 t538 true _ ?side1 ?side2 A2.out).mono ?_); (case side1 => exact Kd.cu_ HR0.out); (case side2 => exact HC0.out); rintro e w20 ⟨v540, rfl, ho0, hb⟩; refine ⟨_, rfl, ?_⟩; have HO541 := Aside0.mk (Kd.R_lower ho0 (pbS_ bw_)); replace HB := Aside0.mk (below_step bw_ hb); (try clear hb); (try clear hb2); (try clear hk); (try clear hi); (try clear ho0); obtain ⟨Ao21, co21, eo21⟩ := Kd.R_slice HO541.out; subst eo21) | ((with_reducible refine gaC_ (f := 62) rfl ?_); refine goesL_ (some 20) rfl rfl Try.func62 (by kernel_rfl) rfl #[.slice none 0 0, .slice Ao21 t537.length co21] rfl (by (try simp only [List.map_toArray, List.map_cons, List.map_nil]); first | done | rfl | (simp only [List.length_drop, List.length_take]; rfl)) ?_; (refine (pfor_PutBlock.calls k _ _ ([] : List Int) _ _ t537 t542 t543 _ ?side1 ?side2 ?side3 ?side4 A4.out).mono ?_); (case side1 => exact Kd.C_nil _ _); (case side2 => exact Nat.le_refl _); (case side3 => exact Kd.cu_ (Kd.R_reads' HO541.out).2.2); (case side4 => exact (Kd.R_reads' HO541.out).2.1); rintro e w22 ⟨v544, rfl, ho0, hb⟩; refine ⟨_, rfl, ?_⟩; replace HO541 := Aside0.mk (Kd.R_below (Kd.ru_ HO541.out) hb); have HO545 := Aside0.mk (Kd.R_lower ho0 (pbS_ bw_)); replace HB := Aside0.mk (below_step bw_ hb); (try clear hb); (try clear hb2); (try clear hk); (try clear hi); (try clear ho0)))
  go_ret3
  exact ⟨_, rf_, ni_, bw_⟩
 rw [if_pos c5] at H
 have c5b0 : (t543 == 0) = true := beq_iff_eq.mpr c5
 have c5b1 : (t543 != 0) = false := bne_eq_false_iff_eq.mpr c5
 clear c5
 by_cases c6 : 0 ≤ t538
 rotate_left
 ·rw [if_neg c6] at H
  exact absurd H (by simp)
 rw [if_pos c6] at H
 have c6b0 := eq_true c6
 have c6b1 : decide (0 ≤ t538) = true := decide_eq_true c6
 clear c6
 by_cases c7 : t538 ≤ (l0.length : Int)
 rotate_left
 ·rw [if_neg c7] at H
  exact absurd H (by simp)
 rw [if_pos c7] at H
 have c7b0 := eq_true c7
 have c7b1 : decide (t538 ≤ (l0.length : Int)) = true := decide_eq_true c7
 clear c7
 replace H := Option.bind_eq_some_iff.mp H
 obtain ⟨t547, A80, H⟩ := H
 replace H : (if t547 = true then (some (t537, t538, 0)) else (some (([] : List Int), 0, 2))) = some (r1, r2, r3) := H
 have A8 := Aside0.mk A80
 clear A80
 by_cases c9 : t547 = true
 ·subst c9
  have H1 : (some (t537, t538, 0)) = some (r1, r2, r3) := by rw [if_pos rfl] at H; exact H
  clear H
  have H := H1
  clear H1
  simp only [Option.some.injEq, Prod.mk.injEq] at H
  obtain ⟨rfl, rfl, rfl⟩ := H
  go_enter Try.func65, Try.ntmps65
  go_wp2_with (first | ((with_reducible refine gaC_ (f := 74) rfl ?_); refine goesL_ (some 12) rfl rfl Try.func74 (by kernel_rfl) rfl #[.slice A0 l0.length c0] rfl (by (try simp only [List.map_toArray, List.map_cons, List.map_nil]); first | done | rfl | (simp only [List.length_drop, List.length_take]; rfl)) ?_; (with_reducible refine (pfor_read.calls k _ _ l0 t537 t538 true _ ?side1 ?side2 A2.out).mono ?_); (case side1 => exact Kd.cu_ HR0.out); (case side2 => exact HC0.out); rintro e w10 ⟨v540, rfl, ho0, hb⟩; refine ⟨_, rfl, ?_⟩; have HO541 := Aside0.mk (Kd.R_lower ho0 (pbS_ bw_)); replace HB := Aside0.mk (below_step bw_ hb); (try clear hb); (try clear hb2); (try clear hk); (try clear hi); (try clear ho0); obtain ⟨Ao11, co11, eo11⟩ := Kd.R_slice HO541.out; subst eo11) | ((with_reducible refine gaC_ (f := 62) rfl ?_); refine goesL_ (some 20) rfl rfl Try.func62 (by kernel_rfl) rfl #[.slice none 0 0, .slice Ao11 t537.length co11] rfl (by (try simp only [List.map_toArray, List.map_cons, List.map_nil]); first | done | rfl | (simp only [List.length_drop, List.length_take]; rfl)) ?_; (refine (pfor_PutBlock.calls k _ _ ([] : List Int) _ _ t537 t542 t543 _ ?side1 ?side2 ?side3 ?side4 A4.out).mono ?_); (case side1 => exact Kd.C_nil _ _); (case side2 => exact Nat.le_refl _); (case side3 => exact Kd.cu_ (Kd.R_reads' HO541.out).2.2); (case side4 => exact (Kd.R_reads' HO541.out).2.1); rintro e w12 ⟨v544, rfl, ho0, hb⟩; refine ⟨_, rfl, ?_⟩; replace HO541 := Aside0.mk (Kd.R_below (Kd.ru_ HO541.out) hb); have HO545 := Aside0.mk (Kd.R_lower ho0 (pbS_ bw_)); replace HB := Aside0.mk (below_step bw_ hb); (try clear hb); (try clear hb2); (try clear hk); (try clear hi); (try clear ho0); obtain ⟨i013, hi013, _, hsz13, _⟩ := info_parts info5; obtain ⟨hcut13, hA13, hC13⟩ := print_take_of (P := Try.prog) (Value.int .u8) 0 22 5 .i64 Try.underlying22 hi013 hsz13 A0 c0 l0 t538 od_ od_ HC0.out; have HR546 := Aside0.mk (Kd.C_of_reads (h1 := fun _ => rfl) (hA13 _ (Kd.reads_of_C HR0.out))); have HC546 := Aside0.mk hC13; clear hA13 hC13 hi013 hsz13; obtain ⟨Ao14, co14, eo14⟩ := Kd.R_slice HO545.out; subst eo14) | (go_at_call 75; refine calls_of_args (args' := #[.slice Ao14 t542.length co14, .slice A0 (l0.take (t538 : Int).toNat).length c0]) (by first | (rw [show (l0.take (t538 : Int).toNat).length = t538.toNat from (by rw [List.length_take]; have h_ : (t538 : Int) ≤ (l0.length : Int) := od_; omega)] <;> rfl) | (simp only [List.length_take, List.length_drop, Int.toNat_natCast] <;> rfl) | rfl) ?_; (with_reducible refine (bytes_Equal.calls _ _ t542 _ _ (l0.take (t538 : Int).toNat) true _ ?side1 ?side2 ?side3 ?side4 A8.out).mono ?_); (case side1 => exact Kd.cu_ (Kd.R_reads' HO545.out).2.2); (case side2 => exact (Kd.R_reads' HO545.out).2.1); (case side3 => exact Kd.cu_ (Kd.C_below HR546.out HB.out)); (case side4 => exact HC546.out); rintro e w' ⟨rfl, ⟨nd, rfl⟩⟩))
  go_ret3
  exact ⟨_, rf_, by (with_reducible repeat (first | apply Kd.rA_ | apply Kd.rN_ | apply Kd.rD_)); exact HO541.out, bw_⟩
 ·replace c9 := Bool.eq_false_iff.mpr c9
  subst c9
  have H1 : (some (([] : List Int), 0, 2)) = some (r1, r2, r3) := by rw [if_neg (show ¬ (false = true) by decide)] at H; exact H
  clear H
  have H := H1
  clear H1
  simp only [Option.some.injEq, Prod.mk.injEq] at H
  obtain ⟨rfl, rfl, rfl⟩ := H
  go_enter Try.func65, Try.ntmps65
  go_wp2_with (first | ((with_reducible refine gaC_ (f := 74) rfl ?_); refine goesL_ (some 12) rfl rfl Try.func74 (by kernel_rfl) rfl #[.slice A0 l0.length c0] rfl (by (try simp only [List.map_toArray, List.map_cons, List.map_nil]); first | done | rfl | (simp only [List.length_drop, List.length_take]; rfl)) ?_; (with_reducible refine (pfor_read.calls k _ _ l0 t537 t538 true _ ?side1 ?side2 A2.out).mono ?_); (case side1 => exact Kd.cu_ HR0.out); (case side2 => exact HC0.out); rintro e w15 ⟨v540, rfl, ho0, hb⟩; refine ⟨_, rfl, ?_⟩; have HO541 := Aside0.mk (Kd.R_lower ho0 (pbS_ bw_)); replace HB := Aside0.mk (below_step bw_ hb); (try clear hb); (try clear hb2); (try clear hk); (try clear hi); (try clear ho0); obtain ⟨Ao16, co16, eo16⟩ := Kd.R_slice HO541.out; subst eo16) | ((with_reducible refine gaC_ (f := 62) rfl ?_); refine goesL_ (some 20) rfl rfl Try.func62 (by kernel_rfl) rfl #[.slice none 0 0, .slice Ao16 t537.length co16] rfl (by (try simp only [List.map_toArray, List.map_cons, List.map_nil]); first | done | rfl | (simp only [List.length_drop, List.length_take]; rfl)) ?_; (refine (pfor_PutBlock.calls k _ _ ([] : List Int) _ _ t537 t542 t543 _ ?side1 ?side2 ?side3 ?side4 A4.out).mono ?_); (case side1 => exact Kd.C_nil _ _); (case side2 => exact Nat.le_refl _); (case side3 => exact Kd.cu_ (Kd.R_reads' HO541.out).2.2); (case side4 => exact (Kd.R_reads' HO541.out).2.1); rintro e w17 ⟨v544, rfl, ho0, hb⟩; refine ⟨_, rfl, ?_⟩; replace HO541 := Aside0.mk (Kd.R_below (Kd.ru_ HO541.out) hb); have HO545 := Aside0.mk (Kd.R_lower ho0 (pbS_ bw_)); replace HB := Aside0.mk (below_step bw_ hb); (try clear hb); (try clear hb2); (try clear hk); (try clear hi); (try clear ho0); obtain ⟨i018, hi018, _, hsz18, _⟩ := info_parts info5; obtain ⟨hcut18, hA18, hC18⟩ := print_take_of (P := Try.prog) (Value.int .u8) 0 22 5 .i64 Try.underlying22 hi018 hsz18 A0 c0 l0 t538 od_ od_ HC0.out; have HR546 := Aside0.mk (Kd.C_of_reads (h1 := fun _ => rfl) (hA18 _ (Kd.reads_of_C HR0.out))); have HC546 := Aside0.mk hC18; clear hA18 hC18 hi018 hsz18; obtain ⟨Ao19, co19, eo19⟩ := Kd.R_slice HO545.out; subst eo19) | (go_at_call 75; refine calls_of_args (args' := #[.slice Ao19 t542.length co19, .slice A0 (l0.take (t538 : Int).toNat).length c0]) (by first | (rw [show (l0.take (t538 : Int).toNat).length = t538.toNat from (by rw [List.length_take]; have h_ : (t538 : Int) ≤ (l0.length : Int) := od_; omega)] <;> rfl) | (simp only [List.length_take, List.length_drop, Int.toNat_natCast] <;> rfl) | rfl) ?_; (with_reducible refine (bytes_Equal.calls _ _ t542 _ _ (l0.take (t538 : Int).toNat) false _ ?side1 ?side2 ?side3 ?side4 A8.out).mono ?_); (case side1 => exact Kd.cu_ (Kd.R_reads' HO545.out).2.2); (case side2 => exact (Kd.R_reads' HO545.out).2.1); (case side3 => exact Kd.cu_ (Kd.C_below HR546.out HB.out)); (case side4 => exact HC546.out); rintro e w' ⟨rfl, ⟨nd, rfl⟩⟩))
  go_ret3
  exact ⟨_, rf_, ni_, bw_⟩
noncomputable def pfor_TakeList.l0 : Nat → List Int → Int → List Int → Int → Option (List Int × Int × Int)
 | 0, _, _, _, _ => none
 | k + 1, x0, x8, x10, x11 => if x11 > 0 then (if 0 ≤ x8 then (if x8 ≤ (x0.length : Int) then ((pfor_TakeBlock.f k (x0.drop (x8 : Int).toNat)).bind fun bt552 => (if bt552.2.2 = 0 then (if (bt552.1.length : Int) = (mn x11 32) then (if x10.length + bt552.1.length < 17592186044416 then (pfor_TakeList.l0 k x0 (wrap64 (x8 + bt552.2.1)) (x10 ++ bt552.1) (wrap64 (x11 - (bt552.1.length : Int)))) else (none)) else (some (([] : List Int), 0, 2))) else (some (([] : List Int), 0, 2)))) else (none)) else (none)) else (some (x10, x8, 0))
noncomputable def pfor_TakeList.f (k : Nat) (l0 : List Int) (a1 : Int) : Option (List Int × Int × Int) := if a1 < 0 then (some (([] : List Int), 0, 1)) else ((num_Take.f k l0).bind fun bt548 => (if bt548.2.2 = 0 then (if bt548.1 > (IntKind.u64.wrap (a1)) then (some (([] : List Int), 0, 5)) else (pfor_TakeList.l0 k l0 bt548.2.1 ([] : List Int) (wrap64 (bt548.1)))) else (some (([] : List Int), 0, 2))))
theorem pfor_TakeList.mono_l : ∀ k, (∀ y0 y1 y2 y3, LeO (pfor_TakeList.l0 k y0 y1 y2 y3) (pfor_TakeList.l0 (k + 1) y0 y1 y2 y3))
 | 0 => fun _ _ _ _ r h => by simp [pfor_TakeList.l0] at h
 | k + 1 => by
  have ih0 := pfor_TakeList.mono_l k
  ·intro y0 y1 y2 y3
   unfold pfor_TakeList.l0
   repeat' first
   | (with_reducible exact ih0 _ _ _ _)
   | (with_reducible exact num_Take.mono _ _)
   | (with_reducible exact pfor_TakeBlock.mono _ _)
   | (with_reducible exact LeO.refl _)
   | (with_reducible exact LeO.none _)
   | (with_reducible refine LeO.ite ?_ ?_)
   | (with_reducible refine LeO.bind ?_ (fun _ => ?_))
theorem pfor_TakeList.mono : ∀ a0 a1 k, LeO (pfor_TakeList.f k a0 a1) (pfor_TakeList.f (k + 1) a0 a1) := by
 intro a0 a1 k
 have ih0 := pfor_TakeList.mono_l k
 unfold pfor_TakeList.f
 repeat' first
   | (with_reducible exact ih0 _ _ _ _)
   | (with_reducible exact num_Take.mono _ _)
   | (with_reducible exact pfor_TakeBlock.mono _ _)
   | (with_reducible exact LeO.refl _)
   | (with_reducible exact LeO.none _)
   | (with_reducible refine LeO.ite ?_ ?_)
   | (with_reducible refine LeO.bind ?_ (fun _ => ?_))
set_option maxHeartbeats 8000000 in
set_option maxRecDepth 100000 in
theorem pfor_TakeList.calls (k : Nat) (A0 : Option Addr) (c0 : Nat) (l0 : List Int) (a1 : Int) (r1 : List Int) (r2 : Int) (r3 : Int) (w : World) (hr0 : Kd.C (Kd.int .u8) w A0 l0.length l0) (hc0 : l0.length ≤ c0) (h : pfor_TakeList.f k l0 a1 = some (r1, r2, r3)) :
  Calls Try.prog 56 #[.slice A0 l0.length c0, .int .i64 a1] w fun e w' => ∃ v0_ : Value, e = .returned (.tuple #[v0_, .int .i64 r2, .int .i64 r3]) ∧ Kd.R (Kd.int .u64) 50 w' w.heap.size (fun _ => True) v0_ r1 ∧ Below w.heap.size w w' := by
 have HR0 := Aside0.mk hr0
 have HC0 := Aside0.mk hc0
 clear hr0 hc0
 have HB := Aside0.mk (Below.refl w.heap.size w)
 have H : (if a1 < 0 then (some (([] : List Int), 0, 1)) else ((num_Take.f k l0).bind fun bt548 => (if bt548.2.2 = 0 then (if bt548.1 > (IntKind.u64.wrap (a1)) then (some (([] : List Int), 0, 5)) else (pfor_TakeList.l0 k l0 bt548.2.1 ([] : List Int) (wrap64 (bt548.1)))) else (some (([] : List Int), 0, 2))))) = some (r1, r2, r3) := h
 clear h
 by_cases c3 : a1 < 0
 ·rw [if_pos c3] at H
  have c3b0 : decide (a1 < 0) = true := decide_eq_true c3
  clear c3
  simp only [Option.some.injEq, Prod.mk.injEq] at H
  obtain ⟨rfl, rfl, rfl⟩ := H
  go_enter Try.func56, Try.ntmps56
  go_wp2
  go_ret3
  exact ⟨_, rf_, ni_, bw_⟩
 ·rw [if_neg c3] at H
  have c3b0 : decide (a1 < 0) = false := decide_eq_false c3
  clear c3
  replace H := Option.bind_eq_some_iff.mp H
  obtain ⟨⟨t548, t549, t550⟩, A40, H⟩ := H
  replace H : (if t550 = 0 then (if t548 > (IntKind.u64.wrap (a1)) then (some (([] : List Int), 0, 5)) else (pfor_TakeList.l0 k l0 t549 ([] : List Int) (wrap64 (t548)))) else (some (([] : List Int), 0, 2))) = some (r1, r2, r3) := H
  have A4 := Aside0.mk A40
  clear A40
  by_cases c5 : t550 = 0
  rotate_left
  ·rw [if_neg c5] at H
   have c5b0 : (t550 == 0) = false := beq_eq_false_iff_ne.mpr c5
   have c5b1 : (t550 != 0) = true := bne_iff_ne.mpr c5
   simp only [Option.some.injEq, Prod.mk.injEq] at H
   obtain ⟨rfl, rfl, rfl⟩ := H
   go_enter Try.func56, Try.ntmps56
   go_wp2_with (first | ((with_reducible refine gaC_ (f := 38) rfl ?_); refine goesL_ (some 19) rfl rfl Try.func38 (by kernel_rfl) rfl #[.slice A0 l0.length c0] rfl (by (try simp only [List.map_toArray, List.map_cons, List.map_nil]); first | done | rfl | (simp only [List.length_drop, List.length_take]; rfl)) ?_; (with_reducible refine (num_Take.calls k _ _ l0 t548 t549 t550 _ ?side1 ?side2 A4.out).mono ?_); (case side1 => exact Kd.cu_ HR0.out); (case side2 => exact HC0.out); rintro e w' ⟨rfl, ⟨nd, rfl⟩⟩; refine ⟨_, rfl, ?_⟩))
   go_ret3
   exact ⟨_, rf_, ni_, bw_⟩
  rw [if_pos c5] at H
  have c5b0 : (t550 == 0) = true := beq_iff_eq.mpr c5
  have c5b1 : (t550 != 0) = false := bne_eq_false_iff_eq.mpr c5
  clear c5
  by_cases c6 : t548 > (IntKind.u64.wrap (a1))
  ·rw [if_pos c6] at H
   have c6b0 : decide ((IntKind.u64.wrap (a1)) < t548) = true := decide_eq_true c6
   clear c6
   simp only [Option.some.injEq, Prod.mk.injEq] at H
   obtain ⟨rfl, rfl, rfl⟩ := H
   go_enter Try.func56, Try.ntmps56
   go_wp2_with (first | ((with_reducible refine gaC_ (f := 38) rfl ?_); refine goesL_ (some 19) rfl rfl Try.func38 (by kernel_rfl) rfl #[.slice A0 l0.length c0] rfl (by (try simp only [List.map_toArray, List.map_cons, List.map_nil]); first | done | rfl | (simp only [List.length_drop, List.length_take]; rfl)) ?_; (with_reducible refine (num_Take.calls k _ _ l0 t548 t549 t550 _ ?side1 ?side2 A4.out).mono ?_); (case side1 => exact Kd.cu_ HR0.out); (case side2 => exact HC0.out); rintro e w' ⟨rfl, ⟨nd, rfl⟩⟩; refine ⟨_, rfl, ?_⟩))
   go_ret3
   exact ⟨_, rf_, ni_, bw_⟩
  ·rw [if_neg c6] at H
   have c6b0 : decide ((IntKind.u64.wrap (a1)) < t548) = false := decide_eq_false c6
   clear c6
   have H' := Aside0.mk H
   clear H
   go_enter Try.func56, Try.ntmps56
   go_wp2_with (first | ((with_reducible refine gaC_ (f := 38) rfl ?_); refine goesL_ (some 19) rfl rfl Try.func38 (by kernel_rfl) rfl #[.slice A0 l0.length c0] rfl (by (try simp only [List.map_toArray, List.map_cons, List.map_nil]); first | done | rfl | (simp only [List.length_drop, List.length_take]; rfl)) ?_; (with_reducible refine (num_Take.calls k _ _ l0 t548 t549 t550 _ ?side1 ?side2 A4.out).mono ?_); (case side1 => exact Kd.cu_ HR0.out); (case side2 => exact HC0.out); rintro e w' ⟨rfl, ⟨nd, rfl⟩⟩; refine ⟨_, rfl, ?_⟩))
   go_loopg [8, 10, 11] k (fun kq v8 v10 v11 w' => ∃ (x8_1 : Int) (x10_1 : List Int) (x11_1 : Int), v8 = .int .i64 x8_1 ∧ v11 = .int .i64 x11_1 ∧ Aside0 (pfor_TakeList.l0 kq l0 x8_1 x10_1 x11_1 = some (r1, r2, r3)) ∧ Aside0 (kq ≤ k) ∧ Aside0 (Kd.R (Kd.int .u64) 50 w' w.heap.size (fun _ => True) v10 x10_1) ∧ Aside0 (Below w.heap.size w w'))
   case atStart => exact ⟨(t549), (([] : List Int)), (wrap64 (t548)), (by first | rfl | (simp; done) | (simp [*]; done)), (by first | rfl | (simp; done) | (simp [*]; done)), H', ⟨Nat.le_refl _⟩, ⟨ni_⟩, ⟨bw_⟩⟩
   case round =>
    clear H'
    try clear p2
    try clear c3
    try clear c3b0
    try clear c5
    try clear c5b0
    try clear c5b1
    try clear c6
    try clear c6b0
    try clear p6
    obtain ⟨x8_1, x10_1, x11_1, rfl, rfl, HA, HK1, HO_10, HB⟩ := hrel
    cases gk with
    | zero => exact absurd HA.out (by simp [pfor_TakeList.l0])
    | succ k1 =>
     have H := HA.out
     clear HA
     simp only [pfor_TakeList.l0] at H
     by_cases c7 : x11_1 > 0
     rotate_left
     ·rw [if_neg c7] at H
      have c7b0 : decide (0 < x11_1) = false := decide_eq_false c7
      clear c7
      simp only [Option.some.injEq, Prod.mk.injEq] at H
      obtain ⟨rfl, rfl, rfl⟩ := H
      go_wp2
      go_ret3
      exact ⟨_, rf_, by (with_reducible repeat (first | apply Kd.rA_ | apply Kd.rN_ | apply Kd.rD_)); exact HO_10.out, bw_⟩
     rw [if_pos c7] at H
     have c7b0 : decide (0 < x11_1) = true := decide_eq_true c7
     clear c7
     by_cases c8 : 0 ≤ x8_1
     rotate_left
     ·rw [if_neg c8] at H
      exact absurd H (by simp)
     rw [if_pos c8] at H
     have c8b0 := eq_true c8
     have c8b1 : decide (0 ≤ x8_1) = true := decide_eq_true c8
     clear c8
     by_cases c9 : x8_1 ≤ (l0.length : Int)
     rotate_left
     ·rw [if_neg c9] at H
      exact absurd H (by simp)
     rw [if_pos c9] at H
     have c9b0 := eq_true c9
     have c9b1 : decide (x8_1 ≤ (l0.length : Int)) = true := decide_eq_true c9
     clear c9
     replace H := Option.bind_eq_some_iff.mp H
     obtain ⟨⟨t552, t553, t554⟩, A100, H⟩ := H
     replace H : (if t554 = 0 then (if (t552.length : Int) = (mn x11_1 32) then (if x10_1.length + t552.length < 17592186044416 then (pfor_TakeList.l0 k1 l0 (wrap64 (x8_1 + t553)) (x10_1 ++ t552) (wrap64 (x11_1 - (t552.length : Int)))) else (none)) else (some (([] : List Int), 0, 2))) else (some (([] : List Int), 0, 2))) = some (r1, r2, r3) := H
     have A10 := Aside0.mk A100
     clear A100
     by_cases c11 : t554 = 0
     rotate_left
     ·rw [if_neg c11] at H
      have c11b0 : (t554 == 0) = false := beq_eq_false_iff_ne.mpr c11
      have c11b1 : (t554 != 0) = true := bne_iff_ne.mpr c11
      simp only [Option.some.injEq, Prod.mk.injEq] at H
      obtain ⟨rfl, rfl, rfl⟩ := H
      obtain ⟨i022, hi022, _, hsz22, _⟩ := info_parts info5
      obtain ⟨A22, hcut22, hA22, hC22⟩ := print_drop_of (P := Try.prog) (Value.int .u8) 0 22 5 .i64 Try.underlying22 hi022 hsz22 A0 c0 l0 x8_1 od_ od_ HC0.out
      have HR551 := Aside0.mk (Kd.C_of_reads (h1 := fun _ => rfl) (hA22 _ (Kd.reads_of_C HR0.out)))
      have HC551 := Aside0.mk hC22
      clear hA22 hC22 hi022 hsz22
      go_wp2_with (first | ((with_reducible refine gaC_ (f := 65) rfl ?_); refine goesL_ (some 37) rfl rfl Try.func65 (by kernel_rfl) rfl #[.slice A22 (l0.drop (x8_1 : Int).toNat).length (c0 - x8_1.toNat)] rfl (by (try simp only [List.map_toArray, List.map_cons, List.map_nil]); first | done | (rw [show (l0.drop (x8_1 : Int).toNat).length = (l0.length - x8_1.toNat) from List.length_drop] <;> rfl) | rfl | (simp only [List.length_drop, List.length_take]; rfl)) ?_; (with_reducible refine (pfor_TakeBlock.calls k1 _ _ (l0.drop (x8_1 : Int).toNat) t552 t553 t554 _ ?side1 ?side2 A10.out).mono ?_); (case side1 => exact Kd.cu_ (Kd.C_below HR551.out HB.out)); (case side2 => exact HC551.out); rintro e w23 ⟨v555, rfl, ho0, hb⟩; refine ⟨_, rfl, ?_⟩; have n0_ := Aside0.mk (Kd.R_elder' (Kd.ru_ HO_10.out) (Kd.R_base ho0) hb); have n1_ := Aside0.mk (Kd.R_lower (Kd.R_new' ho0 (Kd.R_lt (Kd.ru_ HO_10.out))) (pbS_ bw_)); have n2_ := Aside0.mk (below_step bw_ hb); clear HO_10; clear HB; have HO_10 := n0_; have HO556 := n1_; have HB := n2_; clear n0_ n1_ n2_; (try clear hb); (try clear hb2); (try clear hk); (try clear hi); (try clear ho0)))
      go_ret3
      exact ⟨_, rf_, ni_, bw_⟩
     rw [if_pos c11] at H
     have c11b0 : (t554 == 0) = true := beq_iff_eq.mpr c11
     have c11b1 : (t554 != 0) = false := bne_eq_false_iff_eq.mpr c11
     clear c11
     obtain ⟨ji12, hji12⟩ : ∃ j_ : Int, (mn x11_1 32) = j_ := ⟨_, rfl⟩
     replace H : (if (t552.length : Int) = (ji12) then (if x10_1.length + t552.length < 17592186044416 then (pfor_TakeList.l0 k1 l0 (wrap64 (x8_1 + t553)) (x10_1 ++ t552) (wrap64 (x11_1 - (t552.length : Int)))) else (none)) else (some (([] : List Int), 0, 2))) = some (r1, r2, r3) := by first | (rw [hji12] at H; exact H) | (simp only [hji12] at H ⊢; exact H)
     (try rw [hji12] at A10)
     have hji12_ : (if 32 < x11_1 then 32 else x11_1) = ji12 := hji12
     by_cases c13 : (t552.length : Int) = (ji12)
     rotate_left
     ·rw [if_neg c13] at H
      have c13b0 : ((t552.length : Int) == (ji12)) = false := beq_eq_false_iff_ne.mpr c13
      have c13b1 : ((t552.length : Int) != (ji12)) = true := bne_iff_ne.mpr c13
      simp only [Option.some.injEq, Prod.mk.injEq] at H
      obtain ⟨rfl, rfl, rfl⟩ := H
      obtain ⟨i019, hi019, _, hsz19, _⟩ := info_parts info5
      obtain ⟨A19, hcut19, hA19, hC19⟩ := print_drop_of (P := Try.prog) (Value.int .u8) 0 22 5 .i64 Try.underlying22 hi019 hsz19 A0 c0 l0 x8_1 od_ od_ HC0.out
      have HR551 := Aside0.mk (Kd.C_of_reads (h1 := fun _ => rfl) (hA19 _ (Kd.reads_of_C HR0.out)))
      have HC551 := Aside0.mk hC19
      clear hA19 hC19 hi019 hsz19
      go_wp2_with (first | ((with_reducible refine gaC_ (f := 65) rfl ?_); refine goesL_ (some 37) rfl rfl Try.func65 (by kernel_rfl) rfl #[.slice A19 (l0.drop (x8_1 : Int).toNat).length (c0 - x8_1.toNat)] rfl (by (try simp only [List.map_toArray, List.map_cons, List.map_nil]); first | done | (rw [show (l0.drop (x8_1 : Int).toNat).length = (l0.length - x8_1.toNat) from List.length_drop] <;> rfl) | rfl | (simp only [List.length_drop, List.length_take]; rfl)) ?_; (with_reducible refine (pfor_TakeBlock.calls k1 _ _ (l0.drop (x8_1 : Int).toNat) t552 t553 t554 _ ?side1 ?side2 A10.out).mono ?_); (case side1 => exact Kd.cu_ (Kd.C_below HR551.out HB.out)); (case side2 => exact HC551.out); rintro e w20 ⟨v555, rfl, ho0, hb⟩; refine ⟨_, rfl, ?_⟩; have n0_ := Aside0.mk (Kd.R_elder' (Kd.ru_ HO_10.out) (Kd.R_base ho0) hb); have n1_ := Aside0.mk (Kd.R_lower (Kd.R_new' ho0 (Kd.R_lt (Kd.ru_ HO_10.out))) (pbS_ bw_)); have n2_ := Aside0.mk (below_step bw_ hb); clear HO_10; clear HB; have HO_10 := n0_; have HO556 := n1_; have HB := n2_; clear n0_ n1_ n2_; (try clear hb); (try clear hb2); (try clear hk); (try clear hi); (try clear ho0); obtain ⟨Ao21, co21, eo21⟩ := Kd.R_slice HO556.out; subst eo21))
      go_ret3
      exact ⟨_, by first | rfl | (simp [eWn_, eWs_] <;> rfl) | (simp only [← hji12]; first | rfl | (simp [eWn_, eWs_] <;> rfl)) | (simp [*, eWn_, eWs_] <;> rfl), ni_, bw_⟩
     rw [if_pos c13] at H
     have c13b0 : ((t552.length : Int) == (ji12)) = true := beq_iff_eq.mpr c13
     have c13b1 : ((t552.length : Int) != (ji12)) = false := bne_eq_false_iff_eq.mpr c13
     clear c13
     by_cases c14 : x10_1.length + t552.length < 17592186044416
     rotate_left
     ·rw [if_neg c14] at H
      exact absurd H (by simp)
     rw [if_pos c14] at H
     have LMc14 := Aside0.mk c14
     clear c14
     obtain ⟨y557, hy557⟩ : ∃ y_ : List Int, y_ = (x10_1 ++ t552) := ⟨_, rfl⟩
     replace H : (pfor_TakeList.l0 k1 l0 (wrap64 (x8_1 + t553)) y557 (wrap64 (x11_1 - (t552.length : Int)))) = some (r1, r2, r3) := by first | (rw [hy557]; with_reducible exact H) | (have H2_ := (Option.bind_some _ _).symm.trans H; rw [hy557]; with_reducible exact H2_) | (have H2_ := (Option.bind_some _ _).symm.trans H; with_reducible exact H2_) | with_reducible exact H | (rw [hy557]; exact H) | exact H
     have Ny557 := Aside0.mk hy557
     clear hy557
     have H' := Aside0.mk H
     clear H
     obtain ⟨i015, hi015, _, hsz15, _⟩ := info_parts info5
     obtain ⟨A15, hcut15, hA15, hC15⟩ := print_drop_of (P := Try.prog) (Value.int .u8) 0 22 5 .i64 Try.underlying22 hi015 hsz15 A0 c0 l0 x8_1 od_ od_ HC0.out
     have HR551 := Aside0.mk (Kd.C_of_reads (h1 := fun _ => rfl) (hA15 _ (Kd.reads_of_C HR0.out)))
     have HC551 := Aside0.mk hC15
     clear hA15 hC15 hi015 hsz15
     go_wp2_with (first | ((with_reducible refine gaC_ (f := 65) rfl ?_); refine goesL_ (some 37) rfl rfl Try.func65 (by kernel_rfl) rfl #[.slice A15 (l0.drop (x8_1 : Int).toNat).length (c0 - x8_1.toNat)] rfl (by (try simp only [List.map_toArray, List.map_cons, List.map_nil]); first | done | (rw [show (l0.drop (x8_1 : Int).toNat).length = (l0.length - x8_1.toNat) from List.length_drop] <;> rfl) | rfl | (simp only [List.length_drop, List.length_take]; rfl)) ?_; (with_reducible refine (pfor_TakeBlock.calls k1 _ _ (l0.drop (x8_1 : Int).toNat) t552 t553 t554 _ ?side1 ?side2 A10.out).mono ?_); (case side1 => exact Kd.cu_ (Kd.C_below HR551.out HB.out)); (case side2 => exact HC551.out); rintro e w16 ⟨v555, rfl, ho0, hb⟩; refine ⟨_, rfl, ?_⟩; have n0_ := Aside0.mk (Kd.R_elder' (Kd.ru_ HO_10.out) (Kd.R_base ho0) hb); have n1_ := Aside0.mk (Kd.R_lower (Kd.R_new' ho0 (Kd.R_lt (Kd.ru_ HO_10.out))) (pbS_ bw_)); have n2_ := Aside0.mk (below_step bw_ hb); clear HO_10; clear HB; have HO_10 := n0_; have HO556 := n1_; have HB := n2_; clear n0_ n1_ n2_; (try clear hb); (try clear hb2); (try clear hk); (try clear hi); (try clear ho0); obtain ⟨Ao17, co17, eo17⟩ := Kd.R_slice HO556.out; subst eo17) | ((with_reducible refine gate_builtin (b := .append) (xs := #[.tmp 50, .tmp 51]) rfl ?_); (try (refine gate_guard (by rfl) ?_; dsimp only)); at_builtin; refine Kd.R_append_rows (Kd.int .u64) (w0 := w) w.heap.size rfl (.tmp 50) (.tmp 51) 49 50 (.int .u64 0) 8 rfl Try.underlying49 info50 rfl (by decide) (by omega) u10 x10_1 t552 _ _ _ (fun k_ => some k_ ≠ (.slice Ao17 t552.length co17 : Value).ownBlock) (fun _ => False) rfl rfl ?aO ?aR (fun _ _ h => h) (fun _ h => h.elim) ?aF ?aB ?aS ?aL ?_; (case aR => exact Kd.cu_ (Kd.R_reads' HO556.out).2.2); (case aB => exact bw_); (case aF => exact (fun k_ hk => Kd.fresh' (Kd.R_lt (Kd.ru_ HO556.out)) k_ hk)); (case aO => exact (by (with_reducible repeat (first | apply Kd.rA_ | apply Kd.rN_ | apply Kd.rD_)); exact Kd.R_mono HO_10.out (fun _ hk => hk.2))); (case aS => exact (pbS_ bw_)); (case aL => have := LMc14.out; omega); intro v558 w18 ho hb hg hat; rw [← Ny557.out] at ho; have n0_ := Aside0.mk (Kd.R_after (ok := (fun _ => True)) (Kd.ru_ HO556.out) hg hat); have n1_ := Aside0.mk (hb); have n2_ := Aside0.mk (ho); clear HO556; clear HB; clear HO_10; have HO556 := n0_; have HB := n1_; have HO559 := n2_; clear n0_ n1_ n2_; clear ho hb hg hat))
     (try subst hji12)
     go_roundg k1
     case measure => have := HK1.out; omega
     case rel => exact ⟨(wrap64 (x8_1 + t553)), (y557), (wrap64 (x11_1 - (t552.length : Int))), (by first | rfl | (simp; done) | (simp [*]; done)), (by first | rfl | (simp; done) | (simp [*]; done)), H', ⟨by have := HK1.out; omega⟩, ⟨by (with_reducible repeat (first | apply Kd.rA_ | apply Kd.rN_ | apply Kd.rD_)); exact Kd.R_mono HO559.out (fun _ hk => trivial)⟩, ⟨bw_⟩⟩
noncomputable def num_Unfold.f (a0 : Int) : Option (Int) := some (Go.bits .xor .i64 (wrap64 (a0 / 2)) (wrap64 (-(wrap64 (Go.bits .and .u64 a0 1)))))
set_option maxHeartbeats 8000000 in
set_option maxRecDepth 100000 in
theorem num_Unfold.calls (a0 : Int) (r : Int) (w : World) (h : num_Unfold.f a0 = some r) :
  Calls Try.prog 57 #[.int .u64 a0] w fun e w' => e = .returned (.int .i64 r) ∧ Drawn0 w w' := by
 have H : (some (Go.bits .xor .i64 (wrap64 (a0 / 2)) (wrap64 (-(wrap64 (Go.bits .and .u64 a0 1)))))) = some r := h
 clear h
 obtain rfl := Option.some.inj H
 go_enter Try.func57, Try.ntmps57
 go_wp2
 go_ret
 exact ⟨by first | rfl | (simp; done) | (simp [*]; done), by repeat (first | exact Drawn0.refl _ | apply Drawn0.step)⟩
noncomputable def pfor_TakeInts.l0 : Nat → Int → List Int → List Int → Int → Int → Option (List Int × Int × Int)
 | 0, _, _, _, _, _ => none
 | k + 1, x8, x10, x26, x27, x28 => if x28 < x27 then (if 0 ≤ x28 then (if x28 < (x26.length : Int) then ((num_Unfold.f (rd x26 x28)).bind fun t569 => (if x28 < (x10.length : Int) then (pfor_TakeInts.l0 k x8 (x10.set (x28 : Int).toNat t569) x26 x27 (wrap64 (x28 + 1))) else (none))) else (none)) else (none)) else (some (x10, x8, 0))
noncomputable def pfor_TakeInts.f (k : Nat) (l0 : List Int) (a1 : Int) : Option (List Int × Int × Int) := (pfor_TakeList.f k l0 a1).bind fun bt560 => (if bt560.2.2 = 0 then (if 0 ≤ (bt560.1.length : Int) then (if ((bt560.1.length : Int) : Int).toNat ≤ 35184372088832 then (pfor_TakeInts.l0 k bt560.2.1 (List.replicate ((bt560.1.length : Int) : Int).toNat 0) bt560.1 (bt560.1.length : Int) 0) else (none)) else (none)) else (some (([] : List Int), 0, bt560.2.2)))
theorem pfor_TakeInts.mono_l : ∀ k, (∀ y0 y1 y2 y3 y4, LeO (pfor_TakeInts.l0 k y0 y1 y2 y3 y4) (pfor_TakeInts.l0 (k + 1) y0 y1 y2 y3 y4))
 | 0 => fun _ _ _ _ _ r h => by simp [pfor_TakeInts.l0] at h
 | k + 1 => by
  have ih0 := pfor_TakeInts.mono_l k
  ·intro y0 y1 y2 y3 y4
   unfold pfor_TakeInts.l0
   repeat' first
   | (with_reducible exact ih0 _ _ _ _ _)
   | (with_reducible exact pfor_TakeList.mono _ _ _)
   | (with_reducible exact LeO.refl _)
   | (with_reducible exact LeO.none _)
   | (with_reducible refine LeO.ite ?_ ?_)
   | (with_reducible refine LeO.bind ?_ (fun _ => ?_))
theorem pfor_TakeInts.mono : ∀ a0 a1 k, LeO (pfor_TakeInts.f k a0 a1) (pfor_TakeInts.f (k + 1) a0 a1) := by
 intro a0 a1 k
 have ih0 := pfor_TakeInts.mono_l k
 unfold pfor_TakeInts.f
 repeat' first
   | (with_reducible exact ih0 _ _ _ _ _)
   | (with_reducible exact pfor_TakeList.mono _ _ _)
   | (with_reducible exact LeO.refl _)
   | (with_reducible exact LeO.none _)
   | (with_reducible refine LeO.ite ?_ ?_)
   | (with_reducible refine LeO.bind ?_ (fun _ => ?_))
set_option maxHeartbeats 8000000 in
set_option maxRecDepth 100000 in
theorem pfor_TakeInts.calls (k : Nat) (A0 : Option Addr) (c0 : Nat) (l0 : List Int) (a1 : Int) (r1 : List Int) (r2 : Int) (r3 : Int) (w : World) (hr0 : Kd.C (Kd.int .u8) w A0 l0.length l0) (hc0 : l0.length ≤ c0) (h : pfor_TakeInts.f k l0 a1 = some (r1, r2, r3)) :
  Calls Try.prog 40 #[.slice A0 l0.length c0, .int .i64 a1] w fun e w' => ∃ v0_ : Value, e = .returned (.tuple #[v0_, .int .i64 r2, .int .i64 r3]) ∧ Kd.R (Kd.int .i64) 3 w' w.heap.size (fun _ => True) v0_ r1 ∧ Below w.heap.size w w' := by
 have HR0 := Aside0.mk hr0
 have HC0 := Aside0.mk hc0
 clear hr0 hc0
 have HB := Aside0.mk (Below.refl w.heap.size w)
 have H : ((pfor_TakeList.f k l0 a1).bind fun bt560 => (if bt560.2.2 = 0 then (if 0 ≤ (bt560.1.length : Int) then (if ((bt560.1.length : Int) : Int).toNat ≤ 35184372088832 then (pfor_TakeInts.l0 k bt560.2.1 (List.replicate ((bt560.1.length : Int) : Int).toNat 0) bt560.1 (bt560.1.length : Int) 0) else (none)) else (none)) else (some (([] : List Int), 0, bt560.2.2)))) = some (r1, r2, r3) := h
 clear h
 replace H := Option.bind_eq_some_iff.mp H
 obtain ⟨⟨t560, t561, t562⟩, A30, H⟩ := H
 replace H : (if t562 = 0 then (if 0 ≤ (t560.length : Int) then (if ((t560.length : Int) : Int).toNat ≤ 35184372088832 then (pfor_TakeInts.l0 k t561 (List.replicate ((t560.length : Int) : Int).toNat 0) t560 (t560.length : Int) 0) else (none)) else (none)) else (some (([] : List Int), 0, t562))) = some (r1, r2, r3) := H
 have A3 := Aside0.mk A30
 clear A30
 by_cases c4 : t562 = 0
 rotate_left
 ·rw [if_neg c4] at H
  have c4b0 : (t562 == 0) = false := beq_eq_false_iff_ne.mpr c4
  have c4b1 : (t562 != 0) = true := bne_iff_ne.mpr c4
  simp only [Option.some.injEq, Prod.mk.injEq] at H
  obtain ⟨rfl, rfl, rfl⟩ := H
  go_enter Try.func40, Try.ntmps40
  go_wp2_with (first | ((with_reducible refine gaC_ (f := 56) rfl ?_); refine goesL_ (some 16) rfl rfl Try.func56 (by kernel_rfl) rfl #[.slice A0 l0.length c0, .int .i64 a1] rfl (by (try simp only [List.map_toArray, List.map_cons, List.map_nil]); first | done | rfl | (simp only [List.length_drop, List.length_take]; rfl)) ?_; (with_reducible refine (pfor_TakeList.calls k _ _ l0 a1 t560 t561 t562 _ ?side1 ?side2 A3.out).mono ?_); (case side1 => exact Kd.cu_ HR0.out); (case side2 => exact HC0.out); rintro e w19 ⟨v563, rfl, ho0, hb⟩; refine ⟨_, rfl, ?_⟩; have HO564 := Aside0.mk (Kd.R_lower ho0 (pbS_ bw_)); replace HB := Aside0.mk (below_step bw_ hb); (try clear hb); (try clear hb2); (try clear hk); (try clear hi); (try clear ho0)))
  go_ret3
  exact ⟨_, rf_, ni_, bw_⟩
 rw [if_pos c4] at H
 have c4b0 : (t562 == 0) = true := beq_iff_eq.mpr c4
 have c4b1 : (t562 != 0) = false := bne_eq_false_iff_eq.mpr c4
 clear c4
 by_cases c5 : 0 ≤ (t560.length : Int)
 rotate_left
 ·rw [if_neg c5] at H
  exact absurd H (by simp)
 rw [if_pos c5] at H
 have c5b0 := eq_true c5
 have c5b1 : decide (0 ≤ (t560.length : Int)) = true := decide_eq_true c5
 clear c5
 by_cases c6 : ((t560.length : Int) : Int).toNat ≤ 35184372088832
 rotate_left
 ·rw [if_neg c6] at H
  exact absurd H (by simp)
 rw [if_pos c6] at H
 have c6b0 := eq_true c6
 have c6b1 : decide (((t560.length : Int) : Int).toNat ≤ 35184372088832) = true := decide_eq_true c6
 clear c6
 obtain ⟨y565, hy565⟩ : ∃ y_ : List Int, y_ = (List.replicate ((t560.length : Int) : Int).toNat 0) := ⟨_, rfl⟩
 replace H : (pfor_TakeInts.l0 k t561 y565 t560 (t560.length : Int) 0) = some (r1, r2, r3) := by first | (rw [hy565]; with_reducible exact H) | (have H2_ := (Option.bind_some _ _).symm.trans H; rw [hy565]; with_reducible exact H2_) | (have H2_ := (Option.bind_some _ _).symm.trans H; with_reducible exact H2_) | with_reducible exact H | (rw [hy565]; exact H) | exact H
 have Ny565 := Aside0.mk hy565
 clear hy565
 have H' := Aside0.mk H
 clear H
 go_enter Try.func40, Try.ntmps40
 go_wp2_with (first | ((with_reducible refine gaC_ (f := 56) rfl ?_); refine goesL_ (some 16) rfl rfl Try.func56 (by kernel_rfl) rfl #[.slice A0 l0.length c0, .int .i64 a1] rfl (by (try simp only [List.map_toArray, List.map_cons, List.map_nil]); first | done | rfl | (simp only [List.length_drop, List.length_take]; rfl)) ?_; (with_reducible refine (pfor_TakeList.calls k _ _ l0 a1 t560 t561 t562 _ ?side1 ?side2 A3.out).mono ?_); (case side1 => exact Kd.cu_ HR0.out); (case side2 => exact HC0.out); rintro e w7 ⟨v563, rfl, ho0, hb⟩; refine ⟨_, rfl, ?_⟩; have HO564 := Aside0.mk (Kd.R_lower ho0 (pbS_ bw_)); replace HB := Aside0.mk (below_step bw_ hb); (try clear hb); (try clear hb2); (try clear hk); (try clear hi); (try clear ho0); obtain ⟨Ao8, co8, eo8⟩ := Kd.R_slice HO564.out; subst eo8) | ((with_reducible refine gate_dst (N := 25) rfl ?_); refine Kd.R_make (Kd.int .i64) _ 3 rfl (N := 25) rfl 39 _ _ rfl (t560.length : Int) rfl rfl Try.underlying39 (.int .i64 0) 8 info3 rfl (by decide) (by omega) 0 (ok := fun _ => True) (okp := fun _ => True) rfl (fun _ hk => hk) trivial od_ (Nat.le_trans (Nat.mul_le_mul_right _ (od_ : (t560.length : Int).toNat ≤ 35184372088832)) (by omega)) (Below.refl _ _) (Nat.le_refl _) ?_; intro v566 w9 ho10 hb hg_ hnew_; clear hg_ hnew_; (first | rw [← Ny565.out] at ho10 | (simp only [Int.reduceToNat] at ho10; rw [← Ny565.out] at ho10)); replace HO564 := Aside0.mk (Kd.R_below (Kd.ru_ HO564.out) hb); have HO567 := Aside0.mk (Kd.R_lower ho10 (pbS_ bw_)); replace HB := Aside0.mk (below_step bw_ hb); clear hb ho10))
 go_loopg [28] k (fun kq v28 w' => ∃ (x10_1 : List Int) (x28_1 : Int), v28 = .int .i64 x28_1 ∧ Aside0 (pfor_TakeInts.l0 kq t561 x10_1 t560 (t560.length : Int) x28_1 = some (r1, r2, r3)) ∧ Aside0 (kq ≤ k) ∧ Aside0 (Kd.R (Kd.int .i64) 3 w' w.heap.size (fun _ => True) v566 x10_1) ∧ Aside0 (Kd.R (Kd.int .u64) 50 w' w.heap.size (fun _ => True) (.slice Ao8 t560.length co8) t560) ∧ Aside0 (Below w.heap.size w w'))
 case atStart => exact ⟨(y565), (0), (by first | rfl | (simp; done) | (simp [*]; done)), H', ⟨Nat.le_refl _⟩, ⟨Kd.ru_ HO567.out⟩, ⟨Kd.ru_ HO564.out⟩, ⟨bw_⟩⟩
 case round =>
  clear H'
  try clear p2
  try clear c4
  try clear c4b0
  try clear c4b1
  try clear c5
  try clear c5b0
  try clear c5b1
  try clear c6
  try clear c6b0
  try clear c6b1
  obtain ⟨x10_1, x28_1, rfl, HA, HK1, HO_10, HO_26, HB⟩ := hrel
  cases gk with
  | zero => exact absurd HA.out (by simp [pfor_TakeInts.l0])
  | succ k1 =>
   have H := HA.out
   clear HA
   simp only [pfor_TakeInts.l0] at H
   by_cases c11 : x28_1 < (t560.length : Int)
   rotate_left
   ·rw [if_neg c11] at H
    have c11b0 : decide (x28_1 < (t560.length : Int)) = false := decide_eq_false c11
    clear c11
    simp only [Option.some.injEq, Prod.mk.injEq] at H
    obtain ⟨rfl, rfl, rfl⟩ := H
    go_wp2
    go_ret3
    exact ⟨_, rf_, by (with_reducible repeat (first | apply Kd.rA_ | apply Kd.rN_ | apply Kd.rD_)); exact HO_10.out, bw_⟩
   rw [if_pos c11] at H
   have c11b0 : decide (x28_1 < (t560.length : Int)) = true := decide_eq_true c11
   clear c11
   by_cases c12 : 0 ≤ x28_1
   rotate_left
   ·rw [if_neg c12] at H
    exact absurd H (by simp)
   rw [if_pos c12] at H
   have c12b0 : decide (0 ≤ x28_1) = true := decide_eq_true c12
   clear c12
   by_cases c13 : x28_1 < (t560.length : Int)
   rotate_left
   ·rw [if_neg c13] at H
    exact absurd H (by simp)
   rw [if_pos c13] at H
   have c13b0 : decide (x28_1 < (t560.length : Int)) = true := decide_eq_true c13
   clear c13
   replace H := Option.bind_eq_some_iff.mp H
   obtain ⟨t569, A140, H⟩ := H
   replace H : (if x28_1 < (x10_1.length : Int) then (pfor_TakeInts.l0 k1 t561 (x10_1.set (x28_1 : Int).toNat t569) t560 (t560.length : Int) (wrap64 (x28_1 + 1))) else (none)) = some (r1, r2, r3) := H
   have A14 := Aside0.mk A140
   clear A140
   by_cases c15 : x28_1 < (x10_1.length : Int)
   rotate_left
   ·rw [if_neg c15] at H
    exact absurd H (by simp)
   rw [if_pos c15] at H
   have c15b0 : decide (x28_1 < (x10_1.length : Int)) = true := decide_eq_true c15
   clear c15
   obtain ⟨y570, hy570⟩ : ∃ y_ : List Int, y_ = (x10_1.set (x28_1 : Int).toNat t569) := ⟨_, rfl⟩
   replace H : (pfor_TakeInts.l0 k1 t561 y570 t560 (t560.length : Int) (wrap64 (x28_1 + 1))) = some (r1, r2, r3) := by first | (rw [hy570]; with_reducible exact H) | (have H2_ := (Option.bind_some _ _).symm.trans H; rw [hy570]; with_reducible exact H2_) | (have H2_ := (Option.bind_some _ _).symm.trans H; with_reducible exact H2_) | with_reducible exact H | (rw [hy570]; exact H) | exact H
   have Ny570 := Aside0.mk hy570
   clear hy570
   have H' := Aside0.mk H
   clear H
   have p568 : 0 ≤ (x28_1 : Int) := od_
   have q568 : x28_1 < (t560.length : Int) := od_
   obtain ⟨ad568, e568, hx568_0⟩ := Kd.at_int (Kd.R_reads' HO_26.out).2.2 x28_1 p568 q568
   cases e568
   replace p568 := eq_true p568
   replace q568 := eq_true q568
   go_wp2_with (first | ((with_reducible refine gaC_ (f := 57) rfl ?_); refine goesL_ (some 36) rfl rfl Try.func57 (by kernel_rfl) rfl #[.int .u64 (rd t560 x28_1)] rfl (by (try simp only [List.map_toArray, List.map_cons, List.map_nil]); first | done | rfl | (simp only [List.length_drop, List.length_take]; rfl)) ?_; (with_reducible refine (num_Unfold.calls (rd t560 x28_1) t569 _ A14.out).mono ?_); rintro e w' ⟨rfl, ⟨nd, rfl⟩⟩; refine ⟨_, rfl, ?_⟩; (try (rw [drewN_self wr]; generalize hq_ : World.drewN wr _ = wr; have n0_ : Aside0 (Kd.R (Kd.int .i64) 3 wr w.heap.size (fun _ => True) v566 x10_1) := ⟨by rw [← hq_]; exact (Kd.ru_ HO_10.out)⟩; have n1_ : Aside0 (Kd.R (Kd.int .u64) 50 wr w.heap.size (fun _ => True) (.slice (some ad568) t560.length co8) t560) := ⟨by rw [← hq_]; exact (Kd.ru_ HO_26.out)⟩; have n2_ : Aside0 (Below w.heap.size w wr) := ⟨by rw [← hq_]; exact bw_⟩; clear HO_10 HO_26 HB hq_; have HO_10 := n0_; have HO_26 := n1_; have HB := n2_; clear n0_ n1_ n2_)); have p16 : 0 ≤ (x28_1 : Int) := od_; have q16 : (x28_1 : Int) < ((x10_1.length : Int) : Int) := od_; obtain ⟨go16, co16, eo16, gb16, gl16, cl16, HG16⟩ := Kd.R_form HO_10.out (by omega); (first | cases eo16 | (injection eo16 with ea_ en_ ec_; (first | subst ea_ | (injection ea_ with ea_; subst ea_)); subst ec_; clear en_)); have GB16 := Aside0.mk gb16; have GG16 := Aside0.mk HG16; clear gb16 gl16 HG16; obtain ⟨hx16_0, hf16_0⟩ := Kd.R_celln 0 HO_10.out (x28_1 : Int) p16 q16; replace p16 := eq_true p16; replace q16 := eq_true q16; obtain ⟨hy17_, hz17_⟩ := Kd.R_celln 0 HO_10.out (x28_1 : Int) od_ od_; have HP17 := Kd.R_putg HO_10.out (x28_1 : Int) t569) | ((with_reducible refine gate_store (t := 3) (p := 37) rfl ?_); refine store_event (t := 3) (p := 37) (v := ?vo_w18) (w1 := (wr.setCell ⟨go16, (x28_1 : Int).toNat, none⟩ (.int .i64 t569))) ?hg ?ho ?hn ?hr ?_; (case ho => rfl); (case hg => rfl); (case hn => rfl); (case hr => first | (go_simp; done) | (go_simp; rfl)); intro w18 hw; have hg : wr.grownBy w18 (some go16) := (by rw [hw]; exact HP17.2); have hp_ : Kd.R (Kd.int .i64) 3 w18 w.heap.size (fun _ => True) (.slice (some ⟨go16, 0, none⟩) x10_1.length co16) y570 := (by rw [hw, Ny570.out]; exact HP17.1); clear HP17; have n0_ := Aside0.mk (hp_); have n1_ := Aside0.mk (Kd.R_over' (v := (.slice (some ⟨go16, 0, none⟩) x10_1.length co16)) (Kd.ru_ HO_26.out) (Kd.R_typed HO_10.out) (by decide) hg); have n2_ := Aside0.mk ((by rw [hw]; exact below_set (HB.out) GB16.out : Below w.heap.size w w18)); clear HO_10; clear HO_26; clear HB; have HO_10 := n0_; have HO_26 := n1_; have HB := n2_; clear n0_ n1_ n2_; clear hg hw hp_))
   go_roundg k1
   case measure => have := HK1.out; omega
   case rel => exact ⟨(y570), (wrap64 (x28_1 + 1)), (by first | rfl | (simp; done) | (simp [*]; done)), H', ⟨by have := HK1.out; omega⟩, ⟨Kd.ru_ HO_10.out⟩, ⟨Kd.ru_ HO_26.out⟩, ⟨bw_⟩⟩
mutual
noncomputable def ints_Take.j0 : Nat → List Int → Int → Int → Bool → Option ((List (S42)) × Int × Int)
 | 0, _, _, _, _ => none
 | k + 1, x0, x5, x6, x26 => if x26 = true then (some (([] : List (S42)), 0, 2)) else (if (wrap64 (x6 + (wrap64 (Int.tdiv (wrap64 ((wrap64 (x5)) + 7)) 8)))) > (x0.length : Int) then (some (([] : List (S42)), 0, 2)) else (if 0 ≤ x6 then (if x6 ≤ (wrap64 (x6 + (wrap64 (Int.tdiv (wrap64 ((wrap64 (x5)) + 7)) 8)))) then (if (wrap64 (x6 + (wrap64 (Int.tdiv (wrap64 ((wrap64 (x5)) + 7)) 8)))) ≤ (x0.length : Int) then ((bits_Unpack.f k ((x0.take ((wrap64 (x6 + (wrap64 (Int.tdiv (wrap64 ((wrap64 (x5)) + 7)) 8)))) : Int).toNat).drop (x6 : Int).toNat) (wrap64 (x5)) 1).bind fun bt575 => (if bt575.2 = 0 then (if 0 ≤ (wrap64 (x6 + (wrap64 (Int.tdiv (wrap64 ((wrap64 (x5)) + 7)) 8)))) then ((pfor_TakeInts.f k (x0.drop ((wrap64 (x6 + (wrap64 (Int.tdiv (wrap64 ((wrap64 (x5)) + 7)) 8)))) : Int).toNat) 4096).bind fun bt580 => (if bt580.2.2 = 0 then (if 0 ≤ x5 then (if (x5 : Int).toNat ≤ 17592186044416 then (ints_Take.l0 k (wrap64 (x6 + (wrap64 (Int.tdiv (wrap64 ((wrap64 (x5)) + 7)) 8)))) bt580.1 bt580.2.1 (List.replicate (x5 : Int).toNat z42) bt575.1 (bt575.1.length : Int) 0) else (none)) else (none)) else (some (([] : List (S42)), 0, 2)))) else (none)) else (some (([] : List (S42)), 0, 2)))) else (none)) else (none)) else (none)))
noncomputable def ints_Take.l0 : Nat → Int → List Int → Int → List (S42) → List Int → Int → Int → Option ((List (S42)) × Int × Int)
 | 0, _, _, _, _, _, _, _ => none
 | k + 1, x8, x10, x11, x12, x61, x62, x63 => if x63 < x62 then (if 0 ≤ x63 then (if x63 < (x61.length : Int) then (if (rd x61 x63) = 0 then (ints_Take.l0 k x8 x10 x11 x12 x61 x62 (wrap64 (x63 + 1))) else (if (x10.length : Int) = 0 then (some (([] : List (S42)), 0, 2)) else (if 0 < (x10.length : Int) then (if 1 ≤ (x10.length : Int) then (if x63 < (x12.length : Int) then (ints_Take.l0 k x8 (x10.drop (1 : Int).toNat) x11 (x12.set (x63 : Int).toNat (⟨true, rd x10 0⟩ : S42)) x61 x62 (wrap64 (x63 + 1))) else (none)) else (none)) else (none)))) else (none)) else (none)) else (if (x10.length : Int) > 0 then (some (([] : List (S42)), 0, 2)) else (some (x12, wrap64 (x8 + x11), 0)))
end
noncomputable def ints_Take.f (k : Nat) (l0 : List Int) : Option ((List (S42)) × Int × Int) := (num_Take.f k l0).bind fun bt571 => (if bt571.2.2 = 0 then (ints_Take.j0 k l0 bt571.1 bt571.2.1 (decide (bt571.1 > 4096))) else (ints_Take.j0 k l0 bt571.1 bt571.2.1 true))
theorem ints_Take.mono_l : ∀ k, (∀ y0 y1 y2 y3, LeO (ints_Take.j0 k y0 y1 y2 y3) (ints_Take.j0 (k + 1) y0 y1 y2 y3)) ∧ (∀ y0 y1 y2 y3 y4 y5 y6, LeO (ints_Take.l0 k y0 y1 y2 y3 y4 y5 y6) (ints_Take.l0 (k + 1) y0 y1 y2 y3 y4 y5 y6))
 | 0 => ⟨fun _ _ _ _ r h => by simp [ints_Take.j0] at h, fun _ _ _ _ _ _ _ r h => by simp [ints_Take.l0] at h⟩
 | k + 1 => by
  obtain ⟨ih0, ih1⟩ := ints_Take.mono_l k
  refine ⟨?_, ?_⟩
  ·intro y0 y1 y2 y3
   unfold ints_Take.j0
   repeat' first
   | (with_reducible exact ih0 _ _ _ _)
   | (with_reducible exact ih1 _ _ _ _ _ _ _)
   | (with_reducible exact bits_Unpack.mono _ _ _ _)
   | (with_reducible exact num_Take.mono _ _)
   | (with_reducible exact pfor_TakeInts.mono _ _ _)
   | (with_reducible exact LeO.refl _)
   | (with_reducible exact LeO.none _)
   | (with_reducible refine LeO.ite ?_ ?_)
   | (with_reducible refine LeO.bind ?_ (fun _ => ?_))
  ·intro y0 y1 y2 y3 y4 y5 y6
   unfold ints_Take.l0
   repeat' first
   | (with_reducible exact ih0 _ _ _ _)
   | (with_reducible exact ih1 _ _ _ _ _ _ _)
   | (with_reducible exact bits_Unpack.mono _ _ _ _)
   | (with_reducible exact num_Take.mono _ _)
   | (with_reducible exact pfor_TakeInts.mono _ _ _)
   | (with_reducible exact LeO.refl _)
   | (with_reducible exact LeO.none _)
   | (with_reducible refine LeO.ite ?_ ?_)
   | (with_reducible refine LeO.bind ?_ (fun _ => ?_))
theorem ints_Take.mono : ∀ a0 k, LeO (ints_Take.f k a0) (ints_Take.f (k + 1) a0) := by
 intro a0 k
 obtain ⟨ih0, ih1⟩ := ints_Take.mono_l k
 unfold ints_Take.f
 repeat' first
   | (with_reducible exact ih0 _ _ _ _)
   | (with_reducible exact ih1 _ _ _ _ _ _ _)
   | (with_reducible exact bits_Unpack.mono _ _ _ _)
   | (with_reducible exact num_Take.mono _ _)
   | (with_reducible exact pfor_TakeInts.mono _ _ _)
   | (with_reducible exact LeO.refl _)
   | (with_reducible exact LeO.none _)
   | (with_reducible refine LeO.ite ?_ ?_)
   | (with_reducible refine LeO.bind ?_ (fun _ => ?_))
def ints_Take.T20 : Bool × List (List Nat × List Nat) := (true, [([], []), ([], []), ([], []), ([2], [2]), ([3], [3]), ([4], [4]), ([], []), ([6], [6]), ([0, 1, 0, 1, 2, 3, 4, 5], [0, 1]), ([8, 5, 0, 1, 2, 3, 4, 5], [5, 8]), ([7, 9, 0, 1, 2, 3, 4, 5, 6, 7, 8, 9], [2, 6, 7])])
def ints_Take.B20 : List Nat := [0, 0, 0, 4, 12, 28, 0, 64, 63, 319, 1023]
theorem ints_Take.tab20 : rtab .any (opsOf Try.f24 20) = ints_Take.T20 := by kernel_rfl
theorem ints_Take.bits20 : waitsOk ints_Take.T20.2 ints_Take.B20 = true := by kernel_rfl
set_option maxHeartbeats 8000000 in
set_option maxRecDepth 100000 in
theorem ints_Take.calls (k : Nat) (A0 : Option Addr) (c0 : Nat) (l0 : List Int) (r1 : List (S42)) (r2 : Int) (r3 : Int) (w : World) (hr0 : Kd.C (Kd.int .u8) w A0 l0.length l0) (hc0 : l0.length ≤ c0) (h : ints_Take.f k l0 = some (r1, r2, r3)) :
  Calls Try.prog 24 #[.slice A0 l0.length c0] w fun e w' => ∃ v0_ : Value, e = .returned (.tuple #[v0_, .int .i64 r2, .int .i64 r3]) ∧ Kd.R k42 42 w' w.heap.size (fun _ => True) v0_ r1 ∧ Below w.heap.size w w' := by
 have hu42 := Try.underlying42
 have HR0 := Aside0.mk hr0
 have HC0 := Aside0.mk hc0
 clear hr0 hc0
 have HB := Aside0.mk (Below.refl w.heap.size w)
 have H : ((num_Take.f k l0).bind fun bt571 => (if bt571.2.2 = 0 then (ints_Take.j0 k l0 bt571.1 bt571.2.1 (decide (bt571.1 > 4096))) else (ints_Take.j0 k l0 bt571.1 bt571.2.1 true))) = some (r1, r2, r3) := h
 clear h
 replace H := Option.bind_eq_some_iff.mp H
 obtain ⟨⟨t571, t572, t573⟩, A20, H⟩ := H
 replace H : (if t573 = 0 then (ints_Take.j0 k l0 t571 t572 (decide (t571 > 4096))) else (ints_Take.j0 k l0 t571 t572 true)) = some (r1, r2, r3) := H
 have A2 := Aside0.mk A20
 clear A20
 have HC3 := Aside0.mk H
 clear H
 go_enter Try.func24, Try.ntmps24
 go_upto_region 2 with (first | ((with_reducible refine gaC_ (f := 38) rfl ?_); refine goesL_ (some 17) rfl rfl Try.func38 (by kernel_rfl) rfl #[.slice A0 l0.length c0] rfl (by (try simp only [List.map_toArray, List.map_cons, List.map_nil]); first | done | rfl | (simp only [List.length_drop, List.length_take]; rfl)) ?_; (with_reducible refine (num_Take.calls k _ _ l0 t571 t572 t573 _ ?side1 ?side2 A2.out).mono ?_); (case side1 => exact Kd.cu_ HR0.out); (case side2 => exact HC0.out); rintro e w' ⟨rfl, ⟨nd, rfl⟩⟩; refine ⟨_, rfl, ?_⟩))
 (try simp only [Act.put, List.setIfInBounds_toArray, List.set_cons_zero, List.set_cons_succ])
 go_cut [26] (fun v26 wc => ∃ (kq : Nat) (x26_2 : Bool), v26 = .bool x26_2 ∧ Aside0 (ints_Take.j0 kq l0 t571 t572 x26_2 = some (r1, r2, r3)) ∧ Aside0 (kq ≤ k) ∧ Aside0 (Below w.heap.size w wc))
 case first =>
  have H := HC3.out
  clear HC3
  by_cases c4 : t573 = 0
  rotate_left
  ·rw [if_neg c4] at H
   have c4b0 : (t573 == 0) = false := beq_eq_false_iff_ne.mpr c4
   have c4b1 : (t573 != 0) = true := bne_iff_ne.mpr c4
   (first | rw [c4b0] | (simp only [i64_w, i32_w]; rw [c4b0]) | skip)
   have H' := Aside0.mk H
   clear H
   go_wp2
   go_meet
   case rel => exact ⟨_, (true), (by first | rfl | (simp; done) | (simp [*]; done)), H', ⟨by first | omega | exact Nat.le_refl _⟩, ⟨bw_⟩⟩
  rw [if_pos c4] at H
  have c4b0 : (t573 == 0) = true := beq_iff_eq.mpr c4
  have c4b1 : (t573 != 0) = false := bne_eq_false_iff_eq.mpr c4
  clear c4
  (first | rw [c4b0] | (simp only [i64_w, i32_w]; rw [c4b0]) | skip)
  have H' := Aside0.mk H
  clear H
  go_wp2
  go_meet
  case rel => exact ⟨_, (decide (t571 > 4096)), (by first | rfl | (simp; done) | (simp [*]; done)), H', ⟨by first | omega | exact Nat.le_refl _⟩, ⟨bw_⟩⟩
 case rest =>
  clear HC3
  try clear c2
  try clear p2
  try clear c3
  try clear c4
  try clear c4b0
  try clear c4b1
  obtain ⟨kq, x26_2, rfl, HA, HJ2, HB⟩ := hcut
  cases kq with
  | zero => exact absurd HA.out (by simp [ints_Take.j0])
  | succ kj2 =>
   have H := HA.out
   clear HA
   simp only [ints_Take.j0] at H
   by_cases c5 : x26_2 = true
   ·subst c5
    have H1 : (some (([] : List (S42)), 0, 2)) = some (r1, r2, r3) := by rw [if_pos rfl] at H; exact H
    clear H
    have H := H1
    clear H1
    simp only [Option.some.injEq, Prod.mk.injEq] at H
    obtain ⟨rfl, rfl, rfl⟩ := H
    go_wp2
    go_ret3
    exact ⟨_, rf_, ni_, bw_⟩
   ·replace c5 := Bool.eq_false_iff.mpr c5
    subst c5
    have H1 : (if (wrap64 (t572 + (wrap64 (Int.tdiv (wrap64 ((wrap64 (t571)) + 7)) 8)))) > (l0.length : Int) then (some (([] : List (S42)), 0, 2)) else (if 0 ≤ t572 then (if t572 ≤ (wrap64 (t572 + (wrap64 (Int.tdiv (wrap64 ((wrap64 (t571)) + 7)) 8)))) then (if (wrap64 (t572 + (wrap64 (Int.tdiv (wrap64 ((wrap64 (t571)) + 7)) 8)))) ≤ (l0.length : Int) then ((bits_Unpack.f kj2 ((l0.take ((wrap64 (t572 + (wrap64 (Int.tdiv (wrap64 ((wrap64 (t571)) + 7)) 8)))) : Int).toNat).drop (t572 : Int).toNat) (wrap64 (t571)) 1).bind fun bt575 => (if bt575.2 = 0 then (if 0 ≤ (wrap64 (t572 + (wrap64 (Int.tdiv (wrap64 ((wrap64 (t571)) + 7)) 8)))) then ((pfor_TakeInts.f kj2 (l0.drop ((wrap64 (t572 + (wrap64 (Int.tdiv (wrap64 ((wrap64 (t571)) + 7)) 8)))) : Int).toNat) 4096).bind fun bt580 => (if bt580.2.2 = 0 then (if 0 ≤ t571 then (if (t571 : Int).toNat ≤ 17592186044416 then (ints_Take.l0 kj2 (wrap64 (t572 + (wrap64 (Int.tdiv (wrap64 ((wrap64 (t571)) + 7)) 8)))) bt580.1 bt580.2.1 (List.replicate (t571 : Int).toNat z42) bt575.1 (bt575.1.length : Int) 0) else (none)) else (none)) else (some (([] : List (S42)), 0, 2)))) else (none)) else (some (([] : List (S42)), 0, 2)))) else (none)) else (none)) else (none))) = some (r1, r2, r3) := by rw [if_neg (show ¬ (false = true) by decide)] at H; exact H
    clear H
    have H := H1
    clear H1
    by_cases c6 : (wrap64 (t572 + (wrap64 (Int.tdiv (wrap64 ((wrap64 (t571)) + 7)) 8)))) > (l0.length : Int)
    ·rw [if_pos c6] at H
     have c6b0 : decide ((l0.length : Int) < (wrap64 (t572 + (wrap64 (Int.tdiv (wrap64 ((wrap64 (t571)) + 7)) 8))))) = true := decide_eq_true c6
     clear c6
     simp only [Option.some.injEq, Prod.mk.injEq] at H
     obtain ⟨rfl, rfl, rfl⟩ := H
     go_wp2
     go_ret3
     exact ⟨_, rf_, ni_, bw_⟩
    ·rw [if_neg c6] at H
     have c6b0 : decide ((l0.length : Int) < (wrap64 (t572 + (wrap64 (Int.tdiv (wrap64 ((wrap64 (t571)) + 7)) 8))))) = false := decide_eq_false c6
     clear c6
     by_cases c7 : 0 ≤ t572
     rotate_left
     ·rw [if_neg c7] at H
      exact absurd H (by simp)
     rw [if_pos c7] at H
     have c7b0 := eq_true c7
     have c7b1 : decide (0 ≤ t572) = true := decide_eq_true c7
     clear c7
     by_cases c8 : t572 ≤ (wrap64 (t572 + (wrap64 (Int.tdiv (wrap64 ((wrap64 (t571)) + 7)) 8))))
     rotate_left
     ·rw [if_neg c8] at H
      exact absurd H (by simp)
     rw [if_pos c8] at H
     have c8b0 := eq_true c8
     have c8b1 : decide (t572 ≤ (wrap64 (t572 + (wrap64 (Int.tdiv (wrap64 ((wrap64 (t571)) + 7)) 8))))) = true := decide_eq_true c8
     by_cases c9 : (wrap64 (t572 + (wrap64 (Int.tdiv (wrap64 ((wrap64 (t571)) + 7)) 8)))) ≤ (l0.length : Int)
     rotate_left
     ·rw [if_neg c9] at H
      exact absurd H (by simp)
     rw [if_pos c9] at H
     have c9b0 := eq_true c9
     have c9b1 : decide ((wrap64 (t572 + (wrap64 (Int.tdiv (wrap64 ((wrap64 (t571)) + 7)) 8)))) ≤ (l0.length : Int)) = true := decide_eq_true c9
     replace H := Option.bind_eq_some_iff.mp H
     obtain ⟨⟨t575, t576⟩, A100, H⟩ := H
     replace H : (if t576 = 0 then (if 0 ≤ (wrap64 (t572 + (wrap64 (Int.tdiv (wrap64 ((wrap64 (t571)) + 7)) 8)))) then ((pfor_TakeInts.f kj2 (l0.drop ((wrap64 (t572 + (wrap64 (Int.tdiv (wrap64 ((wrap64 (t571)) + 7)) 8)))) : Int).toNat) 4096).bind fun bt580 => (if bt580.2.2 = 0 then (if 0 ≤ t571 then (if (t571 : Int).toNat ≤ 17592186044416 then (ints_Take.l0 kj2 (wrap64 (t572 + (wrap64 (Int.tdiv (wrap64 ((wrap64 (t571)) + 7)) 8)))) bt580.1 bt580.2.1 (List.replicate (t571 : Int).toNat z42) t575 (t575.length : Int) 0) else (none)) else (none)) else (some (([] : List (S42)), 0, 2)))) else (none)) else (some (([] : List (S42)), 0, 2))) = some (r1, r2, r3) := H
     have A10 := Aside0.mk A100
     clear A100
     by_cases c11 : t576 = 0
     rotate_left
     ·rw [if_neg c11] at H
      have c11b0 : (t576 == 0) = false := beq_eq_false_iff_ne.mpr c11
      have c11b1 : (t576 != 0) = true := bne_iff_ne.mpr c11
      simp only [Option.some.injEq, Prod.mk.injEq] at H
      obtain ⟨rfl, rfl, rfl⟩ := H
      obtain ⟨i047, hi047, _, hsz47, _⟩ := info_parts info5
      obtain ⟨A47, hcut47, hA47, hC47⟩ := print_mid_of (P := Try.prog) (Value.int .u8) 0 22 5 .i64 .i64 Try.underlying22 hi047 hsz47 A0 c0 l0 t572 (wrap64 (t572 + (wrap64 (Int.tdiv (wrap64 ((wrap64 (t571)) + 7)) 8)))) od_ (by first | omega | exact od_) od_ HC0.out
      have HR574 := Aside0.mk (Kd.C_of_reads (h1 := fun _ => rfl) (hA47 _ (Kd.reads_of_C HR0.out)))
      have HC574 := Aside0.mk hC47
      clear hA47 hC47 hi047 hsz47
      go_wp2_with (first | ((with_reducible refine gaC_ (f := 39) rfl ?_); refine goesL_ (some 44) rfl rfl Try.func39 (by kernel_rfl) rfl #[.slice A47 ((l0.take ((wrap64 (t572 + (wrap64 (Int.tdiv (wrap64 ((wrap64 (t571)) + 7)) 8)))) : Int).toNat).drop (t572 : Int).toNat).length (c0 - t572.toNat), .int .i64 (wrap64 (t571)), .int .i64 1] rfl (by (try simp only [List.map_toArray, List.map_cons, List.map_nil]); first | done | (rw [show ((l0.take ((wrap64 (t572 + (wrap64 (Int.tdiv (wrap64 ((wrap64 (t571)) + 7)) 8)))) : Int).toNat).drop (t572 : Int).toNat).length = ((wrap64 (t572 + (wrap64 (Int.tdiv (wrap64 ((wrap64 (t571)) + 7)) 8)))).toNat - t572.toNat) from (by rw [List.length_drop, List.length_take]; have h_ : ((wrap64 (t572 + (wrap64 (Int.tdiv (wrap64 ((wrap64 (t571)) + 7)) 8)))) : Int) ≤ (l0.length : Int) := od_; omega)] <;> rfl) | rfl | (simp only [List.length_drop, List.length_take]; rfl)) ?_; (with_reducible refine (bits_Unpack.calls kj2 _ _ ((l0.take ((wrap64 (t572 + (wrap64 (Int.tdiv (wrap64 ((wrap64 (t571)) + 7)) 8)))) : Int).toNat).drop (t572 : Int).toNat) (wrap64 (t571)) 1 t575 t576 _ ?side1 ?side2 A10.out).mono ?_); (case side1 => exact Kd.cu_ (Kd.C_below HR574.out HB.out)); (case side2 => exact HC574.out); rintro e w48 ⟨v577, rfl, ho0, hb⟩; refine ⟨_, rfl, ?_⟩; have HO578 := Aside0.mk (Kd.R_lower ho0 (pbS_ bw_)); replace HB := Aside0.mk (below_step bw_ hb); (try clear hb); (try clear hb2); (try clear hk); (try clear hi); (try clear ho0)))
      go_ret3
      exact ⟨_, rf_, ni_, bw_⟩
     rw [if_pos c11] at H
     have c11b0 : (t576 == 0) = true := beq_iff_eq.mpr c11
     have c11b1 : (t576 != 0) = false := bne_eq_false_iff_eq.mpr c11
     clear c11
     obtain ⟨ji12, hji12⟩ : ∃ j_ : Int, (wrap64 (t572 + (wrap64 (Int.tdiv (wrap64 ((wrap64 (t571)) + 7)) 8)))) = j_ := ⟨_, rfl⟩
     replace H : (if 0 ≤ (ji12) then ((pfor_TakeInts.f kj2 (l0.drop ((ji12) : Int).toNat) 4096).bind fun bt580 => (if bt580.2.2 = 0 then (if 0 ≤ t571 then (if (t571 : Int).toNat ≤ 17592186044416 then (ints_Take.l0 kj2 ji12 bt580.1 bt580.2.1 (List.replicate (t571 : Int).toNat z42) t575 (t575.length : Int) 0) else (none)) else (none)) else (some (([] : List (S42)), 0, 2)))) else (none)) = some (r1, r2, r3) := by first | (rw [hji12] at H; exact H) | (simp only [hji12] at H ⊢; exact H)
     (try rw [hji12] at c6b0)
     (try rw [hji12] at c8b0)
     (try rw [hji12] at c8b1)
     (try rw [hji12] at c8)
     (try rw [hji12] at c9b0)
     (try rw [hji12] at c9b1)
     (try rw [hji12] at c9)
     (try rw [hji12] at A10)
     have hji12w : (IntKind.i64.wrap (t572 + (wrap64 (Int.tdiv (wrap64 ((wrap64 (t571)) + 7)) 8)))) = ji12 := (i64_w _).trans hji12
     by_cases c13 : 0 ≤ (ji12)
     rotate_left
     ·rw [if_neg c13] at H
      exact absurd H (by simp)
     rw [if_pos c13] at H
     have c13b0 := eq_true c13
     have c13b1 : decide (0 ≤ (ji12)) = true := decide_eq_true c13
     clear c13
     have c14b0 := eq_true (od_ : (ji12) ≤ (l0.length : Int))
     replace H := Option.bind_eq_some_iff.mp H
     obtain ⟨⟨t580, t581, t582⟩, A150, H⟩ := H
     replace H : (if t582 = 0 then (if 0 ≤ t571 then (if (t571 : Int).toNat ≤ 17592186044416 then (ints_Take.l0 kj2 ji12 t580 t581 (List.replicate (t571 : Int).toNat z42) t575 (t575.length : Int) 0) else (none)) else (none)) else (some (([] : List (S42)), 0, 2))) = some (r1, r2, r3) := H
     have A15 := Aside0.mk A150
     clear A150
     by_cases c16 : t582 = 0
     rotate_left
     ·rw [if_neg c16] at H
      have c16b0 : (t582 == 0) = false := beq_eq_false_iff_ne.mpr c16
      have c16b1 : (t582 != 0) = true := bne_iff_ne.mpr c16
      simp only [Option.some.injEq, Prod.mk.injEq] at H
      obtain ⟨rfl, rfl, rfl⟩ := H
      obtain ⟨i043, hi043, _, hsz43, _⟩ := info_parts info5
      obtain ⟨A43, hcut43, hA43, hC43⟩ := print_mid_of (P := Try.prog) (Value.int .u8) 0 22 5 .i64 .i64 Try.underlying22 hi043 hsz43 A0 c0 l0 t572 (ji12) od_ (by first | omega | exact od_) od_ HC0.out
      have HR574 := Aside0.mk (Kd.C_of_reads (h1 := fun _ => rfl) (hA43 _ (Kd.reads_of_C HR0.out)))
      have HC574 := Aside0.mk hC43
      clear hA43 hC43 hi043 hsz43
      go_wp2_with (first | ((with_reducible refine gaC_ (f := 39) rfl ?_); refine goesL_ (some 44) rfl rfl Try.func39 (by kernel_rfl) rfl #[.slice A43 ((l0.take ((ji12) : Int).toNat).drop (t572 : Int).toNat).length (c0 - t572.toNat), .int .i64 (wrap64 (t571)), .int .i64 1] rfl (by (try simp only [List.map_toArray, List.map_cons, List.map_nil]); first | done | (rw [show ((l0.take ((ji12) : Int).toNat).drop (t572 : Int).toNat).length = ((ji12).toNat - t572.toNat) from (by rw [List.length_drop, List.length_take]; have h_ : ((ji12) : Int) ≤ (l0.length : Int) := od_; omega)] <;> rfl) | (simp only [hji12]; rfl) | rfl | (simp only [List.length_drop, List.length_take]; rfl)) ?_; (with_reducible refine (bits_Unpack.calls kj2 _ _ ((l0.take ((ji12) : Int).toNat).drop (t572 : Int).toNat) (wrap64 (t571)) 1 t575 t576 _ ?side1 ?side2 A10.out).mono ?_); (case side1 => exact Kd.cu_ (Kd.C_below HR574.out HB.out)); (case side2 => exact HC574.out); rintro e w44 ⟨v577, rfl, ho0, hb⟩; refine ⟨_, rfl, ?_⟩; have HO578 := Aside0.mk (Kd.R_lower ho0 (pbS_ bw_)); replace HB := Aside0.mk (below_step bw_ hb); (try clear hb); (try clear hb2); (try clear hk); (try clear hi); (try clear ho0); obtain ⟨i045, hi045, _, hsz45, _⟩ := info_parts info5; obtain ⟨A45, hcut45, hA45, hC45⟩ := print_drop_of (P := Try.prog) (Value.int .u8) 0 22 5 .i64 Try.underlying22 hi045 hsz45 A0 c0 l0 (ji12) od_ od_ HC0.out; have HR579 := Aside0.mk (Kd.C_of_reads (h1 := fun _ => rfl) (hA45 _ (Kd.reads_of_C HR0.out))); have HC579 := Aside0.mk hC45; clear hA45 hC45 hi045 hsz45) | ((with_reducible refine gaC_ (f := 40) rfl ?_); refine goesL_ (some 53) rfl rfl Try.func40 (by kernel_rfl) rfl #[.slice A45 (l0.drop ((ji12) : Int).toNat).length (c0 - (ji12).toNat), .int .i64 4096] rfl (by (try simp only [List.map_toArray, List.map_cons, List.map_nil]); first | done | (rw [show (l0.drop ((ji12) : Int).toNat).length = (l0.length - (ji12).toNat) from List.length_drop] <;> rfl) | (simp only [hji12]; rfl) | rfl | (simp only [List.length_drop, List.length_take]; rfl)) ?_; (with_reducible refine (pfor_TakeInts.calls kj2 _ _ (l0.drop ((ji12) : Int).toNat) 4096 t580 t581 t582 _ ?side1 ?side2 A15.out).mono ?_); (case side1 => exact Kd.cu_ (Kd.C_below HR579.out HB.out)); (case side2 => exact HC579.out); rintro e w46 ⟨v583, rfl, ho0, hb⟩; refine ⟨_, rfl, ?_⟩; replace HO578 := Aside0.mk (Kd.R_below (Kd.ru_ HO578.out) hb); have HO584 := Aside0.mk (Kd.R_lower ho0 (pbS_ bw_)); replace HB := Aside0.mk (below_step bw_ hb); (try clear hb); (try clear hb2); (try clear hk); (try clear hi); (try clear ho0)))
      go_ret3
      exact ⟨_, by first | rfl | (simp [eWn_, eWs_] <;> rfl) | (simp only [← hji12]; first | rfl | (simp [eWn_, eWs_] <;> rfl)) | (simp [*, eWn_, eWs_] <;> rfl), ni_, bw_⟩
     rw [if_pos c16] at H
     have c16b0 : (t582 == 0) = true := beq_iff_eq.mpr c16
     have c16b1 : (t582 != 0) = false := bne_eq_false_iff_eq.mpr c16
     clear c16
     by_cases c17 : 0 ≤ t571
     rotate_left
     ·rw [if_neg c17] at H
      exact absurd H (by simp)
     rw [if_pos c17] at H
     have c17b0 := eq_true c17
     have c17b1 : decide (0 ≤ t571) = true := decide_eq_true c17
     clear c17
     by_cases c18 : (t571 : Int).toNat ≤ 17592186044416
     rotate_left
     ·rw [if_neg c18] at H
      exact absurd H (by simp)
     rw [if_pos c18] at H
     have c18b0 := eq_true c18
     have c18b1 : decide ((t571 : Int).toNat ≤ 17592186044416) = true := decide_eq_true c18
     clear c18
     obtain ⟨y585, hy585⟩ : ∃ y_ : List (S42), y_ = (List.replicate (t571 : Int).toNat z42) := ⟨_, rfl⟩
     replace H : (ints_Take.l0 kj2 ji12 t580 t581 y585 t575 (t575.length : Int) 0) = some (r1, r2, r3) := by first | (rw [hy585]; with_reducible exact H) | (have H2_ := (Option.bind_some _ _).symm.trans H; rw [hy585]; with_reducible exact H2_) | (have H2_ := (Option.bind_some _ _).symm.trans H; with_reducible exact H2_) | with_reducible exact H | (rw [hy585]; exact H) | exact H
     have Ny585 := Aside0.mk hy585
     clear hy585
     have H' := Aside0.mk H
     clear H
     obtain ⟨i019, hi019, _, hsz19, _⟩ := info_parts info5
     obtain ⟨A19, hcut19, hA19, hC19⟩ := print_mid_of (P := Try.prog) (Value.int .u8) 0 22 5 .i64 .i64 Try.underlying22 hi019 hsz19 A0 c0 l0 t572 (ji12) od_ (by first | omega | exact od_) od_ HC0.out
     have HR574 := Aside0.mk (Kd.C_of_reads (h1 := fun _ => rfl) (hA19 _ (Kd.reads_of_C HR0.out)))
     have HC574 := Aside0.mk hC19
     clear hA19 hC19 hi019 hsz19
     go_wp2_with (first | ((with_reducible refine gaC_ (f := 39) rfl ?_); refine goesL_ (some 44) rfl rfl Try.func39 (by kernel_rfl) rfl #[.slice A19 ((l0.take ((ji12) : Int).toNat).drop (t572 : Int).toNat).length (c0 - t572.toNat), .int .i64 (wrap64 (t571)), .int .i64 1] rfl (by (try simp only [List.map_toArray, List.map_cons, List.map_nil]); first | done | (rw [show ((l0.take ((ji12) : Int).toNat).drop (t572 : Int).toNat).length = ((ji12).toNat - t572.toNat) from (by rw [List.length_drop, List.length_take]; have h_ : ((ji12) : Int) ≤ (l0.length : Int) := od_; omega)] <;> rfl) | (simp only [hji12]; rfl) | rfl | (simp only [List.length_drop, List.length_take]; rfl)) ?_; (with_reducible refine (bits_Unpack.calls kj2 _ _ ((l0.take ((ji12) : Int).toNat).drop (t572 : Int).toNat) (wrap64 (t571)) 1 t575 t576 _ ?side1 ?side2 A10.out).mono ?_); (case side1 => exact Kd.cu_ (Kd.C_below HR574.out HB.out)); (case side2 => exact HC574.out); rintro e w20 ⟨v577, rfl, ho0, hb⟩; refine ⟨_, rfl, ?_⟩; have HO578 := Aside0.mk (Kd.R_lower ho0 (pbS_ bw_)); replace HB := Aside0.mk (below_step bw_ hb); (try clear hb); (try clear hb2); (try clear hk); (try clear hi); (try clear ho0); obtain ⟨i021, hi021, _, hsz21, _⟩ := info_parts info5; obtain ⟨A21, hcut21, hA21, hC21⟩ := print_drop_of (P := Try.prog) (Value.int .u8) 0 22 5 .i64 Try.underlying22 hi021 hsz21 A0 c0 l0 (ji12) od_ od_ HC0.out; have HR579 := Aside0.mk (Kd.C_of_reads (h1 := fun _ => rfl) (hA21 _ (Kd.reads_of_C HR0.out))); have HC579 := Aside0.mk hC21; clear hA21 hC21 hi021 hsz21) | ((with_reducible refine gaC_ (f := 40) rfl ?_); refine goesL_ (some 53) rfl rfl Try.func40 (by kernel_rfl) rfl #[.slice A21 (l0.drop ((ji12) : Int).toNat).length (c0 - (ji12).toNat), .int .i64 4096] rfl (by (try simp only [List.map_toArray, List.map_cons, List.map_nil]); first | done | (rw [show (l0.drop ((ji12) : Int).toNat).length = (l0.length - (ji12).toNat) from List.length_drop] <;> rfl) | (simp only [hji12]; rfl) | rfl | (simp only [List.length_drop, List.length_take]; rfl)) ?_; (with_reducible refine (pfor_TakeInts.calls kj2 _ _ (l0.drop ((ji12) : Int).toNat) 4096 t580 t581 t582 _ ?side1 ?side2 A15.out).mono ?_); (case side1 => exact Kd.cu_ (Kd.C_below HR579.out HB.out)); (case side2 => exact HC579.out); rintro e w22 ⟨v583, rfl, ho0, hb⟩; refine ⟨_, rfl, ?_⟩; replace HO578 := Aside0.mk (Kd.R_below (Kd.ru_ HO578.out) hb); have HO584 := Aside0.mk (Kd.R_lower ho0 (pbS_ bw_)); replace HB := Aside0.mk (below_step bw_ hb); (try clear hb); (try clear hb2); (try clear hk); (try clear hi); (try clear ho0)) | ((with_reducible refine gate_dst (N := 60) rfl ?_); refine Kd.R_makeu k42 _ 42 rfl (N := 60) rfl 23 _ _ rfl t571 rfl rfl Try.underlying23 (.agg #[(.bool false), (.int .i64 0)]) 16 info42 rfl (by decide) (by omega) z42 (ok := fun _ => True) (okp := fun _ => True) (k42_mkM _ _ _ z42 ) (fun _ hk => hk) trivial od_ (Nat.le_trans (Nat.mul_le_mul_right _ (od_ : t571.toNat ≤ 17592186044416)) (by omega)) (Below.refl _ _) (Nat.le_refl _) ?_; intro v586 w23 ho24 hb hg_ hnew_; clear hg_ hnew_; (first | rw [← Ny585.out] at ho24 | (simp only [Int.reduceToNat] at ho24; rw [← Ny585.out] at ho24)); replace HO578 := Aside0.mk (Kd.R_below (Kd.ru_ HO578.out) hb); replace HO584 := Aside0.mk (Kd.R_below (Kd.ru_ HO584.out) hb); have HO587 := Aside0.mk (Kd.R_lower ho24 (pbS_ bw_)); replace HB := Aside0.mk (below_step bw_ hb); clear hb ho24; obtain ⟨Ao25, co25, eo25⟩ := Kd.R_slice HO578.out; subst eo25))
     go_loopg [10, 63] kj2 (fun kq v10 v63 w' => ∃ (x10_2 : List Int) (x12_2 : List (S42)) (x63_2 : Int), v63 = .int .i64 x63_2 ∧ Aside0 (ints_Take.l0 kq ji12 x10_2 t581 x12_2 t575 (t575.length : Int) x63_2 = some (r1, r2, r3)) ∧ Aside0 (kq ≤ kj2) ∧ Aside0 (Kd.Q (Kd.int .i64) 3 w' w.heap.size (fun _ => True) v10 x10_2) ∧ Aside0 (Kd.R k42 42 w' w.heap.size (fun _ => True) v586 x12_2) ∧ Aside0 (Kd.R (Kd.int .u64) 50 w' w.heap.size (fun _ => True) (.slice Ao25 t575.length co25) t575) ∧ Aside0 (Below w.heap.size w w'))
     case atStart => exact ⟨(t580), (y585), (0), (by first | rfl | (simp; done) | (simp [*]; done)), H', ⟨Nat.le_refl _⟩, ⟨Kd.Q_of_R (Kd.ru_ HO584.out)⟩, ⟨Kd.ru_ HO587.out⟩, ⟨Kd.ru_ HO578.out⟩, ⟨bw_⟩⟩
     case round =>
      clear H'
      try clear c1
      try clear c2
      try clear p2
      try clear c3
      try clear c4
      try clear c4b0
      try clear c4b1
      try clear c5
      try clear c6
      try clear c6b0
      try clear p6
      try clear c7
      try clear c7b0
      try clear c7b1
      try clear c8
      try clear c8b0
      try clear c8b1
      try clear c9
      try clear c9b0
      try clear c9b1
      try clear c11
      try clear c11b0
      try clear c11b1
      try clear c13
      try clear c13b0
      try clear c13b1
      try clear c14
      try clear c14b0
      try clear c16
      try clear c16b0
      try clear c16b1
      try clear c17
      try clear c17b0
      try clear c17b1
      try clear c18
      try clear c18b0
      try clear c18b1
      try clear c24
      try clear p2
      obtain ⟨x10_2, x12_2, x63_2, rfl, HA, HK2, HO_10, HO_12, HO_61, HB⟩ := hrel
      cases gk with
      | zero => exact absurd HA.out (by simp [ints_Take.l0])
      | succ k2 =>
       have H := HA.out
       clear HA
       simp only [ints_Take.l0] at H
       by_cases c26 : x63_2 < (t575.length : Int)
       rotate_left
       ·rw [if_neg c26] at H
        have c26b0 : decide (x63_2 < (t575.length : Int)) = false := decide_eq_false c26
        clear c26
        by_cases c40 : (x10_2.length : Int) > 0
        rotate_left
        ·rw [if_neg c40] at H
         have c40b0 : decide (0 < (x10_2.length : Int)) = false := decide_eq_false c40
         have c40b1 : decide (0 < x10_2.length) = false := decide_eq_false (by omega)
         clear c40
         simp only [Option.some.injEq, Prod.mk.injEq] at H
         obtain ⟨rfl, rfl, rfl⟩ := H
         obtain ⟨Ao42, co42, eo42, _⟩ := Kd.Q_slice HO_10.out
         subst eo42
         go_wp2
         go_ret3
         exact ⟨_, by first | rfl | (simp [eWn_, eWs_] <;> rfl) | (simp only [← hji12]; first | rfl | (simp [eWn_, eWs_] <;> rfl)) | (simp [*, eWn_, eWs_] <;> rfl), by (with_reducible repeat (first | apply Kd.rA_ | apply Kd.rN_ | apply Kd.rD_)); exact HO_12.out, bw_⟩
        rw [if_pos c40] at H
        have c40b0 : decide (0 < (x10_2.length : Int)) = true := decide_eq_true c40
        have c40b1 : decide (0 < x10_2.length) = true := decide_eq_true (by omega)
        clear c40
        simp only [Option.some.injEq, Prod.mk.injEq] at H
        obtain ⟨rfl, rfl, rfl⟩ := H
        obtain ⟨Ao41, co41, eo41, _⟩ := Kd.Q_slice HO_10.out
        subst eo41
        go_wp2
        go_ret3
        exact ⟨_, by first | rfl | (simp [eWn_, eWs_] <;> rfl) | (simp only [← hji12]; first | rfl | (simp [eWn_, eWs_] <;> rfl)) | (simp [*, eWn_, eWs_] <;> rfl), ni_, bw_⟩
       rw [if_pos c26] at H
       have c26b0 : decide (x63_2 < (t575.length : Int)) = true := decide_eq_true c26
       clear c26
       by_cases c27 : 0 ≤ x63_2
       rotate_left
       ·rw [if_neg c27] at H
        exact absurd H (by simp)
       rw [if_pos c27] at H
       have c27b0 : decide (0 ≤ x63_2) = true := decide_eq_true c27
       clear c27
       by_cases c28 : x63_2 < (t575.length : Int)
       rotate_left
       ·rw [if_neg c28] at H
        exact absurd H (by simp)
       rw [if_pos c28] at H
       have c28b0 : decide (x63_2 < (t575.length : Int)) = true := decide_eq_true c28
       clear c28
       by_cases c29 : (rd t575 x63_2) = 0
       ·rw [if_pos c29] at H
        have c29b0 : ((rd t575 x63_2) == 0) = true := beq_iff_eq.mpr c29
        have c29b1 : ((rd t575 x63_2) != 0) = false := bne_eq_false_iff_eq.mpr c29
        clear c29
        have H' := Aside0.mk H
        clear H
        have p588 : 0 ≤ (x63_2 : Int) := od_
        have q588 : x63_2 < (t575.length : Int) := od_
        obtain ⟨ad588, e588, hx588_0⟩ := Kd.at_int (Kd.R_reads' HO_61.out).2.2 x63_2 p588 q588
        cases e588
        replace p588 := eq_true p588
        replace q588 := eq_true q588
        go_wp2
        go_roundg k2
        case measure => have := HJ2.out; have := HK2.out; omega
        case rel => exact ⟨(x10_2), (x12_2), (wrap64 (x63_2 + 1)), (by first | rfl | (simp; done) | (simp [*]; done)), H', ⟨by have := HJ2.out; have := HK2.out; omega⟩, ⟨by (with_reducible repeat (first | apply Kd.Q_alloc | apply Kd.Q_drewN | apply Kd.Q_drew)); exact HO_10.out⟩, ⟨Kd.ru_ HO_12.out⟩, ⟨Kd.ru_ HO_61.out⟩, ⟨bw_⟩⟩
       ·rw [if_neg c29] at H
        have c29b0 : ((rd t575 x63_2) == 0) = false := beq_eq_false_iff_ne.mpr c29
        have c29b1 : ((rd t575 x63_2) != 0) = true := bne_iff_ne.mpr c29
        by_cases c30 : (x10_2.length : Int) = 0
        ·rw [if_pos c30] at H
         have c30b0 : ((x10_2.length : Int) == 0) = true := beq_iff_eq.mpr c30
         have c30b1 : ((x10_2.length : Int) != 0) = false := bne_eq_false_iff_eq.mpr c30
         clear c30
         simp only [Option.some.injEq, Prod.mk.injEq] at H
         obtain ⟨rfl, rfl, rfl⟩ := H
         have p588 : 0 ≤ (x63_2 : Int) := od_
         have q588 : x63_2 < (t575.length : Int) := od_
         obtain ⟨ad588, e588, hx588_0⟩ := Kd.at_int (Kd.R_reads' HO_61.out).2.2 x63_2 p588 q588
         cases e588
         replace p588 := eq_true p588
         replace q588 := eq_true q588
         obtain ⟨Ao31, co31, eo31, _⟩ := Kd.Q_slice HO_10.out
         subst eo31
         go_wp2
         go_ret3
         exact ⟨_, by first | rfl | (simp [eWn_, eWs_] <;> rfl) | (simp only [← hji12]; first | rfl | (simp [eWn_, eWs_] <;> rfl)) | (simp [*, eWn_, eWs_] <;> rfl), ni_, bw_⟩
        ·rw [if_neg c30] at H
         have c30b0 : ((x10_2.length : Int) == 0) = false := beq_eq_false_iff_ne.mpr c30
         have c30b1 : ((x10_2.length : Int) != 0) = true := bne_iff_ne.mpr c30
         have c30b2 : ¬ (x10_2 = []) := fun h_ => c30 (by rw [h_]; rfl)
         by_cases c32 : 0 < (x10_2.length : Int)
         rotate_left
         ·rw [if_neg c32] at H
          exact absurd H (by simp)
         rw [if_pos c32] at H
         have c32b0 : decide (0 < (x10_2.length : Int)) = true := decide_eq_true c32
         have c32b1 : decide (0 < x10_2.length) = true := decide_eq_true (by omega)
         clear c32
         by_cases c33 : 1 ≤ (x10_2.length : Int)
         rotate_left
         ·rw [if_neg c33] at H
          exact absurd H (by simp)
         rw [if_pos c33] at H
         have c33b0 := eq_true c33
         have c33b1 : decide (1 ≤ (x10_2.length : Int)) = true := decide_eq_true c33
         clear c33
         obtain ⟨y590, hy590⟩ : ∃ y_ : List Int, y_ = (x10_2.drop (1 : Int).toNat) := ⟨_, rfl⟩
         replace H : (if x63_2 < (x12_2.length : Int) then (ints_Take.l0 k2 ji12 y590 t581 (x12_2.set (x63_2 : Int).toNat (⟨true, rd x10_2 0⟩ : S42)) t575 (t575.length : Int) (wrap64 (x63_2 + 1))) else (none)) = some (r1, r2, r3) := by first | (rw [hy590]; with_reducible exact H) | (have H2_ := (Option.bind_some _ _).symm.trans H; rw [hy590]; with_reducible exact H2_) | (have H2_ := (Option.bind_some _ _).symm.trans H; with_reducible exact H2_) | with_reducible exact H | (rw [hy590]; exact H) | exact H
         have Ny590 := Aside0.mk hy590
         clear hy590
         by_cases c34 : x63_2 < (x12_2.length : Int)
         rotate_left
         ·rw [if_neg c34] at H
          exact absurd H (by simp)
         rw [if_pos c34] at H
         have c34b0 : decide (x63_2 < (x12_2.length : Int)) = true := decide_eq_true c34
         clear c34
         obtain ⟨y593, hy593⟩ : ∃ y_ : List (S42), y_ = (x12_2.set (x63_2 : Int).toNat (⟨true, rd x10_2 0⟩ : S42)) := ⟨_, rfl⟩
         replace H : (ints_Take.l0 k2 ji12 y590 t581 y593 t575 (t575.length : Int) (wrap64 (x63_2 + 1))) = some (r1, r2, r3) := by first | (rw [hy593]; with_reducible exact H) | (have H2_ := (Option.bind_some _ _).symm.trans H; rw [hy593]; with_reducible exact H2_) | (have H2_ := (Option.bind_some _ _).symm.trans H; with_reducible exact H2_) | with_reducible exact H | (rw [hy593]; exact H) | exact H
         have Ny593 := Aside0.mk hy593
         clear hy593
         have H' := Aside0.mk H
         clear H
         have p588 : 0 ≤ (x63_2 : Int) := od_
         have q588 : x63_2 < (t575.length : Int) := od_
         obtain ⟨ad588, e588, hx588_0⟩ := Kd.at_int (Kd.R_reads' HO_61.out).2.2 x63_2 p588 q588
         cases e588
         replace p588 := eq_true p588
         replace q588 := eq_true q588
         obtain ⟨Ao36, co36, eo36, _⟩ := Kd.Q_slice HO_10.out
         subst eo36
         try go_wp2
         (try (rw [drewN_self wr]; generalize hq_ : World.drewN wr _ = wr; have n0_ : Aside0 (Kd.Q (Kd.int .i64) 3 wr w.heap.size (fun _ => True) (.slice Ao36 x10_2.length co36) x10_2) := ⟨by rw [← hq_]; exact (by (with_reducible repeat (first | apply Kd.Q_alloc | apply Kd.Q_drewN | apply Kd.Q_drew)); exact HO_10.out)⟩; have n1_ : Aside0 (Kd.R k42 42 wr w.heap.size (fun _ => True) v586 x12_2) := ⟨by rw [← hq_]; exact (Kd.ru_ HO_12.out)⟩; have n2_ : Aside0 (Kd.R (Kd.int .u64) 50 wr w.heap.size (fun _ => True) (.slice (some ad588) t575.length co25) t575) := ⟨by rw [← hq_]; exact (Kd.ru_ HO_61.out)⟩; have n3_ : Aside0 (Below w.heap.size w wr) := ⟨by rw [← hq_]; exact bw_⟩; clear HO_10 HO_12 HO_61 HB hq_; have HO_10 := n0_; have HO_12 := n1_; have HO_61 := n2_; have HB := n3_; clear n0_ n1_ n2_ n3_))
         have n0_ := Aside0.mk (Kd.Q_drew HO_10.out)
         have n1_ := Aside0.mk (Kd.rD_ HO_12.out)
         have n2_ := Aside0.mk (Kd.rD_ HO_61.out)
         have n3_ := Aside0.mk (pb1_ HB.out)
         clear HO_10
         clear HO_12
         clear HO_61
         clear HB
         have HO_10 := n0_
         have HO_12 := n1_
         have HO_61 := n2_
         have HB := n3_
         clear n0_ n1_ n2_ n3_
         have p589 : 0 ≤ (0 : Int) := (by omega)
         have q589 : 0 < (x10_2.length : Int) := od_
         obtain ⟨ad589, e589, hx589_0⟩ := Kd.at_int (Kd.Q_reads' HO_10.out).2.2 0 p589 q589
         cases e589
         have qi589 : (0 < x10_2.length) = True := eq_true (by omega)
         (try rw [show ((0 : Int)).toNat = 0 from rfl] at hx589_0)
         (try rw [Addr.add_zero'] at hx589_0)
         replace p589 := eq_true p589
         replace q589 := eq_true q589
         have q38 : (1 : Int) ≤ ((x10_2.length : Int) : Int) := od_
         obtain ⟨i038, hi038, _, hsz38, _⟩ := info_parts info3
         have hcut38 := cut_from (P := Try.prog) 39 3 .i64 Try.underlying39 hi038 1 hsz38 (some ad589) x10_2.length co36 1 (by omega) q38
         have hr38 := Kd.Q_drop (k := (1 : Int).toNat) HO_10.out (by omega)
         obtain ⟨A38, hA38⟩ : ∃ A1, A1 = (if co36 = (1 : Int).toNat then (some ad589) else ((some ad589) : Option Addr).map (·.add ((1 : Int).toNat * 1))) := ⟨_, rfl⟩
         obtain ⟨c38, hc38⟩ : ∃ c1, c1 = co36 - (1 : Int).toNat := ⟨_, rfl⟩
         have hy38 : y590.length = x10_2.length - (1 : Int).toNat := (by rw [Ny590.out, List.length_drop])
         rw [← Ny590.out] at hr38
         rw [← hy38, ← hA38, ← hc38] at hcut38
         replace hr38 : Kd.Q (Kd.int .i64) 3 _ w.heap.size (fun _ => True) (.slice A38 y590.length c38) y590 := (by rw [hA38, hc38, hy38]; exact hr38)
         have HE38 : Aside0 ((Value.slice A38 y590.length c38).ownBlock = (.slice (some ad589) x10_2.length co36 : Value).ownBlock) := ⟨by rw [hA38]; split <;> (cases ((some ad589) : Option Addr) <;> rfl)⟩
         clear hy38 hi038 hsz38 HO_10 hA38 hc38
         have HO592 := Aside0.mk hr38
         clear hr38
         replace q38 := eq_true q38
         have p35 : 0 ≤ (x63_2 : Int) := od_
         have q35 : (x63_2 : Int) < ((x12_2.length : Int) : Int) := od_
         obtain ⟨go35, co35, eo35, gb35, gl35, cl35, HG35⟩ := Kd.R_form HO_12.out (by omega)
         (first | cases eo35 | (injection eo35 with ea_ en_ ec_; (first | subst ea_ | (injection ea_ with ea_; subst ea_)); subst ec_; clear en_))
         have GB35 := Aside0.mk gb35
         have GG35 := Aside0.mk HG35
         clear gb35 gl35 HG35
         obtain ⟨ce35, hcl35, hM35, hcc35, hfr35⟩ := Kd.R_elem HO_12.out z42 (x63_2 : Int) p35 q35
         obtain rfl := k42_openM hM35
         have hx35_0 : World.cell? _ ⟨go35, (x63_2 : Int).toNat * 2, none⟩ = some (.bool ((rd_T42 x12_2 x63_2).f0)) := hcc35 0 _ rfl
         have hx35_1 : World.cell? _ ⟨go35, (x63_2 : Int).toNat * 2 + 1, none⟩ = some (.int .i64 ((rd_T42 x12_2 x63_2).f1)) := hcc35 1 _ rfl
         have hf35_0 : World.frozen? _ ⟨go35, (x63_2 : Int).toNat * 2, none⟩ = false := hfr35 0
         have hf35_1 : World.frozen? _ ⟨go35, (x63_2 : Int).toNat * 2 + 1, none⟩ = false := hfr35 1
         clear hcl35 hcc35 hfr35 hM35
         replace p35 := eq_true p35
         replace q35 := eq_true q35
         obtain ⟨ce39, hcl39, hM39, hcc39, hfr39⟩ := Kd.R_elem HO_12.out z42 (x63_2 : Int) od_ (by have h_ : (x63_2 : Int) < ((x12_2.length : Int) : Int) := od_; first | exact h_ | (have e_ := (Kd.R_reads' HO_12.out).1; omega) | simpa using h_)
         obtain rfl := k42_openM hM39
         have HP39 := (Kd.R_seg HO_12.out (x63_2 : Int) od_ (by have h_ : (x63_2 : Int) < ((x12_2.length : Int) : Int) := od_; first | exact h_ | (have e_ := (Kd.R_reads' HO_12.out).1; omega) | simpa using h_) (seg := [.bool true, .int .i64 (rd x10_2 0)]) (j := 0) hcl39 hcc39 (show 2 ≤ 2 from by decide) (x' := (⟨true, rd x10_2 0⟩ : S42)) (k42_mkM _ _ _ (⟨true, rd x10_2 0⟩ : S42) ) (fun _ hk => hk)).1
         rw [← Ny593.out] at HP39
         have HQ39 := Aside0.mk HP39
         clear hcl39 hcc39 hfr39 hM39 HP39
         refine start_ (n := 11) (S := fun w' => w'.cell? ad589 = some (.int .i64 (rd x10_2 0))) (ds := [9]) #[false, false, false, false, false, false, false, false, false, false, false] (by kernel_rfl) rfl rfl (hx589_0) (fun hHeld => ?_); refine with_tabW ints_Take.tab20 ints_Take.bits20 (fun HT_ HW_ => ?_)
         generalize wr.drew = w37 at HO_12 HO_61 HB GG35 HO592 HQ39 hf35_0 hf35_1 hx35_0 hx35_1 hx589_0 hHeld ⊢
         refine pu_ (i := 0) (N := some 73) HT_ #[true, false, false, false, false, false, false, false, false, false, false] ?_
         refine pu_ (i := 1) (N := some 74) HT_ #[true, true, false, false, false, false, false, false, false, false, false] ?_
         refine pu_ (i := 2) (N := some 75) HT_ #[true, true, true, false, false, false, false, false, false, false, false] ?_
         refine pu_ (i := 3) (N := some 76) HT_ #[true, true, true, true, false, false, false, false, false, false, false] ?_
         refine pu_ (i := 6) (N := some 79) HT_ #[true, true, true, true, false, false, true, false, false, false, false] ?_
         refine pu_ (i := 7) (N := some 80) HT_ #[true, true, true, true, false, false, true, true, false, false, false] ?_
         refine ta_ (i := 4) (N := some 77) HT_ HW_ #[true, true, true, true, true, false, true, true, false, false, false] hHeld ?_
         refine pu_ (i := 5) (N := some 78) HT_ #[true, true, true, true, true, true, true, true, false, false, false] ?_
         refine pu_ (i := 8) (N := some 81) HT_ #[true, true, true, true, true, true, true, true, true, false, false] ?_
         refine last_ (i := 9) (N := none) #[tT,tT,tT,tT,tT,tT,tT,tT,tT,tT,fF] rfl rfl (one_of HT_.out (by kernel_rfl)) (by decide) (fun K hK => ?_)
         refine skip_ (w1 := ?_) (by rfl) rfl ?_ ?_
         rotate_left
         ·go_simp
          rfl
         refine hK.out _ _ ?_
         clear hK K
         refine pu_ (i := 10) (N := some 10) HT_ #[true, true, true, true, true, true, true, true, true, true, true] ?_
         refine done_ (done_of HT_.out (by kernel_rfl)) ?_
         try go_wp2
         go_roundg k2
         case measure => have := HJ2.out; have := HK2.out; omega
         case rel => exact ⟨(y590), (y593), (wrap64 (x63_2 + 1)), (by first | rfl | (simp; done) | (simp [*]; done)), H', ⟨by have := HJ2.out; have := HK2.out; omega⟩, ⟨by (with_reducible repeat (first | apply Kd.Q_alloc | apply Kd.Q_drewN | apply Kd.Q_drew)); exact Kd.Q_mono (Kd.Q_far (p := ⟨go35, (x63_2 : Int).toNat * 2 + 1, none⟩) (Kd.Q_far (p := ⟨go35, (x63_2 : Int).toNat * 2, none⟩) (Kd.Q_types HO592.out GG35.out (by decide)) (fun _ hk => hk.2) (.bool true)) (fun _ hk => hk.2) (.int .i64 (rd x10_2 0))) (fun _ hk => trivial)⟩, ⟨Kd.ru_ HQ39.out⟩, ⟨by (with_reducible repeat (first | apply Kd.rA_ | apply Kd.rN_ | apply Kd.rD_)); exact Kd.R_mono (Kd.R_far (p := ⟨go35, (x63_2 : Int).toNat * 2 + 1, none⟩) (Kd.R_far (p := ⟨go35, (x63_2 : Int).toNat * 2, none⟩) (Kd.R_types HO_61.out GG35.out (by decide)) (fun _ hk => hk.2) (.bool true)) (fun _ hk => hk.2) (.int .i64 (rd x10_2 0))) (fun _ hk => trivial)⟩, ⟨by repeat (first | (with_reducible first | exact HB.out | apply pbA_ | apply pbN_ | apply pb1_ | refine below_set ?_ GB35.out | refine below_set ?_ GB35.out) | exact HB.out)⟩⟩
end Go.Proofs.Ytcjkmmajokkkfaa.P
end
