-- WRITTEN BY wip/tools/myprint.py (this session's program, over the kit's printer); Lean checks it.
import Derived.Test.YtfghhajimiimfaaPx0
import Derived.Test.YtfghhajimiimfaaPx1
import Derived.Test.YtfghhajimiimfaaPx2
import Derived.Test.YtfghhajimiimfaaPx3
import Derived.Test.YtfghhajimiimfaaPx4
namespace Go.Proofs.Ytfghhajimiimfaa.P
open Go.RowKit Go.Proofs.YtfghhajimiimfaaW.PrintWords Go.Proofs.YtfghhajimiimfaaW.PrintLast Go.Proofs.YtfghhajimiimfaaW.PrintMore
attribute [local go_sem] max2_int min2_int max_two min_two max_three min_three max_four min_four   -- for this text's walks alone
set_option linter.unusedVariables false
set_option linter.unusedSimpArgs false

/-! ### dragnetref03_Unpack: function 19 -/
mutual
def dragnetref03_Unpack.j0 : Nat → List Int → Int → Int → Bool → Option (List Int × Int)
  | 0, _, _, _, _ => none
  | k + 1, x0, x1, x2, x26 => if x26 = true then (some (([] : List Int), 1)) else ((dragnetref03_Size.f x1 x2).bind fun t198 => (if (x0.length : Int) < t198 then (some (([] : List Int), 3)) else ((dragnetref03_Size.f x1 x2).bind fun t199 => (if (x0.length : Int) > t199 then (some (([] : List Int), 2)) else (dragnetref03_Unpack.l0 k x0 x1 x2 ([] : List Int) 0)))))
def dragnetref03_Unpack.l0 : Nat → List Int → Int → Int → List Int → Int → Option (List Int × Int)
  | 0, _, _, _, _, _ => none
  | k + 1, x0, x1, x2, x8, x9 => if x9 < x1 then (dragnetref03_Unpack.l1 k x0 x1 x2 x8 x9 0 0) else (dragnetref03_Unpack.l2 k x0 x8 (wrap64 (x1 * x2)))
def dragnetref03_Unpack.l1 : Nat → List Int → Int → Int → List Int → Int → Int → Int → Option (List Int × Int)
  | 0, _, _, _, _, _, _, _ => none
  | k + 1, x0, x1, x2, x8, x9, x10, x11 => if x11 < x2 then (if 0 ≤ (wrap64 (Int.tdiv (wrap64 ((wrap64 (x9 * x2)) + x11)) 8)) then (if (wrap64 (Int.tdiv (wrap64 ((wrap64 (x9 * x2)) + x11)) 8)) < (x0.length : Int) then (if 0 ≤ (Int.tmod (wrap64 ((wrap64 (x9 * x2)) + x11)) 8) then (if (Int.tmod (shr .u8 (rd x0 (wrap64 (Int.tdiv (wrap64 ((wrap64 (x9 * x2)) + x11)) 8))) (Int.tmod (wrap64 ((wrap64 (x9 * x2)) + x11)) 8)) 2) = 1 then (if 0 ≤ x11 then (dragnetref03_Unpack.l1 k x0 x1 x2 x8 x9 (IntKind.u64.wrap (x10 + (shl .u64 1 x11))) (wrap64 (x11 + 1))) else (none)) else (dragnetref03_Unpack.l1 k x0 x1 x2 x8 x9 x10 (wrap64 (x11 + 1)))) else (none)) else (none)) else (none)) else (if x8.length < 17592186044416 then (dragnetref03_Unpack.l0 k x0 x1 x2 (x8 ++ [x10]) (wrap64 (x9 + 1))) else (none))
def dragnetref03_Unpack.l2 : Nat → List Int → List Int → Int → Option (List Int × Int)
  | 0, _, _, _ => none
  | k + 1, x0, x8, x12 => if x12 < (wrap64 (8 * (x0.length : Int))) then (if 0 ≤ (wrap64 (Int.tdiv x12 8)) then (if (wrap64 (Int.tdiv x12 8)) < (x0.length : Int) then (if 0 ≤ (Int.tmod x12 8) then (if (Int.tmod (shr .u8 (rd x0 (wrap64 (Int.tdiv x12 8))) (Int.tmod x12 8)) 2) = 1 then (some (([] : List Int), 2)) else (dragnetref03_Unpack.l2 k x0 x8 (wrap64 (x12 + 1)))) else (none)) else (none)) else (none)) else (some (x8, 0))
end
def dragnetref03_Unpack.f (k : Nat) (l0 : List Int) (a1 : Int) (a2 : Int) : Option (List Int × Int) := if a2 < 0 then (dragnetref03_Unpack.j0 k l0 a1 a2 true) else (if a2 > 64 then (dragnetref03_Unpack.j0 k l0 a1 a2 true) else (if a1 < 0 then (dragnetref03_Unpack.j0 k l0 a1 a2 true) else (dragnetref03_Unpack.j0 k l0 a1 a2 (decide (a1 > 4096)))))
theorem dragnetref03_Unpack.mono_l : ∀ k, (∀ y0 y1 y2 y3, LeO (dragnetref03_Unpack.j0 k y0 y1 y2 y3) (dragnetref03_Unpack.j0 (k + 1) y0 y1 y2 y3)) ∧ (∀ y0 y1 y2 y3 y4, LeO (dragnetref03_Unpack.l0 k y0 y1 y2 y3 y4) (dragnetref03_Unpack.l0 (k + 1) y0 y1 y2 y3 y4)) ∧ (∀ y0 y1 y2 y3 y4 y5 y6, LeO (dragnetref03_Unpack.l1 k y0 y1 y2 y3 y4 y5 y6) (dragnetref03_Unpack.l1 (k + 1) y0 y1 y2 y3 y4 y5 y6)) ∧ (∀ y0 y1 y2, LeO (dragnetref03_Unpack.l2 k y0 y1 y2) (dragnetref03_Unpack.l2 (k + 1) y0 y1 y2))
  | 0 => ⟨fun _ _ _ _ r h => by simp [dragnetref03_Unpack.j0] at h, fun _ _ _ _ _ r h => by simp [dragnetref03_Unpack.l0] at h, fun _ _ _ _ _ _ _ r h => by simp [dragnetref03_Unpack.l1] at h, fun _ _ _ r h => by simp [dragnetref03_Unpack.l2] at h⟩
  | k + 1 => by
    obtain ⟨ih0, ih1, ih2, ih3⟩ := dragnetref03_Unpack.mono_l k
    refine ⟨?_, ?_, ?_, ?_⟩
    · intro y0 y1 y2 y3
      unfold dragnetref03_Unpack.j0
      repeat' first
      | (with_reducible exact ih0 _ _ _ _)
      | (with_reducible exact ih1 _ _ _ _ _)
      | (with_reducible exact ih2 _ _ _ _ _ _ _)
      | (with_reducible exact ih3 _ _ _)
      | (with_reducible exact LeO.refl _)
      | (with_reducible exact LeO.none _)
      | (with_reducible refine LeO.ite ?_ ?_)
      | (with_reducible refine LeO.bind ?_ (fun _ => ?_))
      | exact ih0 _ _ _ _
      | exact ih1 _ _ _ _ _
      | exact ih2 _ _ _ _ _ _ _
      | exact ih3 _ _ _
      | exact LeO.none _
      | refine LeO.ite ?_ ?_
      | refine LeO.bind ?_ (fun _ => ?_)
    · intro y0 y1 y2 y3 y4
      unfold dragnetref03_Unpack.l0
      repeat' first
      | (with_reducible exact ih0 _ _ _ _)
      | (with_reducible exact ih1 _ _ _ _ _)
      | (with_reducible exact ih2 _ _ _ _ _ _ _)
      | (with_reducible exact ih3 _ _ _)
      | (with_reducible exact LeO.refl _)
      | (with_reducible exact LeO.none _)
      | (with_reducible refine LeO.ite ?_ ?_)
      | (with_reducible refine LeO.bind ?_ (fun _ => ?_))
      | exact ih0 _ _ _ _
      | exact ih1 _ _ _ _ _
      | exact ih2 _ _ _ _ _ _ _
      | exact ih3 _ _ _
      | exact LeO.none _
      | refine LeO.ite ?_ ?_
      | refine LeO.bind ?_ (fun _ => ?_)
    · intro y0 y1 y2 y3 y4 y5 y6
      unfold dragnetref03_Unpack.l1
      repeat' first
      | (with_reducible exact ih0 _ _ _ _)
      | (with_reducible exact ih1 _ _ _ _ _)
      | (with_reducible exact ih2 _ _ _ _ _ _ _)
      | (with_reducible exact ih3 _ _ _)
      | (with_reducible exact LeO.refl _)
      | (with_reducible exact LeO.none _)
      | (with_reducible refine LeO.ite ?_ ?_)
      | (with_reducible refine LeO.bind ?_ (fun _ => ?_))
      | exact ih0 _ _ _ _
      | exact ih1 _ _ _ _ _
      | exact ih2 _ _ _ _ _ _ _
      | exact ih3 _ _ _
      | exact LeO.none _
      | refine LeO.ite ?_ ?_
      | refine LeO.bind ?_ (fun _ => ?_)
    · intro y0 y1 y2
      unfold dragnetref03_Unpack.l2
      repeat' first
      | (with_reducible exact ih0 _ _ _ _)
      | (with_reducible exact ih1 _ _ _ _ _)
      | (with_reducible exact ih2 _ _ _ _ _ _ _)
      | (with_reducible exact ih3 _ _ _)
      | (with_reducible exact LeO.refl _)
      | (with_reducible exact LeO.none _)
      | (with_reducible refine LeO.ite ?_ ?_)
      | (with_reducible refine LeO.bind ?_ (fun _ => ?_))
      | exact ih0 _ _ _ _
      | exact ih1 _ _ _ _ _
      | exact ih2 _ _ _ _ _ _ _
      | exact ih3 _ _ _
      | exact LeO.none _
      | refine LeO.ite ?_ ?_
      | refine LeO.bind ?_ (fun _ => ?_)
theorem dragnetref03_Unpack.mono : ∀ a0 a1 a2 k, LeO (dragnetref03_Unpack.f k a0 a1 a2) (dragnetref03_Unpack.f (k + 1) a0 a1 a2) := by
  intro a0 a1 a2 k
  obtain ⟨ih0, ih1, ih2, ih3⟩ := dragnetref03_Unpack.mono_l k
  unfold dragnetref03_Unpack.f
  repeat' first
      | (with_reducible exact ih0 _ _ _ _)
      | (with_reducible exact ih1 _ _ _ _ _)
      | (with_reducible exact ih2 _ _ _ _ _ _ _)
      | (with_reducible exact ih3 _ _ _)
      | (with_reducible exact LeO.refl _)
      | (with_reducible exact LeO.none _)
      | (with_reducible refine LeO.ite ?_ ?_)
      | (with_reducible refine LeO.bind ?_ (fun _ => ?_))
      | exact ih0 _ _ _ _
      | exact ih1 _ _ _ _ _
      | exact ih2 _ _ _ _ _ _ _
      | exact ih3 _ _ _
      | exact LeO.none _
      | refine LeO.ite ?_ ?_
      | refine LeO.bind ?_ (fun _ => ?_)
set_option maxHeartbeats 8000000 in
set_option maxRecDepth 100000 in
theorem dragnetref03_Unpack.calls (k : Nat) (A0 : Option Addr) (c0 : Nat) (l0 : List Int) (a1 : Int) (a2 : Int) (r1 : List Int) (r2 : Int) (w : World) (hr0 : Kd.C (Kd.int .u8) w A0 l0.length l0) (hc0 : l0.length ≤ c0) (h : dragnetref03_Unpack.f k l0 a1 a2 = some (r1, r2)) :
    Calls Try.prog 19 #[.slice A0 l0.length c0, .int .i64 a1, .int .i64 a2] w fun e w' => ∃ v0_ : Value, e = .returned (.tuple #[v0_, .int .i64 r2]) ∧ Kd.R (Kd.int .u64) 41 w' w.heap.size (fun _ => True) v0_ r1 ∧ Below w.heap.size w w' := by
  have HR0 := Aside0.mk hr0
  have HC0 := Aside0.mk hc0
  clear hr0 hc0
  have HB := Aside0.mk (Below.refl w.heap.size w)
  have H : (if a2 < 0 then (dragnetref03_Unpack.j0 k l0 a1 a2 true) else (if a2 > 64 then (dragnetref03_Unpack.j0 k l0 a1 a2 true) else (if a1 < 0 then (dragnetref03_Unpack.j0 k l0 a1 a2 true) else (dragnetref03_Unpack.j0 k l0 a1 a2 (decide (a1 > 4096)))))) = some (r1, r2) := h
  clear h
  have HC4 := Aside0.mk H
  clear H
  go_enter Try.func19, Try.ntmps19
  go_upto_region 1 with (fail)
  go_cut [26] (fun v26 wc => ∃ (kq : Nat) (x26_3 : Bool), v26 = .bool x26_3 ∧ Aside0 (dragnetref03_Unpack.j0 kq l0 a1 a2 x26_3 = some (r1, r2)) ∧ Aside0 (kq ≤ k) ∧ Aside0 (Below w.heap.size w wc))
  case first =>
    have H := HC4.out
    clear HC4
    by_cases c5 : a2 < 0
    · rw [if_pos c5] at H
      have c5b0 : decide (a2 < 0) = true := decide_eq_true c5
      clear c5
      (first | rw [c5b0] | (simp only [i64_w, i32_w]; rw [c5b0]) | skip)
      have H' := Aside0.mk H
      clear H
      go_wp2
      go_meet
      case rel => exact ⟨_, (true), (by first | rfl | (simp; done) | (simp [*]; done)), H', ⟨by first | omega | exact Nat.le_refl _⟩, ⟨by repeat (first | (with_reducible first | exact HB.out | apply below_alloc | apply pw_below_drewN | apply below_drew1) | exact HB.out)⟩⟩
    · rw [if_neg c5] at H
      have c5b0 : decide (a2 < 0) = false := decide_eq_false c5
      clear c5
      (first | rw [c5b0] | (simp only [i64_w, i32_w]; rw [c5b0]) | skip)
      by_cases c6 : a2 > 64
      · rw [if_pos c6] at H
        have c6b0 : decide (64 < a2) = true := decide_eq_true c6
        clear c6
        have H' := Aside0.mk H
        clear H
        go_wp2
        go_meet
        case rel => exact ⟨_, (true), (by first | rfl | (simp; done) | (simp [*]; done)), H', ⟨by first | omega | exact Nat.le_refl _⟩, ⟨by repeat (first | (with_reducible first | exact HB.out | apply below_alloc | apply pw_below_drewN | apply below_drew1) | exact HB.out)⟩⟩
      · rw [if_neg c6] at H
        have c6b0 : decide (64 < a2) = false := decide_eq_false c6
        clear c6
        by_cases c7 : a1 < 0
        · rw [if_pos c7] at H
          have c7b0 : decide (a1 < 0) = true := decide_eq_true c7
          clear c7
          have H' := Aside0.mk H
          clear H
          go_wp2
          go_meet
          case rel => exact ⟨_, (true), (by first | rfl | (simp; done) | (simp [*]; done)), H', ⟨by first | omega | exact Nat.le_refl _⟩, ⟨by repeat (first | (with_reducible first | exact HB.out | apply below_alloc | apply pw_below_drewN | apply below_drew1) | exact HB.out)⟩⟩
        · rw [if_neg c7] at H
          have c7b0 : decide (a1 < 0) = false := decide_eq_false c7
          clear c7
          have H' := Aside0.mk H
          clear H
          go_wp2
          go_meet
          case rel => exact ⟨_, (decide (a1 > 4096)), (by first | rfl | (simp; done) | (simp [*]; done)), H', ⟨by first | omega | exact Nat.le_refl _⟩, ⟨by repeat (first | (with_reducible first | exact HB.out | apply below_alloc | apply pw_below_drewN | apply below_drew1) | exact HB.out)⟩⟩
  case rest =>
    clear HC4
    try clear c1
    try clear p2
    try clear c5
    try clear c5b0
    try clear c6
    try clear c6b0
    try clear c7
    try clear c7b0
    obtain ⟨kq, x26_3, rfl, HA, HJ3, HB⟩ := hcut
    cases kq with
    | zero => exact absurd HA.out (by simp [dragnetref03_Unpack.j0])
    | succ kj3 =>
      have H := HA.out
      clear HA
      simp only [dragnetref03_Unpack.j0] at H
      by_cases c8 : x26_3 = true
      · subst c8
        have H1 : (some (([] : List Int), 1)) = some (r1, r2) := by rw [if_pos rfl] at H; exact H
        clear H
        have H := H1
        clear H1
        simp only [Option.some.injEq, Prod.mk.injEq] at H
        obtain ⟨rfl, rfl⟩ := H
        go_wp2
        go_ret2
        exact ⟨_, by first | rfl | (simp [errW_none, errW_some] <;> rfl) | (simp [*, errW_none, errW_some] <;> rfl), by first | exact Kd.R_nil _ _ _ _ _ | exact Kd.N_nil _ _ _ _ _ | exact Kd.V_nil _ _ _ _ _ | exact Kd.Q_nil _ _ _ _ _ | exact Kd.S_nil _ _ _ _ _, by repeat (first | (with_reducible first | exact HB.out | apply below_alloc | apply pw_below_drewN | apply below_drew1) | exact HB.out)⟩
      · replace c8 := Bool.eq_false_iff.mpr c8
        subst c8
        have H1 : ((dragnetref03_Size.f a1 a2).bind fun t198 => (if (l0.length : Int) < t198 then (some (([] : List Int), 3)) else ((dragnetref03_Size.f a1 a2).bind fun t199 => (if (l0.length : Int) > t199 then (some (([] : List Int), 2)) else (dragnetref03_Unpack.l0 kj3 l0 a1 a2 ([] : List Int) 0))))) = some (r1, r2) := by rw [if_neg (show ¬ (false = true) by decide)] at H; exact H
        clear H
        have H := H1
        clear H1
        replace H := Option.bind_eq_some_iff.mp H
        obtain ⟨t198, A90, H⟩ := H
        replace H : (if (l0.length : Int) < t198 then (some (([] : List Int), 3)) else ((dragnetref03_Size.f a1 a2).bind fun t199 => (if (l0.length : Int) > t199 then (some (([] : List Int), 2)) else (dragnetref03_Unpack.l0 kj3 l0 a1 a2 ([] : List Int) 0)))) = some (r1, r2) := H
        have A9 := Aside0.mk A90
        clear A90
        by_cases c10 : (l0.length : Int) < t198
        · rw [if_pos c10] at H
          have c10b0 : decide ((l0.length : Int) < t198) = true := decide_eq_true c10
          clear c10
          simp only [Option.some.injEq, Prod.mk.injEq] at H
          obtain ⟨rfl, rfl⟩ := H
          go_wp2_with (first | ((with_reducible refine gate_callee (f := 20) rfl ?_); refine goesL_ (some 31) rfl rfl Try.func20 (by kernel_rfl) rfl #[.int .i64 a1, .int .i64 a2] rfl (by (try simp only [List.map_toArray, List.map_cons, List.map_nil]); first | done | rfl | (simp only [List.length_drop, List.length_take]; rfl)) ?_; (with_reducible refine (dragnetref03_Size.calls a1 a2 t198 _ A9.out).mono ?_); rintro e w' ⟨rfl, ⟨nd, rfl⟩⟩; refine ⟨_, rfl, ?_⟩))
          go_ret2
          exact ⟨_, by first | rfl | (simp [errW_none, errW_some] <;> rfl) | (simp [*, errW_none, errW_some] <;> rfl), by first | exact Kd.R_nil _ _ _ _ _ | exact Kd.N_nil _ _ _ _ _ | exact Kd.V_nil _ _ _ _ _ | exact Kd.Q_nil _ _ _ _ _ | exact Kd.S_nil _ _ _ _ _, by repeat (first | (with_reducible first | exact HB.out | apply below_alloc | apply pw_below_drewN | apply below_drew1) | exact HB.out)⟩
        · rw [if_neg c10] at H
          have c10b0 : decide ((l0.length : Int) < t198) = false := decide_eq_false c10
          clear c10
          replace H := Option.bind_eq_some_iff.mp H
          obtain ⟨t199, A110, H⟩ := H
          replace H : (if (l0.length : Int) > t199 then (some (([] : List Int), 2)) else (dragnetref03_Unpack.l0 kj3 l0 a1 a2 ([] : List Int) 0)) = some (r1, r2) := H
          have A11 := Aside0.mk A110
          clear A110
          by_cases c12 : (l0.length : Int) > t199
          · rw [if_pos c12] at H
            have c12b0 : decide (t199 < (l0.length : Int)) = true := decide_eq_true c12
            clear c12
            simp only [Option.some.injEq, Prod.mk.injEq] at H
            obtain ⟨rfl, rfl⟩ := H
            go_wp2_with (first | ((with_reducible refine gate_callee (f := 20) rfl ?_); refine goesL_ (some 31) rfl rfl Try.func20 (by kernel_rfl) rfl #[.int .i64 a1, .int .i64 a2] rfl (by (try simp only [List.map_toArray, List.map_cons, List.map_nil]); first | done | rfl | (simp only [List.length_drop, List.length_take]; rfl)) ?_; (with_reducible refine (dragnetref03_Size.calls a1 a2 t198 _ A9.out).mono ?_); rintro e w' ⟨rfl, ⟨nd, rfl⟩⟩; refine ⟨_, rfl, ?_⟩) | ((with_reducible refine gate_callee (f := 20) rfl ?_); refine goesL_ (some 37) rfl rfl Try.func20 (by kernel_rfl) rfl #[.int .i64 a1, .int .i64 a2] rfl (by (try simp only [List.map_toArray, List.map_cons, List.map_nil]); first | done | rfl | (simp only [List.length_drop, List.length_take]; rfl)) ?_; (with_reducible refine (dragnetref03_Size.calls a1 a2 t199 _ A11.out).mono ?_); rintro e w' ⟨rfl, ⟨nd, rfl⟩⟩; refine ⟨_, rfl, ?_⟩))
            go_ret2
            exact ⟨_, by first | rfl | (simp [errW_none, errW_some] <;> rfl) | (simp [*, errW_none, errW_some] <;> rfl), by first | exact Kd.R_nil _ _ _ _ _ | exact Kd.N_nil _ _ _ _ _ | exact Kd.V_nil _ _ _ _ _ | exact Kd.Q_nil _ _ _ _ _ | exact Kd.S_nil _ _ _ _ _, by repeat (first | (with_reducible first | exact HB.out | apply below_alloc | apply pw_below_drewN | apply below_drew1) | exact HB.out)⟩
          · rw [if_neg c12] at H
            have c12b0 : decide (t199 < (l0.length : Int)) = false := decide_eq_false c12
            clear c12
            have H' := Aside0.mk H
            clear H
            go_wp2_with (first | ((with_reducible refine gate_callee (f := 20) rfl ?_); refine goesL_ (some 31) rfl rfl Try.func20 (by kernel_rfl) rfl #[.int .i64 a1, .int .i64 a2] rfl (by (try simp only [List.map_toArray, List.map_cons, List.map_nil]); first | done | rfl | (simp only [List.length_drop, List.length_take]; rfl)) ?_; (with_reducible refine (dragnetref03_Size.calls a1 a2 t198 _ A9.out).mono ?_); rintro e w' ⟨rfl, ⟨nd, rfl⟩⟩; refine ⟨_, rfl, ?_⟩) | ((with_reducible refine gate_callee (f := 20) rfl ?_); refine goesL_ (some 37) rfl rfl Try.func20 (by kernel_rfl) rfl #[.int .i64 a1, .int .i64 a2] rfl (by (try simp only [List.map_toArray, List.map_cons, List.map_nil]); first | done | rfl | (simp only [List.length_drop, List.length_take]; rfl)) ?_; (with_reducible refine (dragnetref03_Size.calls a1 a2 t199 _ A11.out).mono ?_); rintro e w' ⟨rfl, ⟨nd, rfl⟩⟩; refine ⟨_, rfl, ?_⟩))
            go_loopg [8, 9] kj3 (fun kq v8 v9 w' => ∃ (x8_2 : List Int) (x9_2 : Int), v9 = .int .i64 x9_2 ∧ Aside0 (dragnetref03_Unpack.l0 kq l0 a1 a2 x8_2 x9_2 = some (r1, r2)) ∧ Aside0 (kq ≤ kj3) ∧ Aside0 (Kd.R (Kd.int .u64) 41 w' w.heap.size (fun _ => True) v8 x8_2) ∧ Aside0 (Below w.heap.size w w'))
            case atStart => exact ⟨(([] : List Int)), (0), (by first | rfl | (simp; done) | (simp [*]; done)), H', ⟨Nat.le_refl _⟩, ⟨by first | exact Kd.R_nil _ _ _ _ _ | exact Kd.N_nil _ _ _ _ _ | exact Kd.V_nil _ _ _ _ _ | exact Kd.Q_nil _ _ _ _ _ | exact Kd.S_nil _ _ _ _ _⟩, ⟨by repeat (first | (with_reducible first | exact HB.out | apply below_alloc | apply pw_below_drewN | apply below_drew1) | exact HB.out)⟩⟩
            case round =>
              clear H'
              try clear c1
              try clear c2
              try clear p2
              try clear c5
              try clear c5b0
              try clear c6
              try clear c6b0
              try clear c7
              try clear c7b0
              try clear c8
              try clear c10
              try clear c10b0
              try clear c12
              try clear c12b0
              try clear p2
              obtain ⟨x8_2, x9_2, rfl, HA, HK2, HO_8, HB⟩ := hrel
              cases gk with
              | zero => exact absurd HA.out (by simp [dragnetref03_Unpack.l0])
              | succ k2 =>
                have H := HA.out
                clear HA
                simp only [dragnetref03_Unpack.l0] at H
                by_cases c13 : x9_2 < a1
                · rw [if_pos c13] at H
                  have c13b0 : decide (x9_2 < a1) = true := decide_eq_true c13
                  clear c13
                  have H' := Aside0.mk H
                  clear H
                  go_wp2
                  go_loopg [10, 11] k2 (fun kq v10 v11 w' => ∃ (x10_3 : Int) (x11_3 : Int), v10 = .int .u64 x10_3 ∧ v11 = .int .i64 x11_3 ∧ Aside0 (dragnetref03_Unpack.l1 kq l0 a1 a2 x8_2 x9_2 x10_3 x11_3 = some (r1, r2)) ∧ Aside0 (kq ≤ k2) ∧ Aside0 (Kd.R (Kd.int .u64) 41 w' w.heap.size (fun _ => True) u8 x8_2) ∧ Aside0 (Below w.heap.size w w'))
                  case atStart => exact ⟨(0), (0), (by first | rfl | (simp; done) | (simp [*]; done)), (by first | rfl | (simp; done) | (simp [*]; done)), H', ⟨Nat.le_refl _⟩, ⟨by (with_reducible repeat (first | apply Kd.R_alloc | apply Kd.R_drewN | apply Kd.R_drew)); exact HO_8.out⟩, ⟨by repeat (first | (with_reducible first | exact HB.out | apply below_alloc | apply pw_below_drewN | apply below_drew1) | exact HB.out)⟩⟩
                  case round =>
                    clear H'
                    try clear c1
                    try clear c2
                    try clear p2
                    try clear c5
                    try clear c5b0
                    try clear c6
                    try clear c6b0
                    try clear c7
                    try clear c7b0
                    try clear c8
                    try clear c10
                    try clear c10b0
                    try clear c12
                    try clear c12b0
                    try clear c13
                    try clear c13b0
                    try clear p2
                    obtain ⟨x10_3, x11_3, rfl, rfl, HA, HK3, HO_8, HB⟩ := hrel
                    cases gk with
                    | zero => exact absurd HA.out (by simp [dragnetref03_Unpack.l1])
                    | succ k3 =>
                      have H := HA.out
                      clear HA
                      simp only [dragnetref03_Unpack.l1] at H
                      by_cases c14 : x11_3 < a2
                      · rw [if_pos c14] at H
                        have c14b0 : decide (x11_3 < a2) = true := decide_eq_true c14
                        clear c14
                        obtain ⟨ji15, hji15⟩ : ∃ j_ : Int, (wrap64 (Int.tdiv (wrap64 ((wrap64 (x9_2 * a2)) + x11_3)) 8)) = j_ := ⟨_, rfl⟩
                        replace H : (if 0 ≤ (ji15) then (if (ji15) < (l0.length : Int) then (if 0 ≤ (Int.tmod (wrap64 ((wrap64 (x9_2 * a2)) + x11_3)) 8) then (if (Int.tmod (shr .u8 (rd l0 (ji15)) (Int.tmod (wrap64 ((wrap64 (x9_2 * a2)) + x11_3)) 8)) 2) = 1 then (if 0 ≤ x11_3 then (dragnetref03_Unpack.l1 k3 l0 a1 a2 x8_2 x9_2 (IntKind.u64.wrap (x10_3 + (shl .u64 1 x11_3))) (wrap64 (x11_3 + 1))) else (none)) else (dragnetref03_Unpack.l1 k3 l0 a1 a2 x8_2 x9_2 x10_3 (wrap64 (x11_3 + 1)))) else (none)) else (none)) else (none)) = some (r1, r2) := by first | (rw [hji15] at H; exact H) | (simp only [hji15] at H ⊢; exact H)
                        have hji15w : (IntKind.i64.wrap (Int.tdiv (wrap64 ((wrap64 (x9_2 * a2)) + x11_3)) 8)) = ji15 := (i64_w _).trans hji15
                        by_cases c16 : 0 ≤ (ji15)
                        · rw [if_pos c16] at H
                          have c16b0 : decide (0 ≤ (ji15)) = true := decide_eq_true c16
                          clear c16
                          by_cases c17 : (ji15) < (l0.length : Int)
                          · rw [if_pos c17] at H
                            have c17b0 : decide ((ji15) < (l0.length : Int)) = true := decide_eq_true c17
                            clear c17
                            obtain ⟨ji18, hji18⟩ : ∃ j_ : Int, (Int.tmod (wrap64 ((wrap64 (x9_2 * a2)) + x11_3)) 8) = j_ := ⟨_, rfl⟩
                            replace H : (if 0 ≤ (ji18) then (if (Int.tmod (shr .u8 (rd l0 (ji15)) (ji18)) 2) = 1 then (if 0 ≤ x11_3 then (dragnetref03_Unpack.l1 k3 l0 a1 a2 x8_2 x9_2 (IntKind.u64.wrap (x10_3 + (shl .u64 1 x11_3))) (wrap64 (x11_3 + 1))) else (none)) else (dragnetref03_Unpack.l1 k3 l0 a1 a2 x8_2 x9_2 x10_3 (wrap64 (x11_3 + 1)))) else (none)) = some (r1, r2) := by first | (rw [hji18] at H; exact H) | (simp only [hji18] at H ⊢; exact H)
                            by_cases c19 : 0 ≤ (ji18)
                            · rw [if_pos c19] at H
                              have c19b0 := eq_true c19
                              have c19b1 : decide (0 ≤ (ji18)) = true := decide_eq_true c19
                              clear c19
                              obtain ⟨ji20, hji20⟩ : ∃ j_ : Int, (shr .u8 (rd l0 (ji15)) (ji18)) = j_ := ⟨_, rfl⟩
                              replace H : (if (Int.tmod (ji20) 2) = 1 then (if 0 ≤ x11_3 then (dragnetref03_Unpack.l1 k3 l0 a1 a2 x8_2 x9_2 (IntKind.u64.wrap (x10_3 + (shl .u64 1 x11_3))) (wrap64 (x11_3 + 1))) else (none)) else (dragnetref03_Unpack.l1 k3 l0 a1 a2 x8_2 x9_2 x10_3 (wrap64 (x11_3 + 1)))) = some (r1, r2) := by first | (rw [hji20] at H; exact H) | (simp only [hji20] at H ⊢; exact H)
                              have hji20_ : ((rd l0 (ji15)) / 2 ^ min (ji18).toNat 8) = ji20 := hji20
                              have hji20z : (ji18) ≤ 8 → ((rd l0 (ji15)) / 2 ^ (ji18).toNat) = ji20 := shr_small hji20
                              by_cases c21 : (Int.tmod (ji20) 2) = 1
                              · rw [if_pos c21] at H
                                have c21b0 : ((Int.tmod (ji20) 2) == 1) = true := beq_iff_eq.mpr c21
                                have c21b1 : ((Int.tmod (ji20) 2) != 1) = false := bne_eq_false_iff_eq.mpr c21
                                clear c21
                                by_cases c22 : 0 ≤ x11_3
                                · rw [if_pos c22] at H
                                  have c22b0 := eq_true c22
                                  have c22b1 : decide (0 ≤ x11_3) = true := decide_eq_true c22
                                  clear c22
                                  obtain ⟨ji23, hji23⟩ : ∃ j_ : Int, (shl .u64 1 x11_3) = j_ := ⟨_, rfl⟩
                                  replace H : (dragnetref03_Unpack.l1 k3 l0 a1 a2 x8_2 x9_2 (IntKind.u64.wrap (x10_3 + (ji23))) (wrap64 (x11_3 + 1))) = some (r1, r2) := by first | (rw [hji23] at H; exact H) | (simp only [hji23] at H ⊢; exact H)
                                  have hji23_ : (IntKind.u64.wrap (1 * 2 ^ min x11_3.toNat 64)) = ji23 := hji23
                                  have hji23z : x11_3 ≤ 64 → (IntKind.u64.wrap (1 * 2 ^ x11_3.toNat)) = ji23 := shl_small hji23
                                  have hji23u : (IntKind.u64.wrap (2 ^ min x11_3.toNat 64)) = ji23 := by have h_ := hji23_; rw [Int.one_mul] at h_; exact h_
                                  have hji23v : x11_3 ≤ 64 → (IntKind.u64.wrap (2 ^ x11_3.toNat)) = ji23 := fun hle_ => by have h_ := hji23z hle_; rw [Int.one_mul] at h_; exact h_
                                  have H' := Aside0.mk H
                                  clear H
                                  have p200 : 0 ≤ ((ji15) : Int) := of_decide_eq_true (by first | (with_reducible assumption) | assumption)
                                  have q200 : (ji15) < (l0.length : Int) := of_decide_eq_true (by first | (with_reducible assumption) | assumption)
                                  obtain ⟨ad200, e200, hx200_0⟩ := Kd.at_int HR0.out (ji15) p200 q200
                                  cases e200
                                  replace hx200_0 := (HB.out.cell (World.block_lt_of_cell? w _ hx200_0)).trans hx200_0
                                  replace p200 := eq_true p200
                                  replace q200 := eq_true q200
                                  go_wp2
                                  go_roundg k3
                                  case measure => have := HJ3.out; have := HK2.out; have := HK3.out; omega
                                  case rel => exact ⟨(IntKind.u64.wrap (x10_3 + (ji23))), (wrap64 (x11_3 + 1)), (by first | rfl | (simp; done) | (simp only [← hji23] <;> (first | rfl | simp)) | (simp [*]; done)), (by first | rfl | (simp; done) | (simp [*]; done)), H', ⟨by have := HJ3.out; have := HK2.out; have := HK3.out; omega⟩, ⟨by (with_reducible repeat (first | apply Kd.R_alloc | apply Kd.R_drewN | apply Kd.R_drew)); exact HO_8.out⟩, ⟨by repeat (first | (with_reducible first | exact HB.out | apply below_alloc | apply pw_below_drewN | apply below_drew1) | exact HB.out)⟩⟩
                                · rw [if_neg c22] at H
                                  exact absurd H (by simp)
                              · rw [if_neg c21] at H
                                have c21b0 : ((Int.tmod (ji20) 2) == 1) = false := beq_eq_false_iff_ne.mpr c21
                                have c21b1 : ((Int.tmod (ji20) 2) != 1) = true := bne_iff_ne.mpr c21
                                have H' := Aside0.mk H
                                clear H
                                have p200 : 0 ≤ ((ji15) : Int) := of_decide_eq_true (by first | (with_reducible assumption) | assumption)
                                have q200 : (ji15) < (l0.length : Int) := of_decide_eq_true (by first | (with_reducible assumption) | assumption)
                                obtain ⟨ad200, e200, hx200_0⟩ := Kd.at_int HR0.out (ji15) p200 q200
                                cases e200
                                replace hx200_0 := (HB.out.cell (World.block_lt_of_cell? w _ hx200_0)).trans hx200_0
                                replace p200 := eq_true p200
                                replace q200 := eq_true q200
                                go_wp2
                                go_roundg k3
                                case measure => have := HJ3.out; have := HK2.out; have := HK3.out; omega
                                case rel => exact ⟨(x10_3), (wrap64 (x11_3 + 1)), (by first | rfl | (simp; done) | (simp [*]; done)), (by first | rfl | (simp; done) | (simp [*]; done)), H', ⟨by have := HJ3.out; have := HK2.out; have := HK3.out; omega⟩, ⟨by (with_reducible repeat (first | apply Kd.R_alloc | apply Kd.R_drewN | apply Kd.R_drew)); exact HO_8.out⟩, ⟨by repeat (first | (with_reducible first | exact HB.out | apply below_alloc | apply pw_below_drewN | apply below_drew1) | exact HB.out)⟩⟩
                            · rw [if_neg c19] at H
                              exact absurd H (by simp)
                          · rw [if_neg c17] at H
                            exact absurd H (by simp)
                        · rw [if_neg c16] at H
                          exact absurd H (by simp)
                      · rw [if_neg c14] at H
                        have c14b0 : decide (x11_3 < a2) = false := decide_eq_false c14
                        clear c14
                        by_cases c24 : x8_2.length < 17592186044416
                        · rw [if_pos c24] at H
                          have LMc24 := Aside0.mk c24
                          clear c24
                          obtain ⟨y201, hy201⟩ : ∃ y_ : List Int, y_ = (x8_2 ++ [x10_3]) := ⟨_, rfl⟩
                          replace H : (dragnetref03_Unpack.l0 k3 l0 a1 a2 y201 (wrap64 (x9_2 + 1))) = some (r1, r2) := by first | (rw [hy201]; with_reducible exact H) | (have H2_ := (Option.bind_some _ _).symm.trans H; rw [hy201]; with_reducible exact H2_) | (have H2_ := (Option.bind_some _ _).symm.trans H; with_reducible exact H2_) | with_reducible exact H | (rw [hy201]; exact H) | exact H
                          have Ny201 := Aside0.mk hy201
                          clear hy201
                          have H' := Aside0.mk H
                          clear H
                          go_wp2_with (first | ((with_reducible refine gate_builtin (b := .append) (xs := #[.tmp 71, .tmp 73]) rfl ?_); at_builtin; refine Kd.R_append (Kd.int .u64) (w0 := w) w.heap.size rfl (.tmp 71) (.tmp 73) 22 41 (.int .u64 0) 8 rfl Try.underlying22 info41 rfl (by decide) (by omega) u8 x8_2 x10_3 [.int .u64 x10_3] (fun _ => True) (fun _ => False) rfl rfl ?aP (fun _ hk => hk.elim) ?aF ?aO ?aB ?aS ?aL ?_; (case aP => exact rfl); (case aB => exact (by repeat (first | (with_reducible first | exact HB.out | apply below_alloc | apply pw_below_drewN | apply below_drew1) | exact HB.out))); (case aF => exact (fun _ _ => trivial)); (case aO => exact (by (with_reducible repeat (first | apply Kd.R_alloc | apply Kd.R_drewN | apply Kd.R_drew)); exact HO_8.out)); (case aS => exact (below_size (by repeat (first | (with_reducible first | exact HB.out | apply below_alloc | apply pw_below_drewN | apply below_drew1) | exact HB.out)))); (case aL => have := LMc24.out; omega); intro v202 w25 ho hb hg hat; rw [← Ny201.out] at ho; have n0_ := Aside0.mk (hb); have n1_ := Aside0.mk (ho); clear HB; clear HO_8; have HB := n0_; have HO203 := n1_; clear n0_ n1_; clear ho hb hg hat))
                          go_roundg k3
                          case measure => have := HJ3.out; have := HK2.out; have := HK3.out; omega
                          case rel => exact ⟨(y201), (wrap64 (x9_2 + 1)), (by first | rfl | (simp; done) | (simp [*]; done)), H', ⟨by have := HJ3.out; have := HK2.out; have := HK3.out; omega⟩, ⟨by (with_reducible repeat (first | apply Kd.R_alloc | apply Kd.R_drewN | apply Kd.R_drew)); exact HO203.out⟩, ⟨by repeat (first | (with_reducible first | exact HB.out | apply below_alloc | apply pw_below_drewN | apply below_drew1) | exact HB.out)⟩⟩
                        · rw [if_neg c24] at H
                          exact absurd H (by simp)
                · rw [if_neg c13] at H
                  have c13b0 : decide (x9_2 < a1) = false := decide_eq_false c13
                  clear c13
                  have H' := Aside0.mk H
                  clear H
                  go_wp2
                  go_loopg [12] k2 (fun kq v12 w' => ∃ (x12_3 : Int), v12 = .int .i64 x12_3 ∧ Aside0 (dragnetref03_Unpack.l2 kq l0 x8_2 x12_3 = some (r1, r2)) ∧ Aside0 (kq ≤ k2) ∧ Aside0 (Kd.R (Kd.int .u64) 41 w' w.heap.size (fun _ => True) u8 x8_2) ∧ Aside0 (Below w.heap.size w w'))
                  case atStart => exact ⟨(wrap64 (a1 * a2)), (by first | rfl | (simp; done) | (simp [*]; done)), H', ⟨Nat.le_refl _⟩, ⟨by (with_reducible repeat (first | apply Kd.R_alloc | apply Kd.R_drewN | apply Kd.R_drew)); exact HO_8.out⟩, ⟨by repeat (first | (with_reducible first | exact HB.out | apply below_alloc | apply pw_below_drewN | apply below_drew1) | exact HB.out)⟩⟩
                  case round =>
                    clear H'
                    try clear c1
                    try clear c2
                    try clear p2
                    try clear q2
                    try clear hx2
                    try clear c5
                    try clear c5b0
                    try clear c6
                    try clear c6b0
                    try clear p6
                    try clear c7
                    try clear c7b0
                    try clear c8
                    try clear c10
                    try clear c10b0
                    try clear c12
                    try clear c12b0
                    try clear c13
                    try clear c13b0
                    try clear c14
                    try clear c14b0
                    try clear c16
                    try clear c16b0
                    try clear c17
                    try clear c17b0
                    try clear c19
                    try clear c19b0
                    try clear c19b1
                    try clear c20
                    try clear p20
                    try clear q20
                    try clear hx20
                    try clear c21
                    try clear c21b0
                    try clear c21b1
                    try clear c22
                    try clear c22b0
                    try clear c22b1
                    try clear c24
                    try clear hx200_0
                    try clear p2
                    try clear p200
                    try clear q200
                    obtain ⟨x12_3, rfl, HA, HK3, HO_8, HB⟩ := hrel
                    cases gk with
                    | zero => exact absurd HA.out (by simp [dragnetref03_Unpack.l2])
                    | succ k3 =>
                      have H := HA.out
                      clear HA
                      simp only [dragnetref03_Unpack.l2] at H
                      by_cases c26 : x12_3 < (wrap64 (8 * (l0.length : Int)))
                      · rw [if_pos c26] at H
                        have c26b0 : decide (x12_3 < (wrap64 (8 * (l0.length : Int)))) = true := decide_eq_true c26
                        clear c26
                        obtain ⟨ji27, hji27⟩ : ∃ j_ : Int, (wrap64 (Int.tdiv x12_3 8)) = j_ := ⟨_, rfl⟩
                        replace H : (if 0 ≤ (ji27) then (if (ji27) < (l0.length : Int) then (if 0 ≤ (Int.tmod x12_3 8) then (if (Int.tmod (shr .u8 (rd l0 (ji27)) (Int.tmod x12_3 8)) 2) = 1 then (some (([] : List Int), 2)) else (dragnetref03_Unpack.l2 k3 l0 x8_2 (wrap64 (x12_3 + 1)))) else (none)) else (none)) else (none)) = some (r1, r2) := by first | (rw [hji27] at H; exact H) | (simp only [hji27] at H ⊢; exact H)
                        have hji27w : (IntKind.i64.wrap (Int.tdiv x12_3 8)) = ji27 := (i64_w _).trans hji27
                        by_cases c28 : 0 ≤ (ji27)
                        · rw [if_pos c28] at H
                          have c28b0 : decide (0 ≤ (ji27)) = true := decide_eq_true c28
                          clear c28
                          by_cases c29 : (ji27) < (l0.length : Int)
                          · rw [if_pos c29] at H
                            have c29b0 : decide ((ji27) < (l0.length : Int)) = true := decide_eq_true c29
                            clear c29
                            obtain ⟨ji30, hji30⟩ : ∃ j_ : Int, (Int.tmod x12_3 8) = j_ := ⟨_, rfl⟩
                            replace H : (if 0 ≤ (ji30) then (if (Int.tmod (shr .u8 (rd l0 (ji27)) (ji30)) 2) = 1 then (some (([] : List Int), 2)) else (dragnetref03_Unpack.l2 k3 l0 x8_2 (wrap64 (x12_3 + 1)))) else (none)) = some (r1, r2) := by first | (rw [hji30] at H; exact H) | (simp only [hji30] at H ⊢; exact H)
                            by_cases c31 : 0 ≤ (ji30)
                            · rw [if_pos c31] at H
                              have c31b0 := eq_true c31
                              have c31b1 : decide (0 ≤ (ji30)) = true := decide_eq_true c31
                              clear c31
                              obtain ⟨ji32, hji32⟩ : ∃ j_ : Int, (shr .u8 (rd l0 (ji27)) (ji30)) = j_ := ⟨_, rfl⟩
                              replace H : (if (Int.tmod (ji32) 2) = 1 then (some (([] : List Int), 2)) else (dragnetref03_Unpack.l2 k3 l0 x8_2 (wrap64 (x12_3 + 1)))) = some (r1, r2) := by first | (rw [hji32] at H; exact H) | (simp only [hji32] at H ⊢; exact H)
                              have hji32_ : ((rd l0 (ji27)) / 2 ^ min (ji30).toNat 8) = ji32 := hji32
                              have hji32z : (ji30) ≤ 8 → ((rd l0 (ji27)) / 2 ^ (ji30).toNat) = ji32 := shr_small hji32
                              by_cases c33 : (Int.tmod (ji32) 2) = 1
                              · rw [if_pos c33] at H
                                have c33b0 : ((Int.tmod (ji32) 2) == 1) = true := beq_iff_eq.mpr c33
                                have c33b1 : ((Int.tmod (ji32) 2) != 1) = false := bne_eq_false_iff_eq.mpr c33
                                clear c33
                                simp only [Option.some.injEq, Prod.mk.injEq] at H
                                obtain ⟨rfl, rfl⟩ := H
                                have p204 : 0 ≤ ((ji27) : Int) := of_decide_eq_true (by first | (with_reducible assumption) | assumption)
                                have q204 : (ji27) < (l0.length : Int) := of_decide_eq_true (by first | (with_reducible assumption) | assumption)
                                obtain ⟨ad204, e204, hx204_0⟩ := Kd.at_int HR0.out (ji27) p204 q204
                                cases e204
                                replace hx204_0 := (HB.out.cell (World.block_lt_of_cell? w _ hx204_0)).trans hx204_0
                                replace p204 := eq_true p204
                                replace q204 := eq_true q204
                                go_wp2
                                go_ret2
                                exact ⟨_, by first | rfl | (simp [errW_none, errW_some] <;> rfl) | (simp only [← hji27, ← hji30, ← hji32]; first | rfl | (simp [errW_none, errW_some] <;> rfl)) | (simp [*, errW_none, errW_some] <;> rfl), by first | exact Kd.R_nil _ _ _ _ _ | exact Kd.N_nil _ _ _ _ _ | exact Kd.V_nil _ _ _ _ _ | exact Kd.Q_nil _ _ _ _ _ | exact Kd.S_nil _ _ _ _ _, by repeat (first | (with_reducible first | exact HB.out | apply below_alloc | apply pw_below_drewN | apply below_drew1) | exact HB.out)⟩
                              · rw [if_neg c33] at H
                                have c33b0 : ((Int.tmod (ji32) 2) == 1) = false := beq_eq_false_iff_ne.mpr c33
                                have c33b1 : ((Int.tmod (ji32) 2) != 1) = true := bne_iff_ne.mpr c33
                                have H' := Aside0.mk H
                                clear H
                                have p204 : 0 ≤ ((ji27) : Int) := of_decide_eq_true (by first | (with_reducible assumption) | assumption)
                                have q204 : (ji27) < (l0.length : Int) := of_decide_eq_true (by first | (with_reducible assumption) | assumption)
                                obtain ⟨ad204, e204, hx204_0⟩ := Kd.at_int HR0.out (ji27) p204 q204
                                cases e204
                                replace hx204_0 := (HB.out.cell (World.block_lt_of_cell? w _ hx204_0)).trans hx204_0
                                replace p204 := eq_true p204
                                replace q204 := eq_true q204
                                go_wp2
                                go_roundg k3
                                case measure => have := HJ3.out; have := HK2.out; have := HK3.out; omega
                                case rel => exact ⟨(wrap64 (x12_3 + 1)), (by first | rfl | (simp; done) | (simp [*]; done)), H', ⟨by have := HJ3.out; have := HK2.out; have := HK3.out; omega⟩, ⟨by (with_reducible repeat (first | apply Kd.R_alloc | apply Kd.R_drewN | apply Kd.R_drew)); exact HO_8.out⟩, ⟨by repeat (first | (with_reducible first | exact HB.out | apply below_alloc | apply pw_below_drewN | apply below_drew1) | exact HB.out)⟩⟩
                            · rw [if_neg c31] at H
                              exact absurd H (by simp)
                          · rw [if_neg c29] at H
                            exact absurd H (by simp)
                        · rw [if_neg c28] at H
                          exact absurd H (by simp)
                      · rw [if_neg c26] at H
                        have c26b0 : decide (x12_3 < (wrap64 (8 * (l0.length : Int)))) = false := decide_eq_false c26
                        clear c26
                        simp only [Option.some.injEq, Prod.mk.injEq] at H
                        obtain ⟨rfl, rfl⟩ := H
                        go_wp2
                        go_ret2
                        exact ⟨_, by first | rfl | (simp [errW_none, errW_some] <;> rfl) | (simp [*, errW_none, errW_some] <;> rfl), by (with_reducible repeat (first | apply Kd.R_alloc | apply Kd.R_drewN | apply Kd.R_drew)); exact HO_8.out, by repeat (first | (with_reducible first | exact HB.out | apply below_alloc | apply pw_below_drewN | apply below_drew1) | exact HB.out)⟩

/-! ### dragnetlaw03_BitsUnpacks: function 6 -/
def dragnetlaw03_BitsUnpacks.f (k : Nat) (l0 : List Int) (a1 : Int) (a2 : Int) : Option (Bool) := (dragnetlaw03_alive.f k).bind fun t205 => (if t205 = true then ((dragnetref01_Copy.f l0).bind fun t206 => ((bits_Unpack.f k t206 a1 a2).bind fun bt209 => ((dragnetref03_Unpack.f k l0 a1 a2).bind fun bt213 => ((dragnetref03_Same.f k bt209.1 bt213.1).bind fun t217 => (if t217 = true then (if bt209.2 = bt213.2 then ((dragnetref01_Same.f t206 l0).bind fun t218 => (some t218)) else (some false)) else (some false)))))) else (some false))
theorem dragnetlaw03_BitsUnpacks.mono : ∀ a0 a1 a2 k, LeO (dragnetlaw03_BitsUnpacks.f k a0 a1 a2) (dragnetlaw03_BitsUnpacks.f (k + 1) a0 a1 a2) := by
  intro a0 a1 a2 k
  unfold dragnetlaw03_BitsUnpacks.f
  repeat' first
      | (with_reducible exact bits_Unpack.mono _ _ _ _)
      | (with_reducible exact dragnetlaw03_alive.mono _)
      | (with_reducible exact dragnetref03_Same.mono _ _ _)
      | (with_reducible exact dragnetref03_Unpack.mono _ _ _ _)
      | (with_reducible exact LeO.refl _)
      | (with_reducible exact LeO.none _)
      | (with_reducible refine LeO.ite ?_ ?_)
      | (with_reducible refine LeO.bind ?_ (fun _ => ?_))
      | exact bits_Unpack.mono _ _ _ _
      | exact dragnetlaw03_alive.mono _
      | exact dragnetref03_Same.mono _ _ _
      | exact dragnetref03_Unpack.mono _ _ _ _
      | exact LeO.none _
      | refine LeO.ite ?_ ?_
      | refine LeO.bind ?_ (fun _ => ?_)
set_option maxHeartbeats 8000000 in
set_option maxRecDepth 100000 in
theorem dragnetlaw03_BitsUnpacks.calls (k : Nat) (A0 : Option Addr) (c0 : Nat) (l0 : List Int) (a1 : Int) (a2 : Int) (r : Bool) (w : World) (hr0 : Kd.C (Kd.int .u8) w A0 l0.length l0) (hc0 : l0.length ≤ c0) (h : dragnetlaw03_BitsUnpacks.f k l0 a1 a2 = some r) :
    Calls Try.prog 6 #[.slice A0 l0.length c0, .int .i64 a1, .int .i64 a2] w fun e w' => e = .returned (.bool r) ∧ Below w.heap.size w w' := by
  have HR0 := Aside0.mk hr0
  have HC0 := Aside0.mk hc0
  clear hr0 hc0
  have HB := Aside0.mk (Below.refl w.heap.size w)
  have H : ((dragnetlaw03_alive.f k).bind fun t205 => (if t205 = true then ((dragnetref01_Copy.f l0).bind fun t206 => ((bits_Unpack.f k t206 a1 a2).bind fun bt209 => ((dragnetref03_Unpack.f k l0 a1 a2).bind fun bt213 => ((dragnetref03_Same.f k bt209.1 bt213.1).bind fun t217 => (if t217 = true then (if bt209.2 = bt213.2 then ((dragnetref01_Same.f t206 l0).bind fun t218 => (some t218)) else (some false)) else (some false)))))) else (some false))) = some r := h
  clear h
  replace H := Option.bind_eq_some_iff.mp H
  obtain ⟨t205, A40, H⟩ := H
  replace H : (if t205 = true then ((dragnetref01_Copy.f l0).bind fun t206 => ((bits_Unpack.f k t206 a1 a2).bind fun bt209 => ((dragnetref03_Unpack.f k l0 a1 a2).bind fun bt213 => ((dragnetref03_Same.f k bt209.1 bt213.1).bind fun t217 => (if t217 = true then (if bt209.2 = bt213.2 then ((dragnetref01_Same.f t206 l0).bind fun t218 => (some t218)) else (some false)) else (some false)))))) else (some false)) = some r := H
  have A4 := Aside0.mk A40
  clear A40
  by_cases c5 : t205 = true
  · subst c5
    have H1 : ((dragnetref01_Copy.f l0).bind fun t206 => ((bits_Unpack.f k t206 a1 a2).bind fun bt209 => ((dragnetref03_Unpack.f k l0 a1 a2).bind fun bt213 => ((dragnetref03_Same.f k bt209.1 bt213.1).bind fun t217 => (if t217 = true then (if bt209.2 = bt213.2 then ((dragnetref01_Same.f t206 l0).bind fun t218 => (some t218)) else (some false)) else (some false)))))) = some r := by rw [if_pos rfl] at H; exact H
    clear H
    have H := H1
    clear H1
    replace H := Option.bind_eq_some_iff.mp H
    obtain ⟨t206, A60, H⟩ := H
    replace H : ((bits_Unpack.f k t206 a1 a2).bind fun bt209 => ((dragnetref03_Unpack.f k l0 a1 a2).bind fun bt213 => ((dragnetref03_Same.f k bt209.1 bt213.1).bind fun t217 => (if t217 = true then (if bt209.2 = bt213.2 then ((dragnetref01_Same.f t206 l0).bind fun t218 => (some t218)) else (some false)) else (some false))))) = some r := H
    have A6 := Aside0.mk A60
    clear A60
    replace H := Option.bind_eq_some_iff.mp H
    obtain ⟨⟨t209, t210⟩, A70, H⟩ := H
    replace H : ((dragnetref03_Unpack.f k l0 a1 a2).bind fun bt213 => ((dragnetref03_Same.f k t209 bt213.1).bind fun t217 => (if t217 = true then (if t210 = bt213.2 then ((dragnetref01_Same.f t206 l0).bind fun t218 => (some t218)) else (some false)) else (some false)))) = some r := H
    have A7 := Aside0.mk A70
    clear A70
    replace H := Option.bind_eq_some_iff.mp H
    obtain ⟨⟨t213, t214⟩, A80, H⟩ := H
    replace H : ((dragnetref03_Same.f k t209 t213).bind fun t217 => (if t217 = true then (if t210 = t214 then ((dragnetref01_Same.f t206 l0).bind fun t218 => (some t218)) else (some false)) else (some false))) = some r := H
    have A8 := Aside0.mk A80
    clear A80
    replace H := Option.bind_eq_some_iff.mp H
    obtain ⟨t217, A90, H⟩ := H
    replace H : (if t217 = true then (if t210 = t214 then ((dragnetref01_Same.f t206 l0).bind fun t218 => (some t218)) else (some false)) else (some false)) = some r := H
    have A9 := Aside0.mk A90
    clear A90
    by_cases c10 : t217 = true
    · subst c10
      have H1 : (if t210 = t214 then ((dragnetref01_Same.f t206 l0).bind fun t218 => (some t218)) else (some false)) = some r := by rw [if_pos rfl] at H; exact H
      clear H
      have H := H1
      clear H1
      by_cases c11 : t210 = t214
      · rw [if_pos c11] at H
        have c11b0 : (t210 == t214) = true := beq_iff_eq.mpr c11
        have c11b1 : (t210 != t214) = false := bne_eq_false_iff_eq.mpr c11
        clear c11
        replace H := Option.bind_eq_some_iff.mp H
        obtain ⟨t218, A120, H⟩ := H
        replace H : (some t218) = some r := H
        have A12 := Aside0.mk A120
        clear A120
        obtain rfl := Option.some.inj H
        go_enter Try.func6, Try.ntmps6
        go_wp2_with (first | ((with_reducible refine gate_callee (f := 9) rfl ?_); refine goesL_ (some 12) rfl rfl Try.func9 (by kernel_rfl) rfl #[] rfl (by (try simp only [List.map_toArray, List.map_cons, List.map_nil]); first | done | rfl | (simp only [List.length_drop, List.length_take]; rfl)) ?_; (with_reducible refine (dragnetlaw03_alive.calls k  true _ A4.out).mono ?_); rintro e w13 ⟨rfl, hb⟩; refine ⟨_, rfl, ?_⟩; have n0_ := Aside0.mk (below_step (by repeat (first | (with_reducible first | exact HB.out | apply below_alloc | apply pw_below_drewN | apply below_drew1) | exact HB.out)) hb); clear HB; have HB := n0_; clear n0_; (try clear hb); (try clear hb2); (try clear hk); (try clear hi)) | ((with_reducible refine gate_callee (f := 17) rfl ?_); refine goesL_ (some 15) rfl rfl Try.func17 (by kernel_rfl) rfl #[.slice A0 l0.length c0] rfl (by (try simp only [List.map_toArray, List.map_cons, List.map_nil]); first | done | rfl | (simp only [List.length_drop, List.length_take]; rfl)) ?_; (with_reducible refine (dragnetref01_Copy.calls _ _ l0 t206 _ ?side1 ?side2 A6.out).mono ?_); (case side1 => repeat (first | exact (Kd.C_below HR0.out HB.out) | (with_reducible refine Kd.C_alloc ?_ _) | (with_reducible refine Kd.C_drewN ?_ _) | (with_reducible refine Kd.C_drew ?_))); (case side2 => exact HC0.out); rintro e w14 ⟨v207, rfl, ho0, hb⟩; refine ⟨_, rfl, ?_⟩; have n0_ := Aside0.mk (Kd.R_lower ho0 (below_size (by repeat (first | (with_reducible first | exact HB.out | apply below_alloc | apply pw_below_drewN | apply below_drew1) | exact HB.out)))); have n1_ := Aside0.mk (below_step (by repeat (first | (with_reducible first | exact HB.out | apply below_alloc | apply pw_below_drewN | apply below_drew1) | exact HB.out)) hb); clear HB; have HO208 := n0_; have HB := n1_; clear n0_ n1_; (try clear hb); (try clear hb2); (try clear hk); (try clear hi); (try clear ho0); obtain ⟨Ao15, co15, eo15⟩ := Kd.R_slice HO208.out; subst eo15) | ((with_reducible refine gate_callee (f := 18) rfl ?_); refine goesL_ (some 20) rfl rfl Try.func18 (by kernel_rfl) rfl #[.slice Ao15 t206.length co15, .int .i64 a1, .int .i64 a2] rfl (by (try simp only [List.map_toArray, List.map_cons, List.map_nil]); first | done | rfl | (simp only [List.length_drop, List.length_take]; rfl)) ?_; (with_reducible refine (bits_Unpack.calls k _ _ t206 a1 a2 t209 t210 _ ?side1 ?side2 A7.out).mono ?_); (case side1 => repeat (first | exact (Kd.R_reads' HO208.out).2.2 | (with_reducible refine Kd.C_alloc ?_ _) | (with_reducible refine Kd.C_drewN ?_ _) | (with_reducible refine Kd.C_drew ?_))); (case side2 => exact (Kd.R_reads' HO208.out).2.1); rintro e w16 ⟨v211, rfl, ho0, hb⟩; refine ⟨_, rfl, ?_⟩; have n0_ := Aside0.mk (Kd.R_below (by (with_reducible repeat (first | apply Kd.R_alloc | apply Kd.R_drewN | apply Kd.R_drew)); exact HO208.out) hb); have n1_ := Aside0.mk (Kd.R_lower ho0 (below_size (by repeat (first | (with_reducible first | exact HB.out | apply below_alloc | apply pw_below_drewN | apply below_drew1) | exact HB.out)))); have n2_ := Aside0.mk (below_step (by repeat (first | (with_reducible first | exact HB.out | apply below_alloc | apply pw_below_drewN | apply below_drew1) | exact HB.out)) hb); clear HO208; clear HB; have HO208 := n0_; have HO212 := n1_; have HB := n2_; clear n0_ n1_ n2_; (try clear hb); (try clear hb2); (try clear hk); (try clear hi); (try clear ho0)) | ((with_reducible refine gate_callee (f := 19) rfl ?_); refine goesL_ (some 27) rfl rfl Try.func19 (by kernel_rfl) rfl #[.slice A0 l0.length c0, .int .i64 a1, .int .i64 a2] rfl (by (try simp only [List.map_toArray, List.map_cons, List.map_nil]); first | done | rfl | (simp only [List.length_drop, List.length_take]; rfl)) ?_; (with_reducible refine (dragnetref03_Unpack.calls k _ _ l0 a1 a2 t213 t214 _ ?side1 ?side2 A8.out).mono ?_); (case side1 => repeat (first | exact (Kd.C_below HR0.out HB.out) | (with_reducible refine Kd.C_alloc ?_ _) | (with_reducible refine Kd.C_drewN ?_ _) | (with_reducible refine Kd.C_drew ?_))); (case side2 => exact HC0.out); rintro e w17 ⟨v215, rfl, ho0, hb⟩; refine ⟨_, rfl, ?_⟩; have n0_ := Aside0.mk (Kd.R_below (by (with_reducible repeat (first | apply Kd.R_alloc | apply Kd.R_drewN | apply Kd.R_drew)); exact HO208.out) hb); have n1_ := Aside0.mk (Kd.R_elder' (by (with_reducible repeat (first | apply Kd.R_alloc | apply Kd.R_drewN | apply Kd.R_drew)); exact HO212.out) (Kd.R_base ho0) hb); have n2_ := Aside0.mk (Kd.R_lower (Kd.R_new' ho0 (Kd.R_lt (by (with_reducible repeat (first | apply Kd.R_alloc | apply Kd.R_drewN | apply Kd.R_drew)); exact HO212.out))) (below_size (by repeat (first | (with_reducible first | exact HB.out | apply below_alloc | apply pw_below_drewN | apply below_drew1) | exact HB.out)))); have n3_ := Aside0.mk (below_step (by repeat (first | (with_reducible first | exact HB.out | apply below_alloc | apply pw_below_drewN | apply below_drew1) | exact HB.out)) hb); clear HO208; clear HO212; clear HB; have HO208 := n0_; have HO212 := n1_; have HO216 := n2_; have HB := n3_; clear n0_ n1_ n2_ n3_; (try clear hb); (try clear hb2); (try clear hk); (try clear hi); (try clear ho0); obtain ⟨Ao18, co18, eo18⟩ := Kd.R_slice HO212.out; subst eo18; obtain ⟨Ao19, co19, eo19⟩ := Kd.R_slice HO216.out; subst eo19) | ((with_reducible refine gate_callee (f := 14) rfl ?_); refine goesL_ (some 32) rfl rfl Try.func14 (by kernel_rfl) rfl #[.slice Ao18 t209.length co18, .slice Ao19 t213.length co19] rfl (by (try simp only [List.map_toArray, List.map_cons, List.map_nil]); first | done | rfl | (simp only [List.length_drop, List.length_take]; rfl)) ?_; (with_reducible refine (dragnetref03_Same.calls k _ _ t209 _ _ t213 true _ ?side1 ?side2 ?side3 ?side4 A9.out).mono ?_); (case side1 => repeat (first | exact (Kd.R_reads' HO212.out).2.2 | (with_reducible refine Kd.C_alloc ?_ _) | (with_reducible refine Kd.C_drewN ?_ _) | (with_reducible refine Kd.C_drew ?_))); (case side2 => exact (Kd.R_reads' HO212.out).2.1); (case side3 => repeat (first | exact (Kd.R_reads' HO216.out).2.2 | (with_reducible refine Kd.C_alloc ?_ _) | (with_reducible refine Kd.C_drewN ?_ _) | (with_reducible refine Kd.C_drew ?_))); (case side4 => exact (Kd.R_reads' HO216.out).2.1); rintro e w' ⟨rfl, ⟨nd, rfl⟩⟩; refine ⟨_, rfl, ?_⟩) | (go_at_call 13; (with_reducible refine (dragnetref01_Same.calls _ _ t206 _ _ l0 t218 _ ?side1 ?side2 ?side3 ?side4 A12.out).mono ?_); (case side1 => repeat (first | exact (Kd.R_reads' HO208.out).2.2 | (with_reducible refine Kd.C_alloc ?_ _) | (with_reducible refine Kd.C_drewN ?_ _) | (with_reducible refine Kd.C_drew ?_))); (case side2 => exact (Kd.R_reads' HO208.out).2.1); (case side3 => repeat (first | exact (Kd.C_below HR0.out (by repeat (first | (with_reducible first | exact HB.out | apply below_alloc | apply pw_below_drewN | apply below_drew1) | exact HB.out))) | (with_reducible refine Kd.C_alloc ?_ _) | (with_reducible refine Kd.C_drewN ?_ _) | (with_reducible refine Kd.C_drew ?_))); (case side4 => exact HC0.out); rintro e w' ⟨rfl, ⟨nd, rfl⟩⟩))
        go_ret
        exact ⟨by first | rfl | (simp [errW_none, errW_some] <;> rfl) | (simp [*, errW_none, errW_some] <;> rfl), by repeat (first | (with_reducible first | exact HB.out | apply below_alloc | apply pw_below_drewN | apply below_drew1) | exact HB.out)⟩
      · rw [if_neg c11] at H
        have c11b0 : (t210 == t214) = false := beq_eq_false_iff_ne.mpr c11
        have c11b1 : (t210 != t214) = true := bne_iff_ne.mpr c11
        obtain rfl := Option.some.inj H
        go_enter Try.func6, Try.ntmps6
        go_wp2_with (first | ((with_reducible refine gate_callee (f := 9) rfl ?_); refine goesL_ (some 12) rfl rfl Try.func9 (by kernel_rfl) rfl #[] rfl (by (try simp only [List.map_toArray, List.map_cons, List.map_nil]); first | done | rfl | (simp only [List.length_drop, List.length_take]; rfl)) ?_; (with_reducible refine (dragnetlaw03_alive.calls k  true _ A4.out).mono ?_); rintro e w20 ⟨rfl, hb⟩; refine ⟨_, rfl, ?_⟩; have n0_ := Aside0.mk (below_step (by repeat (first | (with_reducible first | exact HB.out | apply below_alloc | apply pw_below_drewN | apply below_drew1) | exact HB.out)) hb); clear HB; have HB := n0_; clear n0_; (try clear hb); (try clear hb2); (try clear hk); (try clear hi)) | ((with_reducible refine gate_callee (f := 17) rfl ?_); refine goesL_ (some 15) rfl rfl Try.func17 (by kernel_rfl) rfl #[.slice A0 l0.length c0] rfl (by (try simp only [List.map_toArray, List.map_cons, List.map_nil]); first | done | rfl | (simp only [List.length_drop, List.length_take]; rfl)) ?_; (with_reducible refine (dragnetref01_Copy.calls _ _ l0 t206 _ ?side1 ?side2 A6.out).mono ?_); (case side1 => repeat (first | exact (Kd.C_below HR0.out HB.out) | (with_reducible refine Kd.C_alloc ?_ _) | (with_reducible refine Kd.C_drewN ?_ _) | (with_reducible refine Kd.C_drew ?_))); (case side2 => exact HC0.out); rintro e w21 ⟨v207, rfl, ho0, hb⟩; refine ⟨_, rfl, ?_⟩; have n0_ := Aside0.mk (Kd.R_lower ho0 (below_size (by repeat (first | (with_reducible first | exact HB.out | apply below_alloc | apply pw_below_drewN | apply below_drew1) | exact HB.out)))); have n1_ := Aside0.mk (below_step (by repeat (first | (with_reducible first | exact HB.out | apply below_alloc | apply pw_below_drewN | apply below_drew1) | exact HB.out)) hb); clear HB; have HO208 := n0_; have HB := n1_; clear n0_ n1_; (try clear hb); (try clear hb2); (try clear hk); (try clear hi); (try clear ho0); obtain ⟨Ao22, co22, eo22⟩ := Kd.R_slice HO208.out; subst eo22) | ((with_reducible refine gate_callee (f := 18) rfl ?_); refine goesL_ (some 20) rfl rfl Try.func18 (by kernel_rfl) rfl #[.slice Ao22 t206.length co22, .int .i64 a1, .int .i64 a2] rfl (by (try simp only [List.map_toArray, List.map_cons, List.map_nil]); first | done | rfl | (simp only [List.length_drop, List.length_take]; rfl)) ?_; (with_reducible refine (bits_Unpack.calls k _ _ t206 a1 a2 t209 t210 _ ?side1 ?side2 A7.out).mono ?_); (case side1 => repeat (first | exact (Kd.R_reads' HO208.out).2.2 | (with_reducible refine Kd.C_alloc ?_ _) | (with_reducible refine Kd.C_drewN ?_ _) | (with_reducible refine Kd.C_drew ?_))); (case side2 => exact (Kd.R_reads' HO208.out).2.1); rintro e w23 ⟨v211, rfl, ho0, hb⟩; refine ⟨_, rfl, ?_⟩; have n0_ := Aside0.mk (Kd.R_below (by (with_reducible repeat (first | apply Kd.R_alloc | apply Kd.R_drewN | apply Kd.R_drew)); exact HO208.out) hb); have n1_ := Aside0.mk (Kd.R_lower ho0 (below_size (by repeat (first | (with_reducible first | exact HB.out | apply below_alloc | apply pw_below_drewN | apply below_drew1) | exact HB.out)))); have n2_ := Aside0.mk (below_step (by repeat (first | (with_reducible first | exact HB.out | apply below_alloc | apply pw_below_drewN | apply below_drew1) | exact HB.out)) hb); clear HO208; clear HB; have HO208 := n0_; have HO212 := n1_; have HB := n2_; clear n0_ n1_ n2_; (try clear hb); (try clear hb2); (try clear hk); (try clear hi); (try clear ho0)) | ((with_reducible refine gate_callee (f := 19) rfl ?_); refine goesL_ (some 27) rfl rfl Try.func19 (by kernel_rfl) rfl #[.slice A0 l0.length c0, .int .i64 a1, .int .i64 a2] rfl (by (try simp only [List.map_toArray, List.map_cons, List.map_nil]); first | done | rfl | (simp only [List.length_drop, List.length_take]; rfl)) ?_; (with_reducible refine (dragnetref03_Unpack.calls k _ _ l0 a1 a2 t213 t214 _ ?side1 ?side2 A8.out).mono ?_); (case side1 => repeat (first | exact (Kd.C_below HR0.out HB.out) | (with_reducible refine Kd.C_alloc ?_ _) | (with_reducible refine Kd.C_drewN ?_ _) | (with_reducible refine Kd.C_drew ?_))); (case side2 => exact HC0.out); rintro e w24 ⟨v215, rfl, ho0, hb⟩; refine ⟨_, rfl, ?_⟩; have n0_ := Aside0.mk (Kd.R_below (by (with_reducible repeat (first | apply Kd.R_alloc | apply Kd.R_drewN | apply Kd.R_drew)); exact HO208.out) hb); have n1_ := Aside0.mk (Kd.R_elder' (by (with_reducible repeat (first | apply Kd.R_alloc | apply Kd.R_drewN | apply Kd.R_drew)); exact HO212.out) (Kd.R_base ho0) hb); have n2_ := Aside0.mk (Kd.R_lower (Kd.R_new' ho0 (Kd.R_lt (by (with_reducible repeat (first | apply Kd.R_alloc | apply Kd.R_drewN | apply Kd.R_drew)); exact HO212.out))) (below_size (by repeat (first | (with_reducible first | exact HB.out | apply below_alloc | apply pw_below_drewN | apply below_drew1) | exact HB.out)))); have n3_ := Aside0.mk (below_step (by repeat (first | (with_reducible first | exact HB.out | apply below_alloc | apply pw_below_drewN | apply below_drew1) | exact HB.out)) hb); clear HO208; clear HO212; clear HB; have HO208 := n0_; have HO212 := n1_; have HO216 := n2_; have HB := n3_; clear n0_ n1_ n2_ n3_; (try clear hb); (try clear hb2); (try clear hk); (try clear hi); (try clear ho0); obtain ⟨Ao25, co25, eo25⟩ := Kd.R_slice HO212.out; subst eo25; obtain ⟨Ao26, co26, eo26⟩ := Kd.R_slice HO216.out; subst eo26) | ((with_reducible refine gate_callee (f := 14) rfl ?_); refine goesL_ (some 32) rfl rfl Try.func14 (by kernel_rfl) rfl #[.slice Ao25 t209.length co25, .slice Ao26 t213.length co26] rfl (by (try simp only [List.map_toArray, List.map_cons, List.map_nil]); first | done | rfl | (simp only [List.length_drop, List.length_take]; rfl)) ?_; (with_reducible refine (dragnetref03_Same.calls k _ _ t209 _ _ t213 true _ ?side1 ?side2 ?side3 ?side4 A9.out).mono ?_); (case side1 => repeat (first | exact (Kd.R_reads' HO212.out).2.2 | (with_reducible refine Kd.C_alloc ?_ _) | (with_reducible refine Kd.C_drewN ?_ _) | (with_reducible refine Kd.C_drew ?_))); (case side2 => exact (Kd.R_reads' HO212.out).2.1); (case side3 => repeat (first | exact (Kd.R_reads' HO216.out).2.2 | (with_reducible refine Kd.C_alloc ?_ _) | (with_reducible refine Kd.C_drewN ?_ _) | (with_reducible refine Kd.C_drew ?_))); (case side4 => exact (Kd.R_reads' HO216.out).2.1); rintro e w' ⟨rfl, ⟨nd, rfl⟩⟩; refine ⟨_, rfl, ?_⟩))
        go_ret
        exact ⟨by first | rfl | (simp [errW_none, errW_some] <;> rfl) | (simp [*, errW_none, errW_some] <;> rfl), by repeat (first | (with_reducible first | exact HB.out | apply below_alloc | apply pw_below_drewN | apply below_drew1) | exact HB.out)⟩
    · replace c10 := Bool.eq_false_iff.mpr c10
      subst c10
      have H1 : (some false) = some r := by rw [if_neg (show ¬ (false = true) by decide)] at H; exact H
      clear H
      have H := H1
      clear H1
      obtain rfl := Option.some.inj H
      go_enter Try.func6, Try.ntmps6
      go_wp2_with (first | ((with_reducible refine gate_callee (f := 9) rfl ?_); refine goesL_ (some 12) rfl rfl Try.func9 (by kernel_rfl) rfl #[] rfl (by (try simp only [List.map_toArray, List.map_cons, List.map_nil]); first | done | rfl | (simp only [List.length_drop, List.length_take]; rfl)) ?_; (with_reducible refine (dragnetlaw03_alive.calls k  true _ A4.out).mono ?_); rintro e w27 ⟨rfl, hb⟩; refine ⟨_, rfl, ?_⟩; have n0_ := Aside0.mk (below_step (by repeat (first | (with_reducible first | exact HB.out | apply below_alloc | apply pw_below_drewN | apply below_drew1) | exact HB.out)) hb); clear HB; have HB := n0_; clear n0_; (try clear hb); (try clear hb2); (try clear hk); (try clear hi)) | ((with_reducible refine gate_callee (f := 17) rfl ?_); refine goesL_ (some 15) rfl rfl Try.func17 (by kernel_rfl) rfl #[.slice A0 l0.length c0] rfl (by (try simp only [List.map_toArray, List.map_cons, List.map_nil]); first | done | rfl | (simp only [List.length_drop, List.length_take]; rfl)) ?_; (with_reducible refine (dragnetref01_Copy.calls _ _ l0 t206 _ ?side1 ?side2 A6.out).mono ?_); (case side1 => repeat (first | exact (Kd.C_below HR0.out HB.out) | (with_reducible refine Kd.C_alloc ?_ _) | (with_reducible refine Kd.C_drewN ?_ _) | (with_reducible refine Kd.C_drew ?_))); (case side2 => exact HC0.out); rintro e w28 ⟨v207, rfl, ho0, hb⟩; refine ⟨_, rfl, ?_⟩; have n0_ := Aside0.mk (Kd.R_lower ho0 (below_size (by repeat (first | (with_reducible first | exact HB.out | apply below_alloc | apply pw_below_drewN | apply below_drew1) | exact HB.out)))); have n1_ := Aside0.mk (below_step (by repeat (first | (with_reducible first | exact HB.out | apply below_alloc | apply pw_below_drewN | apply below_drew1) | exact HB.out)) hb); clear HB; have HO208 := n0_; have HB := n1_; clear n0_ n1_; (try clear hb); (try clear hb2); (try clear hk); (try clear hi); (try clear ho0); obtain ⟨Ao29, co29, eo29⟩ := Kd.R_slice HO208.out; subst eo29) | ((with_reducible refine gate_callee (f := 18) rfl ?_); refine goesL_ (some 20) rfl rfl Try.func18 (by kernel_rfl) rfl #[.slice Ao29 t206.length co29, .int .i64 a1, .int .i64 a2] rfl (by (try simp only [List.map_toArray, List.map_cons, List.map_nil]); first | done | rfl | (simp only [List.length_drop, List.length_take]; rfl)) ?_; (with_reducible refine (bits_Unpack.calls k _ _ t206 a1 a2 t209 t210 _ ?side1 ?side2 A7.out).mono ?_); (case side1 => repeat (first | exact (Kd.R_reads' HO208.out).2.2 | (with_reducible refine Kd.C_alloc ?_ _) | (with_reducible refine Kd.C_drewN ?_ _) | (with_reducible refine Kd.C_drew ?_))); (case side2 => exact (Kd.R_reads' HO208.out).2.1); rintro e w30 ⟨v211, rfl, ho0, hb⟩; refine ⟨_, rfl, ?_⟩; have n0_ := Aside0.mk (Kd.R_below (by (with_reducible repeat (first | apply Kd.R_alloc | apply Kd.R_drewN | apply Kd.R_drew)); exact HO208.out) hb); have n1_ := Aside0.mk (Kd.R_lower ho0 (below_size (by repeat (first | (with_reducible first | exact HB.out | apply below_alloc | apply pw_below_drewN | apply below_drew1) | exact HB.out)))); have n2_ := Aside0.mk (below_step (by repeat (first | (with_reducible first | exact HB.out | apply below_alloc | apply pw_below_drewN | apply below_drew1) | exact HB.out)) hb); clear HO208; clear HB; have HO208 := n0_; have HO212 := n1_; have HB := n2_; clear n0_ n1_ n2_; (try clear hb); (try clear hb2); (try clear hk); (try clear hi); (try clear ho0)) | ((with_reducible refine gate_callee (f := 19) rfl ?_); refine goesL_ (some 27) rfl rfl Try.func19 (by kernel_rfl) rfl #[.slice A0 l0.length c0, .int .i64 a1, .int .i64 a2] rfl (by (try simp only [List.map_toArray, List.map_cons, List.map_nil]); first | done | rfl | (simp only [List.length_drop, List.length_take]; rfl)) ?_; (with_reducible refine (dragnetref03_Unpack.calls k _ _ l0 a1 a2 t213 t214 _ ?side1 ?side2 A8.out).mono ?_); (case side1 => repeat (first | exact (Kd.C_below HR0.out HB.out) | (with_reducible refine Kd.C_alloc ?_ _) | (with_reducible refine Kd.C_drewN ?_ _) | (with_reducible refine Kd.C_drew ?_))); (case side2 => exact HC0.out); rintro e w31 ⟨v215, rfl, ho0, hb⟩; refine ⟨_, rfl, ?_⟩; have n0_ := Aside0.mk (Kd.R_below (by (with_reducible repeat (first | apply Kd.R_alloc | apply Kd.R_drewN | apply Kd.R_drew)); exact HO208.out) hb); have n1_ := Aside0.mk (Kd.R_elder' (by (with_reducible repeat (first | apply Kd.R_alloc | apply Kd.R_drewN | apply Kd.R_drew)); exact HO212.out) (Kd.R_base ho0) hb); have n2_ := Aside0.mk (Kd.R_lower (Kd.R_new' ho0 (Kd.R_lt (by (with_reducible repeat (first | apply Kd.R_alloc | apply Kd.R_drewN | apply Kd.R_drew)); exact HO212.out))) (below_size (by repeat (first | (with_reducible first | exact HB.out | apply below_alloc | apply pw_below_drewN | apply below_drew1) | exact HB.out)))); have n3_ := Aside0.mk (below_step (by repeat (first | (with_reducible first | exact HB.out | apply below_alloc | apply pw_below_drewN | apply below_drew1) | exact HB.out)) hb); clear HO208; clear HO212; clear HB; have HO208 := n0_; have HO212 := n1_; have HO216 := n2_; have HB := n3_; clear n0_ n1_ n2_ n3_; (try clear hb); (try clear hb2); (try clear hk); (try clear hi); (try clear ho0); obtain ⟨Ao32, co32, eo32⟩ := Kd.R_slice HO212.out; subst eo32; obtain ⟨Ao33, co33, eo33⟩ := Kd.R_slice HO216.out; subst eo33) | ((with_reducible refine gate_callee (f := 14) rfl ?_); refine goesL_ (some 32) rfl rfl Try.func14 (by kernel_rfl) rfl #[.slice Ao32 t209.length co32, .slice Ao33 t213.length co33] rfl (by (try simp only [List.map_toArray, List.map_cons, List.map_nil]); first | done | rfl | (simp only [List.length_drop, List.length_take]; rfl)) ?_; (with_reducible refine (dragnetref03_Same.calls k _ _ t209 _ _ t213 false _ ?side1 ?side2 ?side3 ?side4 A9.out).mono ?_); (case side1 => repeat (first | exact (Kd.R_reads' HO212.out).2.2 | (with_reducible refine Kd.C_alloc ?_ _) | (with_reducible refine Kd.C_drewN ?_ _) | (with_reducible refine Kd.C_drew ?_))); (case side2 => exact (Kd.R_reads' HO212.out).2.1); (case side3 => repeat (first | exact (Kd.R_reads' HO216.out).2.2 | (with_reducible refine Kd.C_alloc ?_ _) | (with_reducible refine Kd.C_drewN ?_ _) | (with_reducible refine Kd.C_drew ?_))); (case side4 => exact (Kd.R_reads' HO216.out).2.1); rintro e w' ⟨rfl, ⟨nd, rfl⟩⟩; refine ⟨_, rfl, ?_⟩))
      go_ret
      exact ⟨by first | rfl | (simp [errW_none, errW_some] <;> rfl) | (simp [*, errW_none, errW_some] <;> rfl), by repeat (first | (with_reducible first | exact HB.out | apply below_alloc | apply pw_below_drewN | apply below_drew1) | exact HB.out)⟩
  · replace c5 := Bool.eq_false_iff.mpr c5
    subst c5
    have H1 : (some false) = some r := by rw [if_neg (show ¬ (false = true) by decide)] at H; exact H
    clear H
    have H := H1
    clear H1
    obtain rfl := Option.some.inj H
    go_enter Try.func6, Try.ntmps6
    go_wp2_with (first | ((with_reducible refine gate_callee (f := 9) rfl ?_); refine goesL_ (some 12) rfl rfl Try.func9 (by kernel_rfl) rfl #[] rfl (by (try simp only [List.map_toArray, List.map_cons, List.map_nil]); first | done | rfl | (simp only [List.length_drop, List.length_take]; rfl)) ?_; (with_reducible refine (dragnetlaw03_alive.calls k  false _ A4.out).mono ?_); rintro e w34 ⟨rfl, hb⟩; refine ⟨_, rfl, ?_⟩; have n0_ := Aside0.mk (below_step (by repeat (first | (with_reducible first | exact HB.out | apply below_alloc | apply pw_below_drewN | apply below_drew1) | exact HB.out)) hb); clear HB; have HB := n0_; clear n0_; (try clear hb); (try clear hb2); (try clear hk); (try clear hi)))
    go_ret
    exact ⟨by first | rfl | (simp [errW_none, errW_some] <;> rfl) | (simp [*, errW_none, errW_some] <;> rfl), by repeat (first | (with_reducible first | exact HB.out | apply below_alloc | apply pw_below_drewN | apply below_drew1) | exact HB.out)⟩

/-- THE ONE PURE STATEMENT of dragnetlaw03_BitsUnpacks: yours. -/
def dragnetlaw03_BitsUnpacks.Pure : Prop := ∀ (l0 : List Int) (a1 : Int) (a2 : Int), l0.length ≤ maxLen → l0.length * 1 ≤ 140737488351232 → (∀ x ∈ l0, (Lit.int .u8 x).wf = true) → (Lit.int .i64 a1).wf = true → (Lit.int .i64 a2).wf = true → ∃ k, dragnetlaw03_BitsUnpacks.f k l0 a1 a2 = some true
theorem dragnetlaw03_BitsUnpacks.walk (P : dragnetlaw03_BitsUnpacks.Pure) (a0 : Option Addr) (len0 cap0 : Nat) (z0 : List Int) (a1 : Int) (a2 : Int) (w : World) (w0 : (a0 = none ∧ len0 = 0 ∧ cap0 = 0 ∧ z0 = []) ∨ ∃ x, a0 = some x ∧ len0 ≤ cap0 ∧ cap0 ≤ maxLen ∧ z0.length = cap0 ∧ (∀ i, i < z0.length → w.cell? (x.add i) = some (.int .u8 (z0.getD i 0))) ∧ ∀ n ∈ z0, (Lit.int .u8 n).wf = true) (y0 : len0 * 1 ≤ 140737488351232) (w1 : (Lit.int .i64 a1).wf = true) (w2 : (Lit.int .i64 a2).wf = true) :
    Calls Try.prog 6 #[.slice a0 len0 cap0, .int .i64 a1, .int .i64 a2] w fun e w' => e = .returned (.bool true) ∧ Below w.heap.size w w' := by
  obtain ⟨l0, rfl, hr0, hm0, hw0, hc0⟩ := ReadsInt.ofRowC w0
  obtain ⟨k, h⟩ := P l0 a1 a2 hm0 y0 hw0 w1 w2
  refine (dragnetlaw03_BitsUnpacks.calls k _ _ l0 a1 a2 true w (Kd.C_of_reads (d := (0 : Int)) (h1 := fun _ => rfl) hr0) hc0 h).mono ?_
  rintro e w' ⟨rfl, hd⟩
  exact ⟨rfl, hd⟩

/-! ### dragnetlaw03_BitsBack: function 7 -/
def dragnetlaw03_BitsBack.f (k : Nat) (l0 : List Int) (a1 : Int) : Option (Bool) := (dragnetlaw03_alive.f k).bind fun t219 => (if t219 = true then (if (l0.length : Int) > 4096 then (some true) else ((bits_Pack.f k l0 (Int.tmod (wrap64 (a1)) 65)).bind fun bt220 => (if bt220.2 = 0 then ((bits_Unpack.f k bt220.1 (l0.length : Int) (Int.tmod (wrap64 (a1)) 65)).bind fun bt224 => (if bt224.2 = 0 then ((dragnetref03_Same.f k l0 bt224.1).bind fun t228 => (if t228 = true then (some ((bt220.1.length : Int) == (wrap64 (Int.tdiv (wrap64 ((wrap64 ((l0.length : Int) * (Int.tmod (wrap64 (a1)) 65))) + 7)) 8)))) else (some false))) else (some false))) else ((bits_Width.f k l0).bind fun t229 => (if t229 > (Int.tmod (wrap64 (a1)) 65) then (some ((bt220.1.length : Int) == 0)) else (some false)))))) else (some false))
theorem dragnetlaw03_BitsBack.mono : ∀ a0 a1 k, LeO (dragnetlaw03_BitsBack.f k a0 a1) (dragnetlaw03_BitsBack.f (k + 1) a0 a1) := by
  intro a0 a1 k
  unfold dragnetlaw03_BitsBack.f
  repeat' first
      | (with_reducible exact bits_Pack.mono _ _ _)
      | (with_reducible exact bits_Unpack.mono _ _ _ _)
      | (with_reducible exact bits_Width.mono _ _)
      | (with_reducible exact dragnetlaw03_alive.mono _)
      | (with_reducible exact dragnetref03_Same.mono _ _ _)
      | (with_reducible exact LeO.refl _)
      | (with_reducible exact LeO.none _)
      | (with_reducible refine LeO.ite ?_ ?_)
      | (with_reducible refine LeO.bind ?_ (fun _ => ?_))
      | exact bits_Pack.mono _ _ _
      | exact bits_Unpack.mono _ _ _ _
      | exact bits_Width.mono _ _
      | exact dragnetlaw03_alive.mono _
      | exact dragnetref03_Same.mono _ _ _
      | exact LeO.none _
      | refine LeO.ite ?_ ?_
      | refine LeO.bind ?_ (fun _ => ?_)
set_option maxHeartbeats 8000000 in
set_option maxRecDepth 100000 in
theorem dragnetlaw03_BitsBack.calls (k : Nat) (A0 : Option Addr) (c0 : Nat) (l0 : List Int) (a1 : Int) (r : Bool) (w : World) (hr0 : Kd.C (Kd.int .u64) w A0 l0.length l0) (hc0 : l0.length ≤ c0) (h : dragnetlaw03_BitsBack.f k l0 a1 = some r) :
    Calls Try.prog 7 #[.slice A0 l0.length c0, .int .u8 a1] w fun e w' => e = .returned (.bool r) ∧ Below w.heap.size w w' := by
  have HR0 := Aside0.mk hr0
  have HC0 := Aside0.mk hc0
  clear hr0 hc0
  have HB := Aside0.mk (Below.refl w.heap.size w)
  have H : ((dragnetlaw03_alive.f k).bind fun t219 => (if t219 = true then (if (l0.length : Int) > 4096 then (some true) else ((bits_Pack.f k l0 (Int.tmod (wrap64 (a1)) 65)).bind fun bt220 => (if bt220.2 = 0 then ((bits_Unpack.f k bt220.1 (l0.length : Int) (Int.tmod (wrap64 (a1)) 65)).bind fun bt224 => (if bt224.2 = 0 then ((dragnetref03_Same.f k l0 bt224.1).bind fun t228 => (if t228 = true then (some ((bt220.1.length : Int) == (wrap64 (Int.tdiv (wrap64 ((wrap64 ((l0.length : Int) * (Int.tmod (wrap64 (a1)) 65))) + 7)) 8)))) else (some false))) else (some false))) else ((bits_Width.f k l0).bind fun t229 => (if t229 > (Int.tmod (wrap64 (a1)) 65) then (some ((bt220.1.length : Int) == 0)) else (some false)))))) else (some false))) = some r := h
  clear h
  replace H := Option.bind_eq_some_iff.mp H
  obtain ⟨t219, A30, H⟩ := H
  replace H : (if t219 = true then (if (l0.length : Int) > 4096 then (some true) else ((bits_Pack.f k l0 (Int.tmod (wrap64 (a1)) 65)).bind fun bt220 => (if bt220.2 = 0 then ((bits_Unpack.f k bt220.1 (l0.length : Int) (Int.tmod (wrap64 (a1)) 65)).bind fun bt224 => (if bt224.2 = 0 then ((dragnetref03_Same.f k l0 bt224.1).bind fun t228 => (if t228 = true then (some ((bt220.1.length : Int) == (wrap64 (Int.tdiv (wrap64 ((wrap64 ((l0.length : Int) * (Int.tmod (wrap64 (a1)) 65))) + 7)) 8)))) else (some false))) else (some false))) else ((bits_Width.f k l0).bind fun t229 => (if t229 > (Int.tmod (wrap64 (a1)) 65) then (some ((bt220.1.length : Int) == 0)) else (some false)))))) else (some false)) = some r := H
  have A3 := Aside0.mk A30
  clear A30
  by_cases c4 : t219 = true
  · subst c4
    have H1 : (if (l0.length : Int) > 4096 then (some true) else ((bits_Pack.f k l0 (Int.tmod (wrap64 (a1)) 65)).bind fun bt220 => (if bt220.2 = 0 then ((bits_Unpack.f k bt220.1 (l0.length : Int) (Int.tmod (wrap64 (a1)) 65)).bind fun bt224 => (if bt224.2 = 0 then ((dragnetref03_Same.f k l0 bt224.1).bind fun t228 => (if t228 = true then (some ((bt220.1.length : Int) == (wrap64 (Int.tdiv (wrap64 ((wrap64 ((l0.length : Int) * (Int.tmod (wrap64 (a1)) 65))) + 7)) 8)))) else (some false))) else (some false))) else ((bits_Width.f k l0).bind fun t229 => (if t229 > (Int.tmod (wrap64 (a1)) 65) then (some ((bt220.1.length : Int) == 0)) else (some false)))))) = some r := by rw [if_pos rfl] at H; exact H
    clear H
    have H := H1
    clear H1
    by_cases c5 : (l0.length : Int) > 4096
    · rw [if_pos c5] at H
      have c5b0 : decide (4096 < (l0.length : Int)) = true := decide_eq_true c5
      have c5b1 : decide (4096 < l0.length) = true := decide_eq_true (by omega)
      clear c5
      obtain rfl := Option.some.inj H
      go_enter Try.func7, Try.ntmps7
      go_wp2_with (first | ((with_reducible refine gate_callee (f := 9) rfl ?_); refine goesL_ (some 10) rfl rfl Try.func9 (by kernel_rfl) rfl #[] rfl (by (try simp only [List.map_toArray, List.map_cons, List.map_nil]); first | done | rfl | (simp only [List.length_drop, List.length_take]; rfl)) ?_; (with_reducible refine (dragnetlaw03_alive.calls k  true _ A3.out).mono ?_); rintro e w6 ⟨rfl, hb⟩; refine ⟨_, rfl, ?_⟩; have n0_ := Aside0.mk (below_step (by repeat (first | (with_reducible first | exact HB.out | apply below_alloc | apply pw_below_drewN | apply below_drew1) | exact HB.out)) hb); clear HB; have HB := n0_; clear n0_; (try clear hb); (try clear hb2); (try clear hk); (try clear hi)))
      go_ret
      exact ⟨by first | rfl | (simp [errW_none, errW_some] <;> rfl) | (simp [*, errW_none, errW_some] <;> rfl), by repeat (first | (with_reducible first | exact HB.out | apply below_alloc | apply pw_below_drewN | apply below_drew1) | exact HB.out)⟩
    · rw [if_neg c5] at H
      have c5b0 : decide (4096 < (l0.length : Int)) = false := decide_eq_false c5
      have c5b1 : decide (4096 < l0.length) = false := decide_eq_false (by omega)
      clear c5
      replace H := Option.bind_eq_some_iff.mp H
      obtain ⟨⟨t220, t221⟩, A70, H⟩ := H
      replace H : (if t221 = 0 then ((bits_Unpack.f k t220 (l0.length : Int) (Int.tmod (wrap64 (a1)) 65)).bind fun bt224 => (if bt224.2 = 0 then ((dragnetref03_Same.f k l0 bt224.1).bind fun t228 => (if t228 = true then (some ((t220.length : Int) == (wrap64 (Int.tdiv (wrap64 ((wrap64 ((l0.length : Int) * (Int.tmod (wrap64 (a1)) 65))) + 7)) 8)))) else (some false))) else (some false))) else ((bits_Width.f k l0).bind fun t229 => (if t229 > (Int.tmod (wrap64 (a1)) 65) then (some ((t220.length : Int) == 0)) else (some false)))) = some r := H
      have A7 := Aside0.mk A70
      clear A70
      by_cases c8 : t221 = 0
      · rw [if_pos c8] at H
        have c8b0 : (t221 == 0) = true := beq_iff_eq.mpr c8
        have c8b1 : (t221 != 0) = false := bne_eq_false_iff_eq.mpr c8
        clear c8
        replace H := Option.bind_eq_some_iff.mp H
        obtain ⟨⟨t224, t225⟩, A90, H⟩ := H
        replace H : (if t225 = 0 then ((dragnetref03_Same.f k l0 t224).bind fun t228 => (if t228 = true then (some ((t220.length : Int) == (wrap64 (Int.tdiv (wrap64 ((wrap64 ((l0.length : Int) * (Int.tmod (wrap64 (a1)) 65))) + 7)) 8)))) else (some false))) else (some false)) = some r := H
        have A9 := Aside0.mk A90
        clear A90
        by_cases c10 : t225 = 0
        · rw [if_pos c10] at H
          have c10b0 : (t225 == 0) = true := beq_iff_eq.mpr c10
          have c10b1 : (t225 != 0) = false := bne_eq_false_iff_eq.mpr c10
          clear c10
          replace H := Option.bind_eq_some_iff.mp H
          obtain ⟨t228, A110, H⟩ := H
          replace H : (if t228 = true then (some ((t220.length : Int) == (wrap64 (Int.tdiv (wrap64 ((wrap64 ((l0.length : Int) * (Int.tmod (wrap64 (a1)) 65))) + 7)) 8)))) else (some false)) = some r := H
          have A11 := Aside0.mk A110
          clear A110
          by_cases c12 : t228 = true
          · subst c12
            have H1 : (some ((t220.length : Int) == (wrap64 (Int.tdiv (wrap64 ((wrap64 ((l0.length : Int) * (Int.tmod (wrap64 (a1)) 65))) + 7)) 8)))) = some r := by rw [if_pos rfl] at H; exact H
            clear H
            have H := H1
            clear H1
            obtain rfl := Option.some.inj H
            go_enter Try.func7, Try.ntmps7
            go_wp2_with (first | ((with_reducible refine gate_callee (f := 9) rfl ?_); refine goesL_ (some 10) rfl rfl Try.func9 (by kernel_rfl) rfl #[] rfl (by (try simp only [List.map_toArray, List.map_cons, List.map_nil]); first | done | rfl | (simp only [List.length_drop, List.length_take]; rfl)) ?_; (with_reducible refine (dragnetlaw03_alive.calls k  true _ A3.out).mono ?_); rintro e w13 ⟨rfl, hb⟩; refine ⟨_, rfl, ?_⟩; have n0_ := Aside0.mk (below_step (by repeat (first | (with_reducible first | exact HB.out | apply below_alloc | apply pw_below_drewN | apply below_drew1) | exact HB.out)) hb); clear HB; have HB := n0_; clear n0_; (try clear hb); (try clear hb2); (try clear hk); (try clear hi)) | ((with_reducible refine gate_callee (f := 11) rfl ?_); refine goesL_ (some 21) rfl rfl Try.func11 (by kernel_rfl) rfl #[.slice A0 l0.length c0, .int .i64 (Int.tmod (wrap64 (a1)) 65)] rfl (by (try simp only [List.map_toArray, List.map_cons, List.map_nil]); first | done | rfl | (simp only [List.length_drop, List.length_take]; rfl)) ?_; (with_reducible refine (bits_Pack.calls k _ _ l0 (Int.tmod (wrap64 (a1)) 65) t220 t221 _ ?side1 ?side2 A7.out).mono ?_); (case side1 => repeat (first | exact (Kd.C_below HR0.out HB.out) | (with_reducible refine Kd.C_alloc ?_ _) | (with_reducible refine Kd.C_drewN ?_ _) | (with_reducible refine Kd.C_drew ?_))); (case side2 => exact HC0.out); rintro e w14 ⟨v222, rfl, ho0, hb⟩; refine ⟨_, rfl, ?_⟩; have n0_ := Aside0.mk (Kd.R_lower ho0 (below_size (by repeat (first | (with_reducible first | exact HB.out | apply below_alloc | apply pw_below_drewN | apply below_drew1) | exact HB.out)))); have n1_ := Aside0.mk (below_step (by repeat (first | (with_reducible first | exact HB.out | apply below_alloc | apply pw_below_drewN | apply below_drew1) | exact HB.out)) hb); clear HB; have HO223 := n0_; have HB := n1_; clear n0_ n1_; (try clear hb); (try clear hb2); (try clear hk); (try clear hi); (try clear ho0); obtain ⟨Ao15, co15, eo15⟩ := Kd.R_slice HO223.out; subst eo15) | ((with_reducible refine gate_callee (f := 18) rfl ?_); refine goesL_ (some 40) rfl rfl Try.func18 (by kernel_rfl) rfl #[.slice Ao15 t220.length co15, .int .i64 (l0.length : Int), .int .i64 (Int.tmod (wrap64 (a1)) 65)] rfl (by (try simp only [List.map_toArray, List.map_cons, List.map_nil]); first | done | rfl | (simp only [List.length_drop, List.length_take]; rfl)) ?_; (with_reducible refine (bits_Unpack.calls k _ _ t220 (l0.length : Int) (Int.tmod (wrap64 (a1)) 65) t224 t225 _ ?side1 ?side2 A9.out).mono ?_); (case side1 => repeat (first | exact (Kd.R_reads' HO223.out).2.2 | (with_reducible refine Kd.C_alloc ?_ _) | (with_reducible refine Kd.C_drewN ?_ _) | (with_reducible refine Kd.C_drew ?_))); (case side2 => exact (Kd.R_reads' HO223.out).2.1); rintro e w16 ⟨v226, rfl, ho0, hb⟩; refine ⟨_, rfl, ?_⟩; have n0_ := Aside0.mk (Kd.R_below (by (with_reducible repeat (first | apply Kd.R_alloc | apply Kd.R_drewN | apply Kd.R_drew)); exact HO223.out) hb); have n1_ := Aside0.mk (Kd.R_lower ho0 (below_size (by repeat (first | (with_reducible first | exact HB.out | apply below_alloc | apply pw_below_drewN | apply below_drew1) | exact HB.out)))); have n2_ := Aside0.mk (below_step (by repeat (first | (with_reducible first | exact HB.out | apply below_alloc | apply pw_below_drewN | apply below_drew1) | exact HB.out)) hb); clear HO223; clear HB; have HO223 := n0_; have HO227 := n1_; have HB := n2_; clear n0_ n1_ n2_; (try clear hb); (try clear hb2); (try clear hk); (try clear hi); (try clear ho0); obtain ⟨Ao17, co17, eo17⟩ := Kd.R_slice HO227.out; subst eo17) | (go_at_call 14; (with_reducible refine (dragnetref03_Same.calls k _ _ l0 _ _ t224 true _ ?side1 ?side2 ?side3 ?side4 A11.out).mono ?_); (case side1 => repeat (first | exact (Kd.C_below HR0.out HB.out) | (with_reducible refine Kd.C_alloc ?_ _) | (with_reducible refine Kd.C_drewN ?_ _) | (with_reducible refine Kd.C_drew ?_))); (case side2 => exact HC0.out); (case side3 => repeat (first | exact (Kd.R_reads' HO227.out).2.2 | (with_reducible refine Kd.C_alloc ?_ _) | (with_reducible refine Kd.C_drewN ?_ _) | (with_reducible refine Kd.C_drew ?_))); (case side4 => exact (Kd.R_reads' HO227.out).2.1); rintro e w' ⟨rfl, ⟨nd, rfl⟩⟩))
            go_ret
            exact ⟨by first | rfl | (simp [errW_none, errW_some] <;> rfl) | (simp [*, errW_none, errW_some] <;> rfl), by repeat (first | (with_reducible first | exact HB.out | apply below_alloc | apply pw_below_drewN | apply below_drew1) | exact HB.out)⟩
          · replace c12 := Bool.eq_false_iff.mpr c12
            subst c12
            have H1 : (some false) = some r := by rw [if_neg (show ¬ (false = true) by decide)] at H; exact H
            clear H
            have H := H1
            clear H1
            obtain rfl := Option.some.inj H
            go_enter Try.func7, Try.ntmps7
            go_wp2_with (first | ((with_reducible refine gate_callee (f := 9) rfl ?_); refine goesL_ (some 10) rfl rfl Try.func9 (by kernel_rfl) rfl #[] rfl (by (try simp only [List.map_toArray, List.map_cons, List.map_nil]); first | done | rfl | (simp only [List.length_drop, List.length_take]; rfl)) ?_; (with_reducible refine (dragnetlaw03_alive.calls k  true _ A3.out).mono ?_); rintro e w18 ⟨rfl, hb⟩; refine ⟨_, rfl, ?_⟩; have n0_ := Aside0.mk (below_step (by repeat (first | (with_reducible first | exact HB.out | apply below_alloc | apply pw_below_drewN | apply below_drew1) | exact HB.out)) hb); clear HB; have HB := n0_; clear n0_; (try clear hb); (try clear hb2); (try clear hk); (try clear hi)) | ((with_reducible refine gate_callee (f := 11) rfl ?_); refine goesL_ (some 21) rfl rfl Try.func11 (by kernel_rfl) rfl #[.slice A0 l0.length c0, .int .i64 (Int.tmod (wrap64 (a1)) 65)] rfl (by (try simp only [List.map_toArray, List.map_cons, List.map_nil]); first | done | rfl | (simp only [List.length_drop, List.length_take]; rfl)) ?_; (with_reducible refine (bits_Pack.calls k _ _ l0 (Int.tmod (wrap64 (a1)) 65) t220 t221 _ ?side1 ?side2 A7.out).mono ?_); (case side1 => repeat (first | exact (Kd.C_below HR0.out HB.out) | (with_reducible refine Kd.C_alloc ?_ _) | (with_reducible refine Kd.C_drewN ?_ _) | (with_reducible refine Kd.C_drew ?_))); (case side2 => exact HC0.out); rintro e w19 ⟨v222, rfl, ho0, hb⟩; refine ⟨_, rfl, ?_⟩; have n0_ := Aside0.mk (Kd.R_lower ho0 (below_size (by repeat (first | (with_reducible first | exact HB.out | apply below_alloc | apply pw_below_drewN | apply below_drew1) | exact HB.out)))); have n1_ := Aside0.mk (below_step (by repeat (first | (with_reducible first | exact HB.out | apply below_alloc | apply pw_below_drewN | apply below_drew1) | exact HB.out)) hb); clear HB; have HO223 := n0_; have HB := n1_; clear n0_ n1_; (try clear hb); (try clear hb2); (try clear hk); (try clear hi); (try clear ho0); obtain ⟨Ao20, co20, eo20⟩ := Kd.R_slice HO223.out; subst eo20) | ((with_reducible refine gate_callee (f := 18) rfl ?_); refine goesL_ (some 40) rfl rfl Try.func18 (by kernel_rfl) rfl #[.slice Ao20 t220.length co20, .int .i64 (l0.length : Int), .int .i64 (Int.tmod (wrap64 (a1)) 65)] rfl (by (try simp only [List.map_toArray, List.map_cons, List.map_nil]); first | done | rfl | (simp only [List.length_drop, List.length_take]; rfl)) ?_; (with_reducible refine (bits_Unpack.calls k _ _ t220 (l0.length : Int) (Int.tmod (wrap64 (a1)) 65) t224 t225 _ ?side1 ?side2 A9.out).mono ?_); (case side1 => repeat (first | exact (Kd.R_reads' HO223.out).2.2 | (with_reducible refine Kd.C_alloc ?_ _) | (with_reducible refine Kd.C_drewN ?_ _) | (with_reducible refine Kd.C_drew ?_))); (case side2 => exact (Kd.R_reads' HO223.out).2.1); rintro e w21 ⟨v226, rfl, ho0, hb⟩; refine ⟨_, rfl, ?_⟩; have n0_ := Aside0.mk (Kd.R_below (by (with_reducible repeat (first | apply Kd.R_alloc | apply Kd.R_drewN | apply Kd.R_drew)); exact HO223.out) hb); have n1_ := Aside0.mk (Kd.R_lower ho0 (below_size (by repeat (first | (with_reducible first | exact HB.out | apply below_alloc | apply pw_below_drewN | apply below_drew1) | exact HB.out)))); have n2_ := Aside0.mk (below_step (by repeat (first | (with_reducible first | exact HB.out | apply below_alloc | apply pw_below_drewN | apply below_drew1) | exact HB.out)) hb); clear HO223; clear HB; have HO223 := n0_; have HO227 := n1_; have HB := n2_; clear n0_ n1_ n2_; (try clear hb); (try clear hb2); (try clear hk); (try clear hi); (try clear ho0); obtain ⟨Ao22, co22, eo22⟩ := Kd.R_slice HO227.out; subst eo22) | (go_at_call 14; (with_reducible refine (dragnetref03_Same.calls k _ _ l0 _ _ t224 false _ ?side1 ?side2 ?side3 ?side4 A11.out).mono ?_); (case side1 => repeat (first | exact (Kd.C_below HR0.out HB.out) | (with_reducible refine Kd.C_alloc ?_ _) | (with_reducible refine Kd.C_drewN ?_ _) | (with_reducible refine Kd.C_drew ?_))); (case side2 => exact HC0.out); (case side3 => repeat (first | exact (Kd.R_reads' HO227.out).2.2 | (with_reducible refine Kd.C_alloc ?_ _) | (with_reducible refine Kd.C_drewN ?_ _) | (with_reducible refine Kd.C_drew ?_))); (case side4 => exact (Kd.R_reads' HO227.out).2.1); rintro e w' ⟨rfl, ⟨nd, rfl⟩⟩))
            go_ret
            exact ⟨by first | rfl | (simp [errW_none, errW_some] <;> rfl) | (simp [*, errW_none, errW_some] <;> rfl), by repeat (first | (with_reducible first | exact HB.out | apply below_alloc | apply pw_below_drewN | apply below_drew1) | exact HB.out)⟩
        · rw [if_neg c10] at H
          have c10b0 : (t225 == 0) = false := beq_eq_false_iff_ne.mpr c10
          have c10b1 : (t225 != 0) = true := bne_iff_ne.mpr c10
          obtain rfl := Option.some.inj H
          go_enter Try.func7, Try.ntmps7
          go_wp2_with (first | ((with_reducible refine gate_callee (f := 9) rfl ?_); refine goesL_ (some 10) rfl rfl Try.func9 (by kernel_rfl) rfl #[] rfl (by (try simp only [List.map_toArray, List.map_cons, List.map_nil]); first | done | rfl | (simp only [List.length_drop, List.length_take]; rfl)) ?_; (with_reducible refine (dragnetlaw03_alive.calls k  true _ A3.out).mono ?_); rintro e w23 ⟨rfl, hb⟩; refine ⟨_, rfl, ?_⟩; have n0_ := Aside0.mk (below_step (by repeat (first | (with_reducible first | exact HB.out | apply below_alloc | apply pw_below_drewN | apply below_drew1) | exact HB.out)) hb); clear HB; have HB := n0_; clear n0_; (try clear hb); (try clear hb2); (try clear hk); (try clear hi)) | ((with_reducible refine gate_callee (f := 11) rfl ?_); refine goesL_ (some 21) rfl rfl Try.func11 (by kernel_rfl) rfl #[.slice A0 l0.length c0, .int .i64 (Int.tmod (wrap64 (a1)) 65)] rfl (by (try simp only [List.map_toArray, List.map_cons, List.map_nil]); first | done | rfl | (simp only [List.length_drop, List.length_take]; rfl)) ?_; (with_reducible refine (bits_Pack.calls k _ _ l0 (Int.tmod (wrap64 (a1)) 65) t220 t221 _ ?side1 ?side2 A7.out).mono ?_); (case side1 => repeat (first | exact (Kd.C_below HR0.out HB.out) | (with_reducible refine Kd.C_alloc ?_ _) | (with_reducible refine Kd.C_drewN ?_ _) | (with_reducible refine Kd.C_drew ?_))); (case side2 => exact HC0.out); rintro e w24 ⟨v222, rfl, ho0, hb⟩; refine ⟨_, rfl, ?_⟩; have n0_ := Aside0.mk (Kd.R_lower ho0 (below_size (by repeat (first | (with_reducible first | exact HB.out | apply below_alloc | apply pw_below_drewN | apply below_drew1) | exact HB.out)))); have n1_ := Aside0.mk (below_step (by repeat (first | (with_reducible first | exact HB.out | apply below_alloc | apply pw_below_drewN | apply below_drew1) | exact HB.out)) hb); clear HB; have HO223 := n0_; have HB := n1_; clear n0_ n1_; (try clear hb); (try clear hb2); (try clear hk); (try clear hi); (try clear ho0); obtain ⟨Ao25, co25, eo25⟩ := Kd.R_slice HO223.out; subst eo25) | ((with_reducible refine gate_callee (f := 18) rfl ?_); refine goesL_ (some 40) rfl rfl Try.func18 (by kernel_rfl) rfl #[.slice Ao25 t220.length co25, .int .i64 (l0.length : Int), .int .i64 (Int.tmod (wrap64 (a1)) 65)] rfl (by (try simp only [List.map_toArray, List.map_cons, List.map_nil]); first | done | rfl | (simp only [List.length_drop, List.length_take]; rfl)) ?_; (with_reducible refine (bits_Unpack.calls k _ _ t220 (l0.length : Int) (Int.tmod (wrap64 (a1)) 65) t224 t225 _ ?side1 ?side2 A9.out).mono ?_); (case side1 => repeat (first | exact (Kd.R_reads' HO223.out).2.2 | (with_reducible refine Kd.C_alloc ?_ _) | (with_reducible refine Kd.C_drewN ?_ _) | (with_reducible refine Kd.C_drew ?_))); (case side2 => exact (Kd.R_reads' HO223.out).2.1); rintro e w26 ⟨v226, rfl, ho0, hb⟩; refine ⟨_, rfl, ?_⟩; have n0_ := Aside0.mk (Kd.R_below (by (with_reducible repeat (first | apply Kd.R_alloc | apply Kd.R_drewN | apply Kd.R_drew)); exact HO223.out) hb); have n1_ := Aside0.mk (Kd.R_lower ho0 (below_size (by repeat (first | (with_reducible first | exact HB.out | apply below_alloc | apply pw_below_drewN | apply below_drew1) | exact HB.out)))); have n2_ := Aside0.mk (below_step (by repeat (first | (with_reducible first | exact HB.out | apply below_alloc | apply pw_below_drewN | apply below_drew1) | exact HB.out)) hb); clear HO223; clear HB; have HO223 := n0_; have HO227 := n1_; have HB := n2_; clear n0_ n1_ n2_; (try clear hb); (try clear hb2); (try clear hk); (try clear hi); (try clear ho0)))
          go_ret
          exact ⟨by first | rfl | (simp [errW_none, errW_some] <;> rfl) | (simp [*, errW_none, errW_some] <;> rfl), by repeat (first | (with_reducible first | exact HB.out | apply below_alloc | apply pw_below_drewN | apply below_drew1) | exact HB.out)⟩
      · rw [if_neg c8] at H
        have c8b0 : (t221 == 0) = false := beq_eq_false_iff_ne.mpr c8
        have c8b1 : (t221 != 0) = true := bne_iff_ne.mpr c8
        replace H := Option.bind_eq_some_iff.mp H
        obtain ⟨t229, A270, H⟩ := H
        replace H : (if t229 > (Int.tmod (wrap64 (a1)) 65) then (some ((t220.length : Int) == 0)) else (some false)) = some r := H
        have A27 := Aside0.mk A270
        clear A270
        by_cases c28 : t229 > (Int.tmod (wrap64 (a1)) 65)
        · rw [if_pos c28] at H
          have c28b0 : decide ((Int.tmod (wrap64 (a1)) 65) < t229) = true := decide_eq_true c28
          clear c28
          obtain rfl := Option.some.inj H
          go_enter Try.func7, Try.ntmps7
          go_wp2_with (first | ((with_reducible refine gate_callee (f := 9) rfl ?_); refine goesL_ (some 10) rfl rfl Try.func9 (by kernel_rfl) rfl #[] rfl (by (try simp only [List.map_toArray, List.map_cons, List.map_nil]); first | done | rfl | (simp only [List.length_drop, List.length_take]; rfl)) ?_; (with_reducible refine (dragnetlaw03_alive.calls k  true _ A3.out).mono ?_); rintro e w29 ⟨rfl, hb⟩; refine ⟨_, rfl, ?_⟩; have n0_ := Aside0.mk (below_step (by repeat (first | (with_reducible first | exact HB.out | apply below_alloc | apply pw_below_drewN | apply below_drew1) | exact HB.out)) hb); clear HB; have HB := n0_; clear n0_; (try clear hb); (try clear hb2); (try clear hk); (try clear hi)) | ((with_reducible refine gate_callee (f := 11) rfl ?_); refine goesL_ (some 21) rfl rfl Try.func11 (by kernel_rfl) rfl #[.slice A0 l0.length c0, .int .i64 (Int.tmod (wrap64 (a1)) 65)] rfl (by (try simp only [List.map_toArray, List.map_cons, List.map_nil]); first | done | rfl | (simp only [List.length_drop, List.length_take]; rfl)) ?_; (with_reducible refine (bits_Pack.calls k _ _ l0 (Int.tmod (wrap64 (a1)) 65) t220 t221 _ ?side1 ?side2 A7.out).mono ?_); (case side1 => repeat (first | exact (Kd.C_below HR0.out HB.out) | (with_reducible refine Kd.C_alloc ?_ _) | (with_reducible refine Kd.C_drewN ?_ _) | (with_reducible refine Kd.C_drew ?_))); (case side2 => exact HC0.out); rintro e w30 ⟨v222, rfl, ho0, hb⟩; refine ⟨_, rfl, ?_⟩; have n0_ := Aside0.mk (Kd.R_lower ho0 (below_size (by repeat (first | (with_reducible first | exact HB.out | apply below_alloc | apply pw_below_drewN | apply below_drew1) | exact HB.out)))); have n1_ := Aside0.mk (below_step (by repeat (first | (with_reducible first | exact HB.out | apply below_alloc | apply pw_below_drewN | apply below_drew1) | exact HB.out)) hb); clear HB; have HO223 := n0_; have HB := n1_; clear n0_ n1_; (try clear hb); (try clear hb2); (try clear hk); (try clear hi); (try clear ho0)) | ((with_reducible refine gate_callee (f := 15) rfl ?_); refine goesL_ (some 27) rfl rfl Try.func15 (by kernel_rfl) rfl #[.slice A0 l0.length c0] rfl (by (try simp only [List.map_toArray, List.map_cons, List.map_nil]); first | done | rfl | (simp only [List.length_drop, List.length_take]; rfl)) ?_; (with_reducible refine (bits_Width.calls k _ _ l0 t229 _ ?side1 ?side2 A27.out).mono ?_); (case side1 => repeat (first | exact (Kd.C_below HR0.out HB.out) | (with_reducible refine Kd.C_alloc ?_ _) | (with_reducible refine Kd.C_drewN ?_ _) | (with_reducible refine Kd.C_drew ?_))); (case side2 => exact HC0.out); rintro e w' ⟨rfl, ⟨nd, rfl⟩⟩; refine ⟨_, rfl, ?_⟩; obtain ⟨Ao31, co31, eo31⟩ := Kd.R_slice HO223.out; subst eo31))
          go_ret
          exact ⟨by first | rfl | (simp [errW_none, errW_some] <;> rfl) | (simp [*, errW_none, errW_some] <;> rfl), by repeat (first | (with_reducible first | exact HB.out | apply below_alloc | apply pw_below_drewN | apply below_drew1) | exact HB.out)⟩
        · rw [if_neg c28] at H
          have c28b0 : decide ((Int.tmod (wrap64 (a1)) 65) < t229) = false := decide_eq_false c28
          clear c28
          obtain rfl := Option.some.inj H
          go_enter Try.func7, Try.ntmps7
          go_wp2_with (first | ((with_reducible refine gate_callee (f := 9) rfl ?_); refine goesL_ (some 10) rfl rfl Try.func9 (by kernel_rfl) rfl #[] rfl (by (try simp only [List.map_toArray, List.map_cons, List.map_nil]); first | done | rfl | (simp only [List.length_drop, List.length_take]; rfl)) ?_; (with_reducible refine (dragnetlaw03_alive.calls k  true _ A3.out).mono ?_); rintro e w32 ⟨rfl, hb⟩; refine ⟨_, rfl, ?_⟩; have n0_ := Aside0.mk (below_step (by repeat (first | (with_reducible first | exact HB.out | apply below_alloc | apply pw_below_drewN | apply below_drew1) | exact HB.out)) hb); clear HB; have HB := n0_; clear n0_; (try clear hb); (try clear hb2); (try clear hk); (try clear hi)) | ((with_reducible refine gate_callee (f := 11) rfl ?_); refine goesL_ (some 21) rfl rfl Try.func11 (by kernel_rfl) rfl #[.slice A0 l0.length c0, .int .i64 (Int.tmod (wrap64 (a1)) 65)] rfl (by (try simp only [List.map_toArray, List.map_cons, List.map_nil]); first | done | rfl | (simp only [List.length_drop, List.length_take]; rfl)) ?_; (with_reducible refine (bits_Pack.calls k _ _ l0 (Int.tmod (wrap64 (a1)) 65) t220 t221 _ ?side1 ?side2 A7.out).mono ?_); (case side1 => repeat (first | exact (Kd.C_below HR0.out HB.out) | (with_reducible refine Kd.C_alloc ?_ _) | (with_reducible refine Kd.C_drewN ?_ _) | (with_reducible refine Kd.C_drew ?_))); (case side2 => exact HC0.out); rintro e w33 ⟨v222, rfl, ho0, hb⟩; refine ⟨_, rfl, ?_⟩; have n0_ := Aside0.mk (Kd.R_lower ho0 (below_size (by repeat (first | (with_reducible first | exact HB.out | apply below_alloc | apply pw_below_drewN | apply below_drew1) | exact HB.out)))); have n1_ := Aside0.mk (below_step (by repeat (first | (with_reducible first | exact HB.out | apply below_alloc | apply pw_below_drewN | apply below_drew1) | exact HB.out)) hb); clear HB; have HO223 := n0_; have HB := n1_; clear n0_ n1_; (try clear hb); (try clear hb2); (try clear hk); (try clear hi); (try clear ho0)) | ((with_reducible refine gate_callee (f := 15) rfl ?_); refine goesL_ (some 27) rfl rfl Try.func15 (by kernel_rfl) rfl #[.slice A0 l0.length c0] rfl (by (try simp only [List.map_toArray, List.map_cons, List.map_nil]); first | done | rfl | (simp only [List.length_drop, List.length_take]; rfl)) ?_; (with_reducible refine (bits_Width.calls k _ _ l0 t229 _ ?side1 ?side2 A27.out).mono ?_); (case side1 => repeat (first | exact (Kd.C_below HR0.out HB.out) | (with_reducible refine Kd.C_alloc ?_ _) | (with_reducible refine Kd.C_drewN ?_ _) | (with_reducible refine Kd.C_drew ?_))); (case side2 => exact HC0.out); rintro e w' ⟨rfl, ⟨nd, rfl⟩⟩; refine ⟨_, rfl, ?_⟩))
          go_ret
          exact ⟨by first | rfl | (simp [errW_none, errW_some] <;> rfl) | (simp [*, errW_none, errW_some] <;> rfl), by repeat (first | (with_reducible first | exact HB.out | apply below_alloc | apply pw_below_drewN | apply below_drew1) | exact HB.out)⟩
  · replace c4 := Bool.eq_false_iff.mpr c4
    subst c4
    have H1 : (some false) = some r := by rw [if_neg (show ¬ (false = true) by decide)] at H; exact H
    clear H
    have H := H1
    clear H1
    obtain rfl := Option.some.inj H
    go_enter Try.func7, Try.ntmps7
    go_wp2_with (first | ((with_reducible refine gate_callee (f := 9) rfl ?_); refine goesL_ (some 10) rfl rfl Try.func9 (by kernel_rfl) rfl #[] rfl (by (try simp only [List.map_toArray, List.map_cons, List.map_nil]); first | done | rfl | (simp only [List.length_drop, List.length_take]; rfl)) ?_; (with_reducible refine (dragnetlaw03_alive.calls k  false _ A3.out).mono ?_); rintro e w34 ⟨rfl, hb⟩; refine ⟨_, rfl, ?_⟩; have n0_ := Aside0.mk (below_step (by repeat (first | (with_reducible first | exact HB.out | apply below_alloc | apply pw_below_drewN | apply below_drew1) | exact HB.out)) hb); clear HB; have HB := n0_; clear n0_; (try clear hb); (try clear hb2); (try clear hk); (try clear hi)))
    go_ret
    exact ⟨by first | rfl | (simp [errW_none, errW_some] <;> rfl) | (simp [*, errW_none, errW_some] <;> rfl), by repeat (first | (with_reducible first | exact HB.out | apply below_alloc | apply pw_below_drewN | apply below_drew1) | exact HB.out)⟩

/-- THE ONE PURE STATEMENT of dragnetlaw03_BitsBack: yours. -/
def dragnetlaw03_BitsBack.Pure : Prop := ∀ (l0 : List Int) (a1 : Int), l0.length ≤ maxLen → l0.length * 8 ≤ 140737488351232 → (∀ x ∈ l0, (Lit.int .u64 x).wf = true) → (Lit.int .u8 a1).wf = true → ∃ k, dragnetlaw03_BitsBack.f k l0 a1 = some true
theorem dragnetlaw03_BitsBack.walk (P : dragnetlaw03_BitsBack.Pure) (a0 : Option Addr) (len0 cap0 : Nat) (z0 : List Int) (a1 : Int) (w : World) (w0 : (a0 = none ∧ len0 = 0 ∧ cap0 = 0 ∧ z0 = []) ∨ ∃ x, a0 = some x ∧ len0 ≤ cap0 ∧ cap0 ≤ maxLen ∧ z0.length = cap0 ∧ (∀ i, i < z0.length → w.cell? (x.add i) = some (.int .u64 (z0.getD i 0))) ∧ ∀ n ∈ z0, (Lit.int .u64 n).wf = true) (y0 : len0 * 8 ≤ 140737488351232) (w1 : (Lit.int .u8 a1).wf = true) :
    Calls Try.prog 7 #[.slice a0 len0 cap0, .int .u8 a1] w fun e w' => e = .returned (.bool true) ∧ Below w.heap.size w w' := by
  obtain ⟨l0, rfl, hr0, hm0, hw0, hc0⟩ := ReadsInt.ofRowC w0
  obtain ⟨k, h⟩ := P l0 a1 hm0 y0 hw0 w1
  refine (dragnetlaw03_BitsBack.calls k _ _ l0 a1 true w (Kd.C_of_reads (d := (0 : Int)) (h1 := fun _ => rfl) hr0) hc0 h).mono ?_
  rintro e w' ⟨rfl, hd⟩
  exact ⟨rfl, hd⟩

end Go.Proofs.Ytfghhajimiimfaa.P
