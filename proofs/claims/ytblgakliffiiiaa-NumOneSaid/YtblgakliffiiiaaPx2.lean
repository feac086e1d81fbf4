-- WRITTEN BY wip/tools/myprint.py (this session's program, over the kit's printer); Lean checks it.
import Derived.Test.YtblgakliffiiiaaPx0
import Derived.Test.YtblgakliffiiiaaPx1
namespace Go.Proofs.Ytblgakliffiiiaa.P
open Go.RowKit Go.Proofs.YtblgakliffiiiaaW.PrintWords Go.Proofs.YtblgakliffiiiaaW.PrintLast Go.Proofs.YtblgakliffiiiaaW.PrintMore
attribute [local go_sem] max2_int min2_int max_two min_two max_three min_three max_four min_four   -- for this text's walks alone
set_option linter.unusedVariables false
set_option linter.unusedSimpArgs false

/-! ### dragnetlaw02_NumFolds: function 4 -/
def dragnetlaw02_NumFolds.f (k : Nat) (a0 : Int) (a1 : Int) : Option (Bool) := (dragnetlaw02_alive.f k).bind fun t173 => (if t173 = true then ((num_Fold.f a0).bind fun t174 => ((dragnetref02_Fold.f a0).bind fun t175 => (if t174 = t175 then ((num_Unfold.f a1).bind fun t176 => ((dragnetref02_Unfold.f a1).bind fun t177 => (if t176 = t177 then ((num_Unfold.f t174).bind fun t178 => (if t178 = a0 then ((num_Fold.f t176).bind fun t179 => (some (t179 == a1))) else (some false))) else (some false)))) else (some false)))) else (some false))
theorem dragnetlaw02_NumFolds.mono : ∀ a0 a1 k, LeO (dragnetlaw02_NumFolds.f k a0 a1) (dragnetlaw02_NumFolds.f (k + 1) a0 a1) := by
  intro a0 a1 k
  unfold dragnetlaw02_NumFolds.f
  repeat' first
      | (with_reducible exact dragnetlaw02_alive.mono _)
      | (with_reducible exact LeO.refl _)
      | (with_reducible exact LeO.none _)
      | (with_reducible refine LeO.ite ?_ ?_)
      | (with_reducible refine LeO.bind ?_ (fun _ => ?_))
      | exact dragnetlaw02_alive.mono _
      | exact LeO.none _
      | refine LeO.ite ?_ ?_
      | refine LeO.bind ?_ (fun _ => ?_)
set_option maxHeartbeats 8000000 in
set_option maxRecDepth 100000 in
theorem dragnetlaw02_NumFolds.calls (k : Nat) (a0 : Int) (a1 : Int) (r : Bool) (w : World) (h : dragnetlaw02_NumFolds.f k a0 a1 = some r) :
    Calls Try.prog 4 #[.int .i64 a0, .int .u64 a1] w fun e w' => e = .returned (.bool r) ∧ Below w.heap.size w w' := by
  have HB := Aside0.mk (Below.refl w.heap.size w)
  have H : ((dragnetlaw02_alive.f k).bind fun t173 => (if t173 = true then ((num_Fold.f a0).bind fun t174 => ((dragnetref02_Fold.f a0).bind fun t175 => (if t174 = t175 then ((num_Unfold.f a1).bind fun t176 => ((dragnetref02_Unfold.f a1).bind fun t177 => (if t176 = t177 then ((num_Unfold.f t174).bind fun t178 => (if t178 = a0 then ((num_Fold.f t176).bind fun t179 => (some (t179 == a1))) else (some false))) else (some false)))) else (some false)))) else (some false))) = some r := h
  clear h
  replace H := Option.bind_eq_some_iff.mp H
  obtain ⟨t173, A30, H⟩ := H
  replace H : (if t173 = true then ((num_Fold.f a0).bind fun t174 => ((dragnetref02_Fold.f a0).bind fun t175 => (if t174 = t175 then ((num_Unfold.f a1).bind fun t176 => ((dragnetref02_Unfold.f a1).bind fun t177 => (if t176 = t177 then ((num_Unfold.f t174).bind fun t178 => (if t178 = a0 then ((num_Fold.f t176).bind fun t179 => (some (t179 == a1))) else (some false))) else (some false)))) else (some false)))) else (some false)) = some r := H
  have A3 := Aside0.mk A30
  clear A30
  by_cases c4 : t173 = true
  · subst c4
    have H1 : ((num_Fold.f a0).bind fun t174 => ((dragnetref02_Fold.f a0).bind fun t175 => (if t174 = t175 then ((num_Unfold.f a1).bind fun t176 => ((dragnetref02_Unfold.f a1).bind fun t177 => (if t176 = t177 then ((num_Unfold.f t174).bind fun t178 => (if t178 = a0 then ((num_Fold.f t176).bind fun t179 => (some (t179 == a1))) else (some false))) else (some false)))) else (some false)))) = some r := by rw [if_pos rfl] at H; exact H
    clear H
    have H := H1
    clear H1
    replace H := Option.bind_eq_some_iff.mp H
    obtain ⟨t174, A50, H⟩ := H
    replace H : ((dragnetref02_Fold.f a0).bind fun t175 => (if t174 = t175 then ((num_Unfold.f a1).bind fun t176 => ((dragnetref02_Unfold.f a1).bind fun t177 => (if t176 = t177 then ((num_Unfold.f t174).bind fun t178 => (if t178 = a0 then ((num_Fold.f t176).bind fun t179 => (some (t179 == a1))) else (some false))) else (some false)))) else (some false))) = some r := H
    have A5 := Aside0.mk A50
    clear A50
    replace H := Option.bind_eq_some_iff.mp H
    obtain ⟨t175, A60, H⟩ := H
    replace H : (if t174 = t175 then ((num_Unfold.f a1).bind fun t176 => ((dragnetref02_Unfold.f a1).bind fun t177 => (if t176 = t177 then ((num_Unfold.f t174).bind fun t178 => (if t178 = a0 then ((num_Fold.f t176).bind fun t179 => (some (t179 == a1))) else (some false))) else (some false)))) else (some false)) = some r := H
    have A6 := Aside0.mk A60
    clear A60
    by_cases c7 : t174 = t175
    · rw [if_pos c7] at H
      have c7b0 : (t174 == t175) = true := beq_iff_eq.mpr c7
      have c7b1 : (t174 != t175) = false := bne_eq_false_iff_eq.mpr c7
      clear c7
      replace H := Option.bind_eq_some_iff.mp H
      obtain ⟨t176, A80, H⟩ := H
      replace H : ((dragnetref02_Unfold.f a1).bind fun t177 => (if t176 = t177 then ((num_Unfold.f t174).bind fun t178 => (if t178 = a0 then ((num_Fold.f t176).bind fun t179 => (some (t179 == a1))) else (some false))) else (some false))) = some r := H
      have A8 := Aside0.mk A80
      clear A80
      replace H := Option.bind_eq_some_iff.mp H
      obtain ⟨t177, A90, H⟩ := H
      replace H : (if t176 = t177 then ((num_Unfold.f t174).bind fun t178 => (if t178 = a0 then ((num_Fold.f t176).bind fun t179 => (some (t179 == a1))) else (some false))) else (some false)) = some r := H
      have A9 := Aside0.mk A90
      clear A90
      by_cases c10 : t176 = t177
      · rw [if_pos c10] at H
        have c10b0 : (t176 == t177) = true := beq_iff_eq.mpr c10
        have c10b1 : (t176 != t177) = false := bne_eq_false_iff_eq.mpr c10
        clear c10
        replace H := Option.bind_eq_some_iff.mp H
        obtain ⟨t178, A110, H⟩ := H
        replace H : (if t178 = a0 then ((num_Fold.f t176).bind fun t179 => (some (t179 == a1))) else (some false)) = some r := H
        have A11 := Aside0.mk A110
        clear A110
        by_cases c12 : t178 = a0
        · rw [if_pos c12] at H
          have c12b0 : (t178 == a0) = true := beq_iff_eq.mpr c12
          have c12b1 : (t178 != a0) = false := bne_eq_false_iff_eq.mpr c12
          clear c12
          replace H := Option.bind_eq_some_iff.mp H
          obtain ⟨t179, A130, H⟩ := H
          replace H : (some (t179 == a1)) = some r := H
          have A13 := Aside0.mk A130
          clear A130
          obtain rfl := Option.some.inj H
          go_enter Try.func4, Try.ntmps4
          go_wp2_with (first | ((with_reducible refine gate_callee (f := 9) rfl ?_); refine goesL_ (some 5) rfl rfl Try.func9 (by kernel_rfl) rfl #[] rfl (by (try simp only [List.map_toArray, List.map_cons, List.map_nil]); first | done | rfl | (simp only [List.length_drop, List.length_take]; rfl)) ?_; (with_reducible refine (dragnetlaw02_alive.calls k  true _ A3.out).mono ?_); rintro e w14 ⟨rfl, hb⟩; refine ⟨_, rfl, ?_⟩; have n0_ := Aside0.mk (below_step (by repeat (first | (with_reducible first | exact HB.out | apply below_alloc | apply pw_below_drewN | apply below_drew1) | exact HB.out)) hb); clear HB; have HB := n0_; clear n0_; (try clear hb); (try clear hb2); (try clear hk); (try clear hi)) | (go_at_call 17; (with_reducible refine (num_Fold.calls a0 t174 _ A5.out).mono ?_); rintro e w' ⟨rfl, ⟨nd, rfl⟩⟩) | (go_at_call 18; (with_reducible refine (dragnetref02_Fold.calls a0 t175 _ A6.out).mono ?_); rintro e w' ⟨rfl, ⟨nd, rfl⟩⟩) | (go_at_call 19; (with_reducible refine (num_Unfold.calls a1 t176 _ A8.out).mono ?_); rintro e w' ⟨rfl, ⟨nd, rfl⟩⟩) | (go_at_call 20; (with_reducible refine (dragnetref02_Unfold.calls a1 t177 _ A9.out).mono ?_); rintro e w' ⟨rfl, ⟨nd, rfl⟩⟩) | (go_at_call 19; (with_reducible refine (num_Unfold.calls t174 t178 _ A11.out).mono ?_); rintro e w' ⟨rfl, ⟨nd, rfl⟩⟩) | (go_at_call 17; (with_reducible refine (num_Fold.calls t176 t179 _ A13.out).mono ?_); rintro e w' ⟨rfl, ⟨nd, rfl⟩⟩))
          go_ret
          exact ⟨by first | rfl | (simp [errW_none, errW_some] <;> rfl) | (simp [*, errW_none, errW_some] <;> rfl), by repeat (first | (with_reducible first | exact HB.out | apply below_alloc | apply pw_below_drewN | apply below_drew1) | exact HB.out)⟩
        · rw [if_neg c12] at H
          have c12b0 : (t178 == a0) = false := beq_eq_false_iff_ne.mpr c12
          have c12b1 : (t178 != a0) = true := bne_iff_ne.mpr c12
          obtain rfl := Option.some.inj H
          go_enter Try.func4, Try.ntmps4
          go_wp2_with (first | ((with_reducible refine gate_callee (f := 9) rfl ?_); refine goesL_ (some 5) rfl rfl Try.func9 (by kernel_rfl) rfl #[] rfl (by (try simp only [List.map_toArray, List.map_cons, List.map_nil]); first | done | rfl | (simp only [List.length_drop, List.length_take]; rfl)) ?_; (with_reducible refine (dragnetlaw02_alive.calls k  true _ A3.out).mono ?_); rintro e w15 ⟨rfl, hb⟩; refine ⟨_, rfl, ?_⟩; have n0_ := Aside0.mk (below_step (by repeat (first | (with_reducible first | exact HB.out | apply below_alloc | apply pw_below_drewN | apply below_drew1) | exact HB.out)) hb); clear HB; have HB := n0_; clear n0_; (try clear hb); (try clear hb2); (try clear hk); (try clear hi)) | (go_at_call 17; (with_reducible refine (num_Fold.calls a0 t174 _ A5.out).mono ?_); rintro e w' ⟨rfl, ⟨nd, rfl⟩⟩) | (go_at_call 18; (with_reducible refine (dragnetref02_Fold.calls a0 t175 _ A6.out).mono ?_); rintro e w' ⟨rfl, ⟨nd, rfl⟩⟩) | (go_at_call 19; (with_reducible refine (num_Unfold.calls a1 t176 _ A8.out).mono ?_); rintro e w' ⟨rfl, ⟨nd, rfl⟩⟩) | (go_at_call 20; (with_reducible refine (dragnetref02_Unfold.calls a1 t177 _ A9.out).mono ?_); rintro e w' ⟨rfl, ⟨nd, rfl⟩⟩) | (go_at_call 19; (with_reducible refine (num_Unfold.calls t174 t178 _ A11.out).mono ?_); rintro e w' ⟨rfl, ⟨nd, rfl⟩⟩))
          go_ret
          exact ⟨by first | rfl | (simp [errW_none, errW_some] <;> rfl) | (simp [*, errW_none, errW_some] <;> rfl), by repeat (first | (with_reducible first | exact HB.out | apply below_alloc | apply pw_below_drewN | apply below_drew1) | exact HB.out)⟩
      · rw [if_neg c10] at H
        have c10b0 : (t176 == t177) = false := beq_eq_false_iff_ne.mpr c10
        have c10b1 : (t176 != t177) = true := bne_iff_ne.mpr c10
        obtain rfl := Option.some.inj H
        go_enter Try.func4, Try.ntmps4
        go_wp2_with (first | ((with_reducible refine gate_callee (f := 9) rfl ?_); refine goesL_ (some 5) rfl rfl Try.func9 (by kernel_rfl) rfl #[] rfl (by (try simp only [List.map_toArray, List.map_cons, List.map_nil]); first | done | rfl | (simp only [List.length_drop, List.length_take]; rfl)) ?_; (with_reducible refine (dragnetlaw02_alive.calls k  true _ A3.out).mono ?_); rintro e w16 ⟨rfl, hb⟩; refine ⟨_, rfl, ?_⟩; have n0_ := Aside0.mk (below_step (by repeat (first | (with_reducible first | exact HB.out | apply below_alloc | apply pw_below_drewN | apply below_drew1) | exact HB.out)) hb); clear HB; have HB := n0_; clear n0_; (try clear hb); (try clear hb2); (try clear hk); (try clear hi)) | (go_at_call 17; (with_reducible refine (num_Fold.calls a0 t174 _ A5.out).mono ?_); rintro e w' ⟨rfl, ⟨nd, rfl⟩⟩) | (go_at_call 18; (with_reducible refine (dragnetref02_Fold.calls a0 t175 _ A6.out).mono ?_); rintro e w' ⟨rfl, ⟨nd, rfl⟩⟩) | (go_at_call 19; (with_reducible refine (num_Unfold.calls a1 t176 _ A8.out).mono ?_); rintro e w' ⟨rfl, ⟨nd, rfl⟩⟩) | (go_at_call 20; (with_reducible refine (dragnetref02_Unfold.calls a1 t177 _ A9.out).mono ?_); rintro e w' ⟨rfl, ⟨nd, rfl⟩⟩))
        go_ret
        exact ⟨by first | rfl | (simp [errW_none, errW_some] <;> rfl) | (simp [*, errW_none, errW_some] <;> rfl), by repeat (first | (with_reducible first | exact HB.out | apply below_alloc | apply pw_below_drewN | apply below_drew1) | exact HB.out)⟩
    · rw [if_neg c7] at H
      have c7b0 : (t174 == t175) = false := beq_eq_false_iff_ne.mpr c7
      have c7b1 : (t174 != t175) = true := bne_iff_ne.mpr c7
      obtain rfl := Option.some.inj H
      go_enter Try.func4, Try.ntmps4
      go_wp2_with (first | ((with_reducible refine gate_callee (f := 9) rfl ?_); refine goesL_ (some 5) rfl rfl Try.func9 (by kernel_rfl) rfl #[] rfl (by (try simp only [List.map_toArray, List.map_cons, List.map_nil]); first | done | rfl | (simp only [List.length_drop, List.length_take]; rfl)) ?_; (with_reducible refine (dragnetlaw02_alive.calls k  true _ A3.out).mono ?_); rintro e w17 ⟨rfl, hb⟩; refine ⟨_, rfl, ?_⟩; have n0_ := Aside0.mk (below_step (by repeat (first | (with_reducible first | exact HB.out | apply below_alloc | apply pw_below_drewN | apply below_drew1) | exact HB.out)) hb); clear HB; have HB := n0_; clear n0_; (try clear hb); (try clear hb2); (try clear hk); (try clear hi)) | (go_at_call 17; (with_reducible refine (num_Fold.calls a0 t174 _ A5.out).mono ?_); rintro e w' ⟨rfl, ⟨nd, rfl⟩⟩) | (go_at_call 18; (with_reducible refine (dragnetref02_Fold.calls a0 t175 _ A6.out).mono ?_); rintro e w' ⟨rfl, ⟨nd, rfl⟩⟩))
      go_ret
      exact ⟨by first | rfl | (simp [errW_none, errW_some] <;> rfl) | (simp [*, errW_none, errW_some] <;> rfl), by repeat (first | (with_reducible first | exact HB.out | apply below_alloc | apply pw_below_drewN | apply below_drew1) | exact HB.out)⟩
  · replace c4 := Bool.eq_false_iff.mpr c4
    subst c4
    have H1 : (some false) = some r := by rw [if_neg (show ¬ (false = true) by decide)] at H; exact H
    clear H
    have H := H1
    clear H1
    obtain rfl := Option.some.inj H
    go_enter Try.func4, Try.ntmps4
    go_wp2_with (first | ((with_reducible refine gate_callee (f := 9) rfl ?_); refine goesL_ (some 5) rfl rfl Try.func9 (by kernel_rfl) rfl #[] rfl (by (try simp only [List.map_toArray, List.map_cons, List.map_nil]); first | done | rfl | (simp only [List.length_drop, List.length_take]; rfl)) ?_; (with_reducible refine (dragnetlaw02_alive.calls k  false _ A3.out).mono ?_); rintro e w18 ⟨rfl, hb⟩; refine ⟨_, rfl, ?_⟩; have n0_ := Aside0.mk (below_step (by repeat (first | (with_reducible first | exact HB.out | apply below_alloc | apply pw_below_drewN | apply below_drew1) | exact HB.out)) hb); clear HB; have HB := n0_; clear n0_; (try clear hb); (try clear hb2); (try clear hk); (try clear hi)))
    go_ret
    exact ⟨by first | rfl | (simp [errW_none, errW_some] <;> rfl) | (simp [*, errW_none, errW_some] <;> rfl), by repeat (first | (with_reducible first | exact HB.out | apply below_alloc | apply pw_below_drewN | apply below_drew1) | exact HB.out)⟩

/-- THE ONE PURE STATEMENT of dragnetlaw02_NumFolds: yours. -/
def dragnetlaw02_NumFolds.Pure : Prop := ∀ (a0 : Int) (a1 : Int), (Lit.int .i64 a0).wf = true → (Lit.int .u64 a1).wf = true → ∃ k, dragnetlaw02_NumFolds.f k a0 a1 = some true
theorem dragnetlaw02_NumFolds.walk (P : dragnetlaw02_NumFolds.Pure) (a0 : Int) (a1 : Int) (w : World) (w0 : (Lit.int .i64 a0).wf = true) (w1 : (Lit.int .u64 a1).wf = true) :
    Calls Try.prog 4 #[.int .i64 a0, .int .u64 a1] w fun e w' => e = .returned (.bool true) ∧ Below w.heap.size w w' := by
  obtain ⟨k, h⟩ := P a0 a1 w0 w1
  refine (dragnetlaw02_NumFolds.calls k a0 a1 true w h).mono ?_
  rintro e w' ⟨rfl, hd⟩
  exact ⟨rfl, hd⟩

/-! ### num_Take: function 21 -/
def num_Take.l0 : Nat → Int → Int → List Int → Int → Int → Option (Int × Int × Int)
  | 0, _, _, _, _, _ => none
  | k + 1, x2, x5, x34, x35, x36 => if x36 < x35 then (if 0 ≤ x36 then (if x36 < (x34.length : Int) then (if 0 ≤ (wrap64 (8 * x36)) then (num_Take.l0 k (Go.bits .or .u64 x2 (shl .u64 (IntKind.u64.wrap (rd x34 x36)) (wrap64 (8 * x36)))) x5 x34 x35 (wrap64 (x36 + 1))) else (none)) else (none)) else (none)) else (if x2 ≤ 247 then (some (0, 0, 2)) else ((num_size.f x2).bind fun t188 => (if t188 < x5 then (some (0, 0, 2)) else (some (x2, wrap64 (1 + x5), 0)))))
def num_Take.f (k : Nat) (l0 : List Int) : Option (Int × Int × Int) := if (l0.length : Int) = 0 then (some (0, 0, 3)) else (if 0 < (l0.length : Int) then (if (rd l0 0) ≤ 247 then (some (IntKind.u64.wrap (rd l0 0), 1, 0)) else (if (wrap64 ((wrap64 (rd l0 0)) - 247)) > (wrap64 ((l0.length : Int) - 1)) then (some (0, 0, 3)) else (if 1 ≤ (wrap64 (1 + (wrap64 ((wrap64 (rd l0 0)) - 247)))) then (if (wrap64 (1 + (wrap64 ((wrap64 (rd l0 0)) - 247)))) ≤ (l0.length : Int) then ((some ((l0.take ((wrap64 (1 + (wrap64 ((wrap64 (rd l0 0)) - 247)))) : Int).toNat).drop 1 : List Int)).bind fun y183 => (num_Take.l0 k 0 (wrap64 ((wrap64 (rd l0 0)) - 247)) y183 (y183.length : Int) 0)) else (none)) else (none)))) else (none))
theorem num_Take.mono_l : ∀ k, (∀ y0 y1 y2 y3 y4, LeO (num_Take.l0 k y0 y1 y2 y3 y4) (num_Take.l0 (k + 1) y0 y1 y2 y3 y4))
  | 0 => fun _ _ _ _ _ r h => by simp [num_Take.l0] at h
  | k + 1 => by
    have ih0 := num_Take.mono_l k
    · intro y0 y1 y2 y3 y4
      unfold num_Take.l0
      repeat' first
      | (with_reducible exact ih0 _ _ _ _ _)
      | (with_reducible exact LeO.refl _)
      | (with_reducible exact LeO.none _)
      | (with_reducible refine LeO.ite ?_ ?_)
      | (with_reducible refine LeO.bind ?_ (fun _ => ?_))
      | exact ih0 _ _ _ _ _
      | exact LeO.none _
      | refine LeO.ite ?_ ?_
      | refine LeO.bind ?_ (fun _ => ?_)
theorem num_Take.mono : ∀ a0 k, LeO (num_Take.f k a0) (num_Take.f (k + 1) a0) := by
  intro a0 k
  have ih0 := num_Take.mono_l k
  unfold num_Take.f
  repeat' first
      | (with_reducible exact ih0 _ _ _ _ _)
      | (with_reducible exact LeO.refl _)
      | (with_reducible exact LeO.none _)
      | (with_reducible refine LeO.ite ?_ ?_)
      | (with_reducible refine LeO.bind ?_ (fun _ => ?_))
      | exact ih0 _ _ _ _ _
      | exact LeO.none _
      | refine LeO.ite ?_ ?_
      | refine LeO.bind ?_ (fun _ => ?_)
set_option maxHeartbeats 8000000 in
set_option maxRecDepth 100000 in
theorem num_Take.calls (k : Nat) (A0 : Option Addr) (c0 : Nat) (l0 : List Int) (r1 : Int) (r2 : Int) (r3 : Int) (w : World) (hr0 : Kd.C (Kd.int .u8) w A0 l0.length l0) (hc0 : l0.length ≤ c0) (h : num_Take.f k l0 = some (r1, r2, r3)) :
    Calls Try.prog 21 #[.slice A0 l0.length c0] w fun e w' => e = .returned (.tuple #[.int .u64 r1, .int .i64 r2, .int .i64 r3]) ∧ Drawn0 w w' := by
  have HR0 := Aside0.mk hr0
  have HC0 := Aside0.mk hc0
  clear hr0 hc0
  have H : (if (l0.length : Int) = 0 then (some (0, 0, 3)) else (if 0 < (l0.length : Int) then (if (rd l0 0) ≤ 247 then (some (IntKind.u64.wrap (rd l0 0), 1, 0)) else (if (wrap64 ((wrap64 (rd l0 0)) - 247)) > (wrap64 ((l0.length : Int) - 1)) then (some (0, 0, 3)) else (if 1 ≤ (wrap64 (1 + (wrap64 ((wrap64 (rd l0 0)) - 247)))) then (if (wrap64 (1 + (wrap64 ((wrap64 (rd l0 0)) - 247)))) ≤ (l0.length : Int) then ((some ((l0.take ((wrap64 (1 + (wrap64 ((wrap64 (rd l0 0)) - 247)))) : Int).toNat).drop 1 : List Int)).bind fun y183 => (num_Take.l0 k 0 (wrap64 ((wrap64 (rd l0 0)) - 247)) y183 (y183.length : Int) 0)) else (none)) else (none)))) else (none))) = some (r1, r2, r3) := h
  clear h
  by_cases c2 : (l0.length : Int) = 0
  · rw [if_pos c2] at H
    have c2b0 : ((l0.length : Int) == 0) = true := beq_iff_eq.mpr c2
    have c2b1 : ((l0.length : Int) != 0) = false := bne_eq_false_iff_eq.mpr c2
    clear c2
    simp only [Option.some.injEq, Prod.mk.injEq] at H
    obtain ⟨rfl, rfl, rfl⟩ := H
    go_enter Try.func21, Try.ntmps21
    go_wp2
    go_ret3
    exact ⟨by first | rfl | (simp; done) | (simp [*]; done), by repeat (first | exact Drawn0.refl _ | apply Drawn0.step)⟩
  · rw [if_neg c2] at H
    have c2b0 : ((l0.length : Int) == 0) = false := beq_eq_false_iff_ne.mpr c2
    have c2b1 : ((l0.length : Int) != 0) = true := bne_iff_ne.mpr c2
    have c2b2 : ¬ (l0 = []) := fun h_ => c2 (by rw [h_]; rfl)
    by_cases c3 : 0 < (l0.length : Int)
    · rw [if_pos c3] at H
      have c3b0 : decide (0 < (l0.length : Int)) = true := decide_eq_true c3
      have c3b1 : decide (0 < l0.length) = true := decide_eq_true (by omega)
      clear c3
      by_cases c4 : (rd l0 0) ≤ 247
      · rw [if_pos c4] at H
        have c4b0 : decide ((rd l0 0) ≤ 247) = true := decide_eq_true c4
        clear c4
        simp only [Option.some.injEq, Prod.mk.injEq] at H
        obtain ⟨rfl, rfl, rfl⟩ := H
        have p180 : 0 ≤ (0 : Int) := (by omega)
        have q180 : 0 < (l0.length : Int) := of_decide_eq_true (by first | (with_reducible assumption) | assumption)
        obtain ⟨ad180, e180, hx180_0⟩ := Kd.at_int HR0.out 0 p180 q180
        cases e180
        have qi180 : (0 < l0.length) = True := eq_true (by omega)
        (try rw [show ((0 : Int)).toNat = 0 from rfl] at hx180_0)
        (try rw [Addr.add_zero'] at hx180_0)
        replace p180 := eq_true p180
        replace q180 := eq_true q180
        have p181 : 0 ≤ (0 : Int) := (by omega)
        have q181 : 0 < (l0.length : Int) := of_decide_eq_true (by first | (with_reducible assumption) | assumption)
        obtain ⟨ad181, e181, hx181_0⟩ := Kd.at_int HR0.out 0 p181 q181
        obtain rfl : ad180 = ad181 := (by injection e181)
        have qi181 : (0 < l0.length) = True := eq_true (by omega)
        (try rw [show ((0 : Int)).toNat = 0 from rfl] at hx181_0)
        (try rw [Addr.add_zero'] at hx181_0)
        replace p181 := eq_true p181
        replace q181 := eq_true q181
        go_enter Try.func21, Try.ntmps21
        go_wp2
        go_ret3
        exact ⟨by first | rfl | (simp; done) | (simp [*]; done), by repeat (first | exact Drawn0.refl _ | apply Drawn0.step)⟩
      · rw [if_neg c4] at H
        have c4b0 : decide ((rd l0 0) ≤ 247) = false := decide_eq_false c4
        clear c4
        by_cases c5 : (wrap64 ((wrap64 (rd l0 0)) - 247)) > (wrap64 ((l0.length : Int) - 1))
        · rw [if_pos c5] at H
          have c5b0 : decide ((wrap64 ((l0.length : Int) - 1)) < (wrap64 ((wrap64 (rd l0 0)) - 247))) = true := decide_eq_true c5
          clear c5
          simp only [Option.some.injEq, Prod.mk.injEq] at H
          obtain ⟨rfl, rfl, rfl⟩ := H
          have p180 : 0 ≤ (0 : Int) := (by omega)
          have q180 : 0 < (l0.length : Int) := of_decide_eq_true (by first | (with_reducible assumption) | assumption)
          obtain ⟨ad180, e180, hx180_0⟩ := Kd.at_int HR0.out 0 p180 q180
          cases e180
          have qi180 : (0 < l0.length) = True := eq_true (by omega)
          (try rw [show ((0 : Int)).toNat = 0 from rfl] at hx180_0)
          (try rw [Addr.add_zero'] at hx180_0)
          replace p180 := eq_true p180
          replace q180 := eq_true q180
          have p182 : 0 ≤ (0 : Int) := (by omega)
          have q182 : 0 < (l0.length : Int) := of_decide_eq_true (by first | (with_reducible assumption) | assumption)
          obtain ⟨ad182, e182, hx182_0⟩ := Kd.at_int HR0.out 0 p182 q182
          obtain rfl : ad180 = ad182 := (by injection e182)
          have qi182 : (0 < l0.length) = True := eq_true (by omega)
          (try rw [show ((0 : Int)).toNat = 0 from rfl] at hx182_0)
          (try rw [Addr.add_zero'] at hx182_0)
          replace p182 := eq_true p182
          replace q182 := eq_true q182
          go_enter Try.func21, Try.ntmps21
          go_wp2
          go_ret3
          exact ⟨by first | rfl | (simp; done) | (simp [*]; done), by repeat (first | exact Drawn0.refl _ | apply Drawn0.step)⟩
        · rw [if_neg c5] at H
          have c5b0 : decide ((wrap64 ((l0.length : Int) - 1)) < (wrap64 ((wrap64 (rd l0 0)) - 247))) = false := decide_eq_false c5
          clear c5
          by_cases c6 : 1 ≤ (wrap64 (1 + (wrap64 ((wrap64 (rd l0 0)) - 247))))
          · rw [if_pos c6] at H
            have c6b0 := eq_true c6
            have c6b1 : decide (1 ≤ (wrap64 (1 + (wrap64 ((wrap64 (rd l0 0)) - 247))))) = true := decide_eq_true c6
            by_cases c7 : (wrap64 (1 + (wrap64 ((wrap64 (rd l0 0)) - 247)))) ≤ (l0.length : Int)
            · rw [if_pos c7] at H
              have c7b0 := eq_true c7
              have c7b1 : decide ((wrap64 (1 + (wrap64 ((wrap64 (rd l0 0)) - 247)))) ≤ (l0.length : Int)) = true := decide_eq_true c7
              obtain ⟨y183, hy183⟩ : ∃ y_ : List Int, y_ = ((l0.take ((wrap64 (1 + (wrap64 ((wrap64 (rd l0 0)) - 247)))) : Int).toNat).drop 1) := ⟨_, rfl⟩
              replace H : (num_Take.l0 k 0 (wrap64 ((wrap64 (rd l0 0)) - 247)) y183 (y183.length : Int) 0) = some (r1, r2, r3) := by first | (rw [hy183]; with_reducible exact H) | (have H2_ := (Option.bind_some _ _).symm.trans H; rw [hy183]; with_reducible exact H2_) | (have H2_ := (Option.bind_some _ _).symm.trans H; with_reducible exact H2_) | with_reducible exact H | (rw [hy183]; exact H) | exact H
              have Ny183 := Aside0.mk hy183
              clear hy183
              have H' := Aside0.mk H
              clear H
              have p180 : 0 ≤ (0 : Int) := (by omega)
              have q180 : 0 < (l0.length : Int) := of_decide_eq_true (by first | (with_reducible assumption) | assumption)
              obtain ⟨ad180, e180, hx180_0⟩ := Kd.at_int HR0.out 0 p180 q180
              cases e180
              have qi180 : (0 < l0.length) = True := eq_true (by omega)
              (try rw [show ((0 : Int)).toNat = 0 from rfl] at hx180_0)
              (try rw [Addr.add_zero'] at hx180_0)
              replace p180 := eq_true p180
              replace q180 := eq_true q180
              have p182 : 0 ≤ (0 : Int) := (by omega)
              have q182 : 0 < (l0.length : Int) := of_decide_eq_true (by first | (with_reducible assumption) | assumption)
              obtain ⟨ad182, e182, hx182_0⟩ := Kd.at_int HR0.out 0 p182 q182
              obtain rfl : ad180 = ad182 := (by injection e182)
              have qi182 : (0 < l0.length) = True := eq_true (by omega)
              (try rw [show ((0 : Int)).toNat = 0 from rfl] at hx182_0)
              (try rw [Addr.add_zero'] at hx182_0)
              replace p182 := eq_true p182
              replace q182 := eq_true q182
              have q8 : ((wrap64 (1 + (wrap64 ((wrap64 (rd l0 0)) - 247)))) : Int) ≤ ((l0.length : Int) : Int) := of_decide_eq_true (by first | (with_reducible assumption) | assumption)
              obtain ⟨i08, hi08, _, hsz8, _⟩ := info_parts info5
              have hroom8 : l0.length ≤ c0 := HC0.out
              have hC8 : Kd.C (Kd.int .u8) _ (some ad180) l0.length l0 := HR0.out
              have ql8 : (1 : Int) ≤ ((wrap64 (1 + (wrap64 ((wrap64 (rd l0 0)) - 247)))) : Int) := of_decide_eq_true (by first | (with_reducible assumption) | assumption)
              have hcut8 := cut_mid (P := Try.prog) 22 5 .i64 .i64 Try.underlying22 hi08 1 hsz8 (some ad180) l0.length c0 1 (wrap64 (1 + (wrap64 ((wrap64 (rd l0 0)) - 247)))) (by omega) ql8 q8 hroom8
              have hr8 := Kd.C_mid (lo := (1 : Int).toNat) (hi := ((wrap64 (1 + (wrap64 ((wrap64 (rd l0 0)) - 247)))) : Int).toNat) (c := c0) hC8 (by omega) (by omega) hroom8
              obtain ⟨A8, hA8⟩ : ∃ A1, A1 = (if c0 = (1 : Int).toNat then (some ad180) else ((some ad180) : Option Addr).map (·.add ((1 : Int).toNat * 1))) := ⟨_, rfl⟩
              obtain ⟨c8, hc8⟩ : ∃ c1, c1 = c0 - (1 : Int).toNat := ⟨_, rfl⟩
              have hy8 : y183.length = ((wrap64 (1 + (wrap64 ((wrap64 (rd l0 0)) - 247)))) : Int).toNat - (1 : Int).toNat := (by rw [Ny183.out, List.length_drop, List.length_take] <;> omega)
              rw [show ((l0).take ((wrap64 (1 + (wrap64 ((wrap64 (rd l0 0)) - 247)))) : Int).toNat).drop (1 : Int).toNat = y183 from Ny183.out.symm] at hr8
              replace hr8 : Kd.C (Kd.int .u8) _ A8 y183.length y183 := (by rw [hA8]; exact hr8)
              rw [← hy8, ← hA8, ← hc8] at hcut8
              have HR186 := Aside0.mk hr8
              have HC186 := Aside0.mk (show y183.length ≤ c8 from by rw [hy8, hc8]; exact Nat.sub_le_sub_right (Nat.le_trans (by omega) hroom8) _)
              clear hr8 hC8 hroom8 hi08 hsz8 hc8
              have KY8 := Aside0.mk hy8
              have KA8 := Aside0.mk hA8
              clear hy8 hA8
              replace q8 := eq_true q8
              go_enter Try.func21, Try.ntmps21
              go_wp2
              go_loopg [2, 36] k (fun kq v2 v36 w' => ∃ (x2_1 : Int) (x36_1 : Int), v2 = .int .u64 x2_1 ∧ v36 = .int .i64 x36_1 ∧ Aside0 (num_Take.l0 kq x2_1 (wrap64 ((wrap64 (rd l0 0)) - 247)) y183 (y183.length : Int) x36_1 = some (r1, r2, r3)) ∧ Aside0 (kq ≤ k) ∧ Drawn0 w w')
              case atStart => exact ⟨(0), (0), (by first | rfl | (simp; done) | (simp [*]; done)), (by first | rfl | (simp; done) | (simp [*]; done)), H', ⟨Nat.le_refl _⟩, by repeat (first | exact Drawn0.refl _ | apply Drawn0.step)⟩
              case round =>
                clear H'
                try clear c1
                try clear p1
                try clear q1
                try clear hx1
                try clear qi1
                try clear c2
                try clear c2b0
                try clear c2b1
                try clear c2b2
                try clear p2
                try clear c3
                try clear c3b0
                try clear c3b1
                try clear c4
                try clear c4b0
                try clear c5
                try clear c5b0
                try clear c6
                try clear c6b0
                try clear c6b1
                try clear p6
                try clear c7
                try clear c7b0
                try clear c7b1
                try clear c8
                try clear q8
                try clear hx180_0
                try clear hx181_0
                try clear hx182_0
                try clear p180
                try clear p181
                try clear p182
                try clear q180
                try clear q181
                try clear q182
                try clear q8
                obtain ⟨x2_1, x36_1, rfl, rfl, HA, HK1, ⟨m1, rfl⟩⟩ := hrel
                cases gk with
                | zero => exact absurd HA.out (by simp [num_Take.l0])
                | succ k1 =>
                  have H := HA.out
                  clear HA
                  simp only [num_Take.l0] at H
                  by_cases c9 : x36_1 < (y183.length : Int)
                  · rw [if_pos c9] at H
                    have c9b0 : decide (x36_1 < (y183.length : Int)) = true := decide_eq_true c9
                    clear c9
                    by_cases c10 : 0 ≤ x36_1
                    · rw [if_pos c10] at H
                      have c10b0 : decide (0 ≤ x36_1) = true := decide_eq_true c10
                      clear c10
                      by_cases c11 : x36_1 < (y183.length : Int)
                      · rw [if_pos c11] at H
                        have c11b0 : decide (x36_1 < (y183.length : Int)) = true := decide_eq_true c11
                        clear c11
                        obtain ⟨ji12, hji12⟩ : ∃ j_ : Int, (wrap64 (8 * x36_1)) = j_ := ⟨_, rfl⟩
                        replace H : (if 0 ≤ (ji12) then (num_Take.l0 k1 (Go.bits .or .u64 x2_1 (shl .u64 (IntKind.u64.wrap (rd y183 x36_1)) (ji12))) (wrap64 ((wrap64 (rd l0 0)) - 247)) y183 (y183.length : Int) (wrap64 (x36_1 + 1))) else (none)) = some (r1, r2, r3) := by first | (rw [hji12] at H; exact H) | (simp only [hji12] at H ⊢; exact H)
                        have hji12w : (IntKind.i64.wrap (8 * x36_1)) = ji12 := (i64_w _).trans hji12
                        by_cases c13 : 0 ≤ (ji12)
                        · rw [if_pos c13] at H
                          have c13b0 := eq_true c13
                          have c13b1 : decide (0 ≤ (ji12)) = true := decide_eq_true c13
                          clear c13
                          obtain ⟨ji14, hji14⟩ : ∃ j_ : Int, (shl .u64 (IntKind.u64.wrap (rd y183 x36_1)) (ji12)) = j_ := ⟨_, rfl⟩
                          replace H : (num_Take.l0 k1 (Go.bits .or .u64 x2_1 (ji14)) (wrap64 ((wrap64 (rd l0 0)) - 247)) y183 (y183.length : Int) (wrap64 (x36_1 + 1))) = some (r1, r2, r3) := by first | (rw [hji14] at H; exact H) | (simp only [hji14] at H ⊢; exact H)
                          have hji14_ : (IntKind.u64.wrap ((IntKind.u64.wrap (rd y183 x36_1)) * 2 ^ min (ji12).toNat 64)) = ji14 := hji14
                          have hji14z : (ji12) ≤ 64 → (IntKind.u64.wrap ((IntKind.u64.wrap (rd y183 x36_1)) * 2 ^ (ji12).toNat)) = ji14 := shl_small hji14
                          have H' := Aside0.mk H
                          clear H
                          have p187 : 0 ≤ (x36_1 : Int) := of_decide_eq_true (by first | (with_reducible assumption) | assumption)
                          have q187 : x36_1 < (y183.length : Int) := of_decide_eq_true (by first | (with_reducible assumption) | assumption)
                          obtain ⟨ad187, e187, hx187_0⟩ := Kd.at_int HR186.out x36_1 p187 q187
                          cases e187
                          replace p187 := eq_true p187
                          replace q187 := eq_true q187
                          go_wp2
                          go_roundg k1
                          case measure => have := HK1.out; omega
                          case rel => exact ⟨(Go.bits .or .u64 x2_1 (ji14)), (wrap64 (x36_1 + 1)), (by first | rfl | (simp; done) | (simp only [← hji14] <;> (first | rfl | simp)) | (simp [*]; done)), (by first | rfl | (simp; done) | (simp [*]; done)), H', ⟨by have := HK1.out; omega⟩, by repeat (first | exact Drawn0.refl _ | apply Drawn0.step)⟩
                        · rw [if_neg c13] at H
                          exact absurd H (by simp)
                      · rw [if_neg c11] at H
                        exact absurd H (by simp)
                    · rw [if_neg c10] at H
                      exact absurd H (by simp)
                  · rw [if_neg c9] at H
                    have c9b0 : decide (x36_1 < (y183.length : Int)) = false := decide_eq_false c9
                    clear c9
                    by_cases c15 : x2_1 ≤ 247
                    · rw [if_pos c15] at H
                      have c15b0 : decide (x2_1 ≤ 247) = true := decide_eq_true c15
                      clear c15
                      simp only [Option.some.injEq, Prod.mk.injEq] at H
                      obtain ⟨rfl, rfl, rfl⟩ := H
                      go_wp2
                      go_ret3
                      exact ⟨by first | rfl | (simp; done) | (simp [*]; done), by repeat (first | exact Drawn0.refl _ | apply Drawn0.step)⟩
                    · rw [if_neg c15] at H
                      have c15b0 : decide (x2_1 ≤ 247) = false := decide_eq_false c15
                      clear c15
                      replace H := Option.bind_eq_some_iff.mp H
                      obtain ⟨t188, A160, H⟩ := H
                      replace H : (if t188 < (wrap64 ((wrap64 (rd l0 0)) - 247)) then (some (0, 0, 2)) else (some (x2_1, wrap64 (1 + (wrap64 ((wrap64 (rd l0 0)) - 247))), 0))) = some (r1, r2, r3) := H
                      have A16 := Aside0.mk A160
                      clear A160
                      by_cases c17 : t188 < (wrap64 ((wrap64 (rd l0 0)) - 247))
                      · rw [if_pos c17] at H
                        have c17b0 : decide (t188 < (wrap64 ((wrap64 (rd l0 0)) - 247))) = true := decide_eq_true c17
                        clear c17
                        simp only [Option.some.injEq, Prod.mk.injEq] at H
                        obtain ⟨rfl, rfl, rfl⟩ := H
                        go_wp2_with (first | (go_at_call 32; (with_reducible refine (num_size.calls x2_1 t188 _ A16.out).mono ?_); rintro e w' ⟨rfl, ⟨nd, rfl⟩⟩))
                        go_ret3
                        exact ⟨by first | rfl | (simp; done) | (simp [*]; done), by repeat (first | exact Drawn0.refl _ | apply Drawn0.step)⟩
                      · rw [if_neg c17] at H
                        have c17b0 : decide (t188 < (wrap64 ((wrap64 (rd l0 0)) - 247))) = false := decide_eq_false c17
                        clear c17
                        simp only [Option.some.injEq, Prod.mk.injEq] at H
                        obtain ⟨rfl, rfl, rfl⟩ := H
                        go_wp2_with (first | (go_at_call 32; (with_reducible refine (num_size.calls x2_1 t188 _ A16.out).mono ?_); rintro e w' ⟨rfl, ⟨nd, rfl⟩⟩))
                        go_ret3
                        exact ⟨by first | rfl | (simp; done) | (simp [*]; done), by repeat (first | exact Drawn0.refl _ | apply Drawn0.step)⟩
            · rw [if_neg c7] at H
              exact absurd H (by simp)
          · rw [if_neg c6] at H
            exact absurd H (by simp)
    · rw [if_neg c3] at H
      exact absurd H (by simp)

/-! ### dragnetref02_Take: function 22 -/
def dragnetref02_Take.l0 : Nat → List Int → Int → Int → Int → Option (Int × Int × Int)
  | 0, _, _, _, _ => none
  | k + 1, x0, x5, x6, x7 => if x7 > 0 then (if 0 ≤ x7 then (if x7 < (x0.length : Int) then (dragnetref02_Take.l0 k x0 x5 (IntKind.u64.wrap ((IntKind.u64.wrap (x6 * 256)) + (IntKind.u64.wrap (rd x0 x7)))) (wrap64 (x7 - 1))) else (none)) else (none)) else ((dragnetref02_Bytes.f k x6).bind fun t193 => (if (t193.length : Int) = (wrap64 (1 + x5)) then (some (x6, wrap64 (1 + x5), 0)) else (some (0, 0, 2))))
def dragnetref02_Take.f (k : Nat) (l0 : List Int) : Option (Int × Int × Int) := if (l0.length : Int) = 0 then (some (0, 0, 3)) else (if 0 < (l0.length : Int) then (if (rd l0 0) ≤ 247 then (some (IntKind.u64.wrap (rd l0 0), 1, 0)) else (if (wrap64 ((l0.length : Int) - 1)) < (wrap64 ((wrap64 (rd l0 0)) - 247)) then (some (0, 0, 3)) else (dragnetref02_Take.l0 k l0 (wrap64 ((wrap64 (rd l0 0)) - 247)) 0 (wrap64 ((wrap64 (rd l0 0)) - 247))))) else (none))
theorem dragnetref02_Take.mono_l : ∀ k, (∀ y0 y1 y2 y3, LeO (dragnetref02_Take.l0 k y0 y1 y2 y3) (dragnetref02_Take.l0 (k + 1) y0 y1 y2 y3))
  | 0 => fun _ _ _ _ r h => by simp [dragnetref02_Take.l0] at h
  | k + 1 => by
    have ih0 := dragnetref02_Take.mono_l k
    · intro y0 y1 y2 y3
      unfold dragnetref02_Take.l0
      repeat' first
      | (with_reducible exact ih0 _ _ _ _)
      | (with_reducible exact dragnetref02_Bytes.mono _ _)
      | (with_reducible exact LeO.refl _)
      | (with_reducible exact LeO.none _)
      | (with_reducible refine LeO.ite ?_ ?_)
      | (with_reducible refine LeO.bind ?_ (fun _ => ?_))
      | exact ih0 _ _ _ _
      | exact dragnetref02_Bytes.mono _ _
      | exact LeO.none _
      | refine LeO.ite ?_ ?_
      | refine LeO.bind ?_ (fun _ => ?_)
theorem dragnetref02_Take.mono : ∀ a0 k, LeO (dragnetref02_Take.f k a0) (dragnetref02_Take.f (k + 1) a0) := by
  intro a0 k
  have ih0 := dragnetref02_Take.mono_l k
  unfold dragnetref02_Take.f
  repeat' first
      | (with_reducible exact ih0 _ _ _ _)
      | (with_reducible exact dragnetref02_Bytes.mono _ _)
      | (with_reducible exact LeO.refl _)
      | (with_reducible exact LeO.none _)
      | (with_reducible refine LeO.ite ?_ ?_)
      | (with_reducible refine LeO.bind ?_ (fun _ => ?_))
      | exact ih0 _ _ _ _
      | exact dragnetref02_Bytes.mono _ _
      | exact LeO.none _
      | refine LeO.ite ?_ ?_
      | refine LeO.bind ?_ (fun _ => ?_)
set_option maxHeartbeats 8000000 in
set_option maxRecDepth 100000 in
theorem dragnetref02_Take.calls (k : Nat) (A0 : Option Addr) (c0 : Nat) (l0 : List Int) (r1 : Int) (r2 : Int) (r3 : Int) (w : World) (hr0 : Kd.C (Kd.int .u8) w A0 l0.length l0) (hc0 : l0.length ≤ c0) (h : dragnetref02_Take.f k l0 = some (r1, r2, r3)) :
    Calls Try.prog 22 #[.slice A0 l0.length c0] w fun e w' => e = .returned (.tuple #[.int .u64 r1, .int .i64 r2, .int .i64 r3]) ∧ Below w.heap.size w w' := by
  have HR0 := Aside0.mk hr0
  have HC0 := Aside0.mk hc0
  clear hr0 hc0
  have HB := Aside0.mk (Below.refl w.heap.size w)
  have H : (if (l0.length : Int) = 0 then (some (0, 0, 3)) else (if 0 < (l0.length : Int) then (if (rd l0 0) ≤ 247 then (some (IntKind.u64.wrap (rd l0 0), 1, 0)) else (if (wrap64 ((l0.length : Int) - 1)) < (wrap64 ((wrap64 (rd l0 0)) - 247)) then (some (0, 0, 3)) else (dragnetref02_Take.l0 k l0 (wrap64 ((wrap64 (rd l0 0)) - 247)) 0 (wrap64 ((wrap64 (rd l0 0)) - 247))))) else (none))) = some (r1, r2, r3) := h
  clear h
  by_cases c2 : (l0.length : Int) = 0
  · rw [if_pos c2] at H
    have c2b0 : ((l0.length : Int) == 0) = true := beq_iff_eq.mpr c2
    have c2b1 : ((l0.length : Int) != 0) = false := bne_eq_false_iff_eq.mpr c2
    clear c2
    simp only [Option.some.injEq, Prod.mk.injEq] at H
    obtain ⟨rfl, rfl, rfl⟩ := H
    go_enter Try.func22, Try.ntmps22
    go_wp2
    go_ret3
    exact ⟨by first | rfl | (simp [errW_none, errW_some] <;> rfl) | (simp [*, errW_none, errW_some] <;> rfl), by repeat (first | (with_reducible first | exact HB.out | apply below_alloc | apply pw_below_drewN | apply below_drew1) | exact HB.out)⟩
  · rw [if_neg c2] at H
    have c2b0 : ((l0.length : Int) == 0) = false := beq_eq_false_iff_ne.mpr c2
    have c2b1 : ((l0.length : Int) != 0) = true := bne_iff_ne.mpr c2
    have c2b2 : ¬ (l0 = []) := fun h_ => c2 (by rw [h_]; rfl)
    by_cases c3 : 0 < (l0.length : Int)
    · rw [if_pos c3] at H
      have c3b0 : decide (0 < (l0.length : Int)) = true := decide_eq_true c3
      have c3b1 : decide (0 < l0.length) = true := decide_eq_true (by omega)
      clear c3
      by_cases c4 : (rd l0 0) ≤ 247
      · rw [if_pos c4] at H
        have c4b0 : decide ((rd l0 0) ≤ 247) = true := decide_eq_true c4
        clear c4
        simp only [Option.some.injEq, Prod.mk.injEq] at H
        obtain ⟨rfl, rfl, rfl⟩ := H
        have p189 : 0 ≤ (0 : Int) := (by omega)
        have q189 : 0 < (l0.length : Int) := of_decide_eq_true (by first | (with_reducible assumption) | assumption)
        obtain ⟨ad189, e189, hx189_0⟩ := Kd.at_int HR0.out 0 p189 q189
        cases e189
        have qi189 : (0 < l0.length) = True := eq_true (by omega)
        (try rw [show ((0 : Int)).toNat = 0 from rfl] at hx189_0)
        (try rw [Addr.add_zero'] at hx189_0)
        replace p189 := eq_true p189
        replace q189 := eq_true q189
        have p190 : 0 ≤ (0 : Int) := (by omega)
        have q190 : 0 < (l0.length : Int) := of_decide_eq_true (by first | (with_reducible assumption) | assumption)
        obtain ⟨ad190, e190, hx190_0⟩ := Kd.at_int HR0.out 0 p190 q190
        obtain rfl : ad189 = ad190 := (by injection e190)
        have qi190 : (0 < l0.length) = True := eq_true (by omega)
        (try rw [show ((0 : Int)).toNat = 0 from rfl] at hx190_0)
        (try rw [Addr.add_zero'] at hx190_0)
        replace p190 := eq_true p190
        replace q190 := eq_true q190
        go_enter Try.func22, Try.ntmps22
        go_wp2
        go_ret3
        exact ⟨by first | rfl | (simp [errW_none, errW_some] <;> rfl) | (simp [*, errW_none, errW_some] <;> rfl), by repeat (first | (with_reducible first | exact HB.out | apply below_alloc | apply pw_below_drewN | apply below_drew1) | exact HB.out)⟩
      · rw [if_neg c4] at H
        have c4b0 : decide ((rd l0 0) ≤ 247) = false := decide_eq_false c4
        clear c4
        by_cases c5 : (wrap64 ((l0.length : Int) - 1)) < (wrap64 ((wrap64 (rd l0 0)) - 247))
        · rw [if_pos c5] at H
          have c5b0 : decide ((wrap64 ((l0.length : Int) - 1)) < (wrap64 ((wrap64 (rd l0 0)) - 247))) = true := decide_eq_true c5
          clear c5
          simp only [Option.some.injEq, Prod.mk.injEq] at H
          obtain ⟨rfl, rfl, rfl⟩ := H
          have p189 : 0 ≤ (0 : Int) := (by omega)
          have q189 : 0 < (l0.length : Int) := of_decide_eq_true (by first | (with_reducible assumption) | assumption)
          obtain ⟨ad189, e189, hx189_0⟩ := Kd.at_int HR0.out 0 p189 q189
          cases e189
          have qi189 : (0 < l0.length) = True := eq_true (by omega)
          (try rw [show ((0 : Int)).toNat = 0 from rfl] at hx189_0)
          (try rw [Addr.add_zero'] at hx189_0)
          replace p189 := eq_true p189
          replace q189 := eq_true q189
          have p191 : 0 ≤ (0 : Int) := (by omega)
          have q191 : 0 < (l0.length : Int) := of_decide_eq_true (by first | (with_reducible assumption) | assumption)
          obtain ⟨ad191, e191, hx191_0⟩ := Kd.at_int HR0.out 0 p191 q191
          obtain rfl : ad189 = ad191 := (by injection e191)
          have qi191 : (0 < l0.length) = True := eq_true (by omega)
          (try rw [show ((0 : Int)).toNat = 0 from rfl] at hx191_0)
          (try rw [Addr.add_zero'] at hx191_0)
          replace p191 := eq_true p191
          replace q191 := eq_true q191
          go_enter Try.func22, Try.ntmps22
          go_wp2
          go_ret3
          exact ⟨by first | rfl | (simp [errW_none, errW_some] <;> rfl) | (simp [*, errW_none, errW_some] <;> rfl), by repeat (first | (with_reducible first | exact HB.out | apply below_alloc | apply pw_below_drewN | apply below_drew1) | exact HB.out)⟩
        · rw [if_neg c5] at H
          have c5b0 : decide ((wrap64 ((l0.length : Int) - 1)) < (wrap64 ((wrap64 (rd l0 0)) - 247))) = false := decide_eq_false c5
          clear c5
          have H' := Aside0.mk H
          clear H
          have p189 : 0 ≤ (0 : Int) := (by omega)
          have q189 : 0 < (l0.length : Int) := of_decide_eq_true (by first | (with_reducible assumption) | assumption)
          obtain ⟨ad189, e189, hx189_0⟩ := Kd.at_int HR0.out 0 p189 q189
          cases e189
          have qi189 : (0 < l0.length) = True := eq_true (by omega)
          (try rw [show ((0 : Int)).toNat = 0 from rfl] at hx189_0)
          (try rw [Addr.add_zero'] at hx189_0)
          replace p189 := eq_true p189
          replace q189 := eq_true q189
          have p191 : 0 ≤ (0 : Int) := (by omega)
          have q191 : 0 < (l0.length : Int) := of_decide_eq_true (by first | (with_reducible assumption) | assumption)
          obtain ⟨ad191, e191, hx191_0⟩ := Kd.at_int HR0.out 0 p191 q191
          obtain rfl : ad189 = ad191 := (by injection e191)
          have qi191 : (0 < l0.length) = True := eq_true (by omega)
          (try rw [show ((0 : Int)).toNat = 0 from rfl] at hx191_0)
          (try rw [Addr.add_zero'] at hx191_0)
          replace p191 := eq_true p191
          replace q191 := eq_true q191
          go_enter Try.func22, Try.ntmps22
          go_wp2
          go_loopg [6, 7] k (fun kq v6 v7 w' => ∃ (x6_1 : Int) (x7_1 : Int), v6 = .int .u64 x6_1 ∧ v7 = .int .i64 x7_1 ∧ Aside0 (dragnetref02_Take.l0 kq l0 (wrap64 ((wrap64 (rd l0 0)) - 247)) x6_1 x7_1 = some (r1, r2, r3)) ∧ Aside0 (kq ≤ k) ∧ Aside0 (Below w.heap.size w w'))
          case atStart => exact ⟨(0), (wrap64 ((wrap64 (rd l0 0)) - 247)), (by first | rfl | (simp; done) | (simp [*]; done)), (by first | rfl | (simp; done) | (simp [*]; done)), H', ⟨Nat.le_refl _⟩, ⟨by repeat (first | (with_reducible first | exact HB.out | apply below_alloc | apply pw_below_drewN | apply below_drew1) | exact HB.out)⟩⟩
          case round =>
            clear H'
            try clear p1
            try clear q1
            try clear hx1
            try clear qi1
            try clear c2
            try clear c2b0
            try clear c2b1
            try clear c2b2
            try clear p2
            try clear c3
            try clear c3b0
            try clear c3b1
            try clear c4
            try clear c4b0
            try clear c5
            try clear c5b0
            try clear hx189_0
            try clear hx190_0
            try clear hx191_0
            try clear p189
            try clear p190
            try clear p191
            try clear q189
            try clear q190
            try clear q191
            obtain ⟨x6_1, x7_1, rfl, rfl, HA, HK1, HB⟩ := hrel
            cases gk with
            | zero => exact absurd HA.out (by simp [dragnetref02_Take.l0])
            | succ k1 =>
              have H := HA.out
              clear HA
              simp only [dragnetref02_Take.l0] at H
              by_cases c6 : x7_1 > 0
              · rw [if_pos c6] at H
                have c6b0 : decide (0 < x7_1) = true := decide_eq_true c6
                clear c6
                by_cases c7 : 0 ≤ x7_1
                · rw [if_pos c7] at H
                  have c7b0 : decide (0 ≤ x7_1) = true := decide_eq_true c7
                  clear c7
                  by_cases c8 : x7_1 < (l0.length : Int)
                  · rw [if_pos c8] at H
                    have c8b0 : decide (x7_1 < (l0.length : Int)) = true := decide_eq_true c8
                    clear c8
                    have H' := Aside0.mk H
                    clear H
                    have p192 : 0 ≤ (x7_1 : Int) := of_decide_eq_true (by first | (with_reducible assumption) | assumption)
                    have q192 : x7_1 < (l0.length : Int) := of_decide_eq_true (by first | (with_reducible assumption) | assumption)
                    obtain ⟨ad192, e192, hx192_0⟩ := Kd.at_int HR0.out x7_1 p192 q192
                    obtain rfl : ad189 = ad192 := (by injection e192)
                    replace hx192_0 := (HB.out.cell (World.block_lt_of_cell? w _ hx192_0)).trans hx192_0
                    replace p192 := eq_true p192
                    replace q192 := eq_true q192
                    go_wp2
                    go_roundg k1
                    case measure => have := HK1.out; omega
                    case rel => exact ⟨(IntKind.u64.wrap ((IntKind.u64.wrap (x6_1 * 256)) + (IntKind.u64.wrap (rd l0 x7_1)))), (wrap64 (x7_1 - 1)), (by first | rfl | (simp; done) | (simp [*]; done)), (by first | rfl | (simp; done) | (simp [*]; done)), H', ⟨by have := HK1.out; omega⟩, ⟨by repeat (first | (with_reducible first | exact HB.out | apply below_alloc | apply pw_below_drewN | apply below_drew1) | exact HB.out)⟩⟩
                  · rw [if_neg c8] at H
                    exact absurd H (by simp)
                · rw [if_neg c7] at H
                  exact absurd H (by simp)
              · rw [if_neg c6] at H
                have c6b0 : decide (0 < x7_1) = false := decide_eq_false c6
                clear c6
                replace H := Option.bind_eq_some_iff.mp H
                obtain ⟨t193, A90, H⟩ := H
                replace H : (if (t193.length : Int) = (wrap64 (1 + (wrap64 ((wrap64 (rd l0 0)) - 247)))) then (some (x6_1, wrap64 (1 + (wrap64 ((wrap64 (rd l0 0)) - 247))), 0)) else (some (0, 0, 2))) = some (r1, r2, r3) := H
                have A9 := Aside0.mk A90
                clear A90
                by_cases c10 : (t193.length : Int) = (wrap64 (1 + (wrap64 ((wrap64 (rd l0 0)) - 247))))
                · rw [if_pos c10] at H
                  have c10b0 : ((t193.length : Int) == (wrap64 (1 + (wrap64 ((wrap64 (rd l0 0)) - 247))))) = true := beq_iff_eq.mpr c10
                  have c10b1 : ((t193.length : Int) != (wrap64 (1 + (wrap64 ((wrap64 (rd l0 0)) - 247))))) = false := bne_eq_false_iff_eq.mpr c10
                  clear c10
                  simp only [Option.some.injEq, Prod.mk.injEq] at H
                  obtain ⟨rfl, rfl, rfl⟩ := H
                  go_wp2_with (first | ((with_reducible refine gate_callee (f := 15) rfl ?_); refine goesL_ (some 43) rfl rfl Try.func15 (by kernel_rfl) rfl #[.int .u64 x6_1] rfl (by (try simp only [List.map_toArray, List.map_cons, List.map_nil]); first | done | rfl | (simp only [List.length_drop, List.length_take]; rfl)) ?_; (with_reducible refine (dragnetref02_Bytes.calls k1 x6_1 t193 _ A9.out).mono ?_); rintro e w11 ⟨v194, rfl, ho0, hb⟩; refine ⟨_, rfl, ?_⟩; have n0_ := Aside0.mk (Kd.R_lower ho0 (below_size (by repeat (first | (with_reducible first | exact HB.out | apply below_alloc | apply pw_below_drewN | apply below_drew1) | exact HB.out)))); have n1_ := Aside0.mk (below_step (by repeat (first | (with_reducible first | exact HB.out | apply below_alloc | apply pw_below_drewN | apply below_drew1) | exact HB.out)) hb); clear HB; have HO195 := n0_; have HB := n1_; clear n0_ n1_; (try clear hb); (try clear hb2); (try clear hk); (try clear hi); (try clear ho0); obtain ⟨Ao12, co12, eo12⟩ := Kd.R_slice HO195.out; subst eo12))
                  go_ret3
                  exact ⟨by first | rfl | (simp [errW_none, errW_some] <;> rfl) | (simp [*, errW_none, errW_some] <;> rfl), by repeat (first | (with_reducible first | exact HB.out | apply below_alloc | apply pw_below_drewN | apply below_drew1) | exact HB.out)⟩
                · rw [if_neg c10] at H
                  have c10b0 : ((t193.length : Int) == (wrap64 (1 + (wrap64 ((wrap64 (rd l0 0)) - 247))))) = false := beq_eq_false_iff_ne.mpr c10
                  have c10b1 : ((t193.length : Int) != (wrap64 (1 + (wrap64 ((wrap64 (rd l0 0)) - 247))))) = true := bne_iff_ne.mpr c10
                  simp only [Option.some.injEq, Prod.mk.injEq] at H
                  obtain ⟨rfl, rfl, rfl⟩ := H
                  go_wp2_with (first | ((with_reducible refine gate_callee (f := 15) rfl ?_); refine goesL_ (some 43) rfl rfl Try.func15 (by kernel_rfl) rfl #[.int .u64 x6_1] rfl (by (try simp only [List.map_toArray, List.map_cons, List.map_nil]); first | done | rfl | (simp only [List.length_drop, List.length_take]; rfl)) ?_; (with_reducible refine (dragnetref02_Bytes.calls k1 x6_1 t193 _ A9.out).mono ?_); rintro e w13 ⟨v194, rfl, ho0, hb⟩; refine ⟨_, rfl, ?_⟩; have n0_ := Aside0.mk (Kd.R_lower ho0 (below_size (by repeat (first | (with_reducible first | exact HB.out | apply below_alloc | apply pw_below_drewN | apply below_drew1) | exact HB.out)))); have n1_ := Aside0.mk (below_step (by repeat (first | (with_reducible first | exact HB.out | apply below_alloc | apply pw_below_drewN | apply below_drew1) | exact HB.out)) hb); clear HB; have HO195 := n0_; have HB := n1_; clear n0_ n1_; (try clear hb); (try clear hb2); (try clear hk); (try clear hi); (try clear ho0); obtain ⟨Ao14, co14, eo14⟩ := Kd.R_slice HO195.out; subst eo14))
                  go_ret3
                  exact ⟨by first | rfl | (simp [errW_none, errW_some] <;> rfl) | (simp [*, errW_none, errW_some] <;> rfl), by repeat (first | (with_reducible first | exact HB.out | apply below_alloc | apply pw_below_drewN | apply below_drew1) | exact HB.out)⟩
    · rw [if_neg c3] at H
      exact absurd H (by simp)

/-! ### num_TakeInt: function 23 -/
def num_TakeInt.f (k : Nat) (l0 : List Int) : Option (Int × Int × Int) := (num_Take.f k l0).bind fun bt196 => (if bt196.2.2 = 0 then ((num_Unfold.f bt196.1).bind fun t199 => (some (t199, bt196.2.1, 0))) else (some (0, 0, bt196.2.2)))
theorem num_TakeInt.mono : ∀ a0 k, LeO (num_TakeInt.f k a0) (num_TakeInt.f (k + 1) a0) := by
  intro a0 k
  unfold num_TakeInt.f
  repeat' first
      | (with_reducible exact num_Take.mono _ _)
      | (with_reducible exact LeO.refl _)
      | (with_reducible exact LeO.none _)
      | (with_reducible refine LeO.ite ?_ ?_)
      | (with_reducible refine LeO.bind ?_ (fun _ => ?_))
      | exact num_Take.mono _ _
      | exact LeO.none _
      | refine LeO.ite ?_ ?_
      | refine LeO.bind ?_ (fun _ => ?_)
set_option maxHeartbeats 8000000 in
set_option maxRecDepth 100000 in
theorem num_TakeInt.calls (k : Nat) (A0 : Option Addr) (c0 : Nat) (l0 : List Int) (r1 : Int) (r2 : Int) (r3 : Int) (w : World) (hr0 : Kd.C (Kd.int .u8) w A0 l0.length l0) (hc0 : l0.length ≤ c0) (h : num_TakeInt.f k l0 = some (r1, r2, r3)) :
    Calls Try.prog 23 #[.slice A0 l0.length c0] w fun e w' => e = .returned (.tuple #[.int .i64 r1, .int .i64 r2, .int .i64 r3]) ∧ Drawn0 w w' := by
  have HR0 := Aside0.mk hr0
  have HC0 := Aside0.mk hc0
  clear hr0 hc0
  have H : ((num_Take.f k l0).bind fun bt196 => (if bt196.2.2 = 0 then ((num_Unfold.f bt196.1).bind fun t199 => (some (t199, bt196.2.1, 0))) else (some (0, 0, bt196.2.2)))) = some (r1, r2, r3) := h
  clear h
  replace H := Option.bind_eq_some_iff.mp H
  obtain ⟨⟨t196, t197, t198⟩, A20, H⟩ := H
  replace H : (if t198 = 0 then ((num_Unfold.f t196).bind fun t199 => (some (t199, t197, 0))) else (some (0, 0, t198))) = some (r1, r2, r3) := H
  have A2 := Aside0.mk A20
  clear A20
  by_cases c3 : t198 = 0
  · rw [if_pos c3] at H
    have c3b0 : (t198 == 0) = true := beq_iff_eq.mpr c3
    have c3b1 : (t198 != 0) = false := bne_eq_false_iff_eq.mpr c3
    clear c3
    replace H := Option.bind_eq_some_iff.mp H
    obtain ⟨t199, A40, H⟩ := H
    replace H : (some (t199, t197, 0)) = some (r1, r2, r3) := H
    have A4 := Aside0.mk A40
    clear A40
    simp only [Option.some.injEq, Prod.mk.injEq] at H
    obtain ⟨rfl, rfl, rfl⟩ := H
    go_enter Try.func23, Try.ntmps23
    go_wp2_with (first | ((with_reducible refine gate_callee (f := 21) rfl ?_); refine goesL_ (some 9) rfl rfl Try.func21 (by kernel_rfl) rfl #[.slice A0 l0.length c0] rfl (by (try simp only [List.map_toArray, List.map_cons, List.map_nil]); first | done | rfl | (simp only [List.length_drop, List.length_take]; rfl)) ?_; (with_reducible refine (num_Take.calls k _ _ l0 t196 t197 t198 _ ?side1 ?side2 A2.out).mono ?_); (case side1 => repeat (first | exact HR0.out | (with_reducible refine Kd.C_alloc ?_ _) | (with_reducible refine Kd.C_drewN ?_ _) | (with_reducible refine Kd.C_drew ?_))); (case side2 => exact HC0.out); rintro e w' ⟨rfl, ⟨nd, rfl⟩⟩; refine ⟨_, rfl, ?_⟩) | ((with_reducible refine gate_callee (f := 19) rfl ?_); refine goesL_ (some 17) rfl rfl Try.func19 (by kernel_rfl) rfl #[.int .u64 t196] rfl (by (try simp only [List.map_toArray, List.map_cons, List.map_nil]); first | done | rfl | (simp only [List.length_drop, List.length_take]; rfl)) ?_; (with_reducible refine (num_Unfold.calls t196 t199 _ A4.out).mono ?_); rintro e w' ⟨rfl, ⟨nd, rfl⟩⟩; refine ⟨_, rfl, ?_⟩))
    go_ret3
    exact ⟨by first | rfl | (simp; done) | (simp [*]; done), by repeat (first | exact Drawn0.refl _ | apply Drawn0.step)⟩
  · rw [if_neg c3] at H
    have c3b0 : (t198 == 0) = false := beq_eq_false_iff_ne.mpr c3
    have c3b1 : (t198 != 0) = true := bne_iff_ne.mpr c3
    simp only [Option.some.injEq, Prod.mk.injEq] at H
    obtain ⟨rfl, rfl, rfl⟩ := H
    go_enter Try.func23, Try.ntmps23
    go_wp2_with (first | ((with_reducible refine gate_callee (f := 21) rfl ?_); refine goesL_ (some 9) rfl rfl Try.func21 (by kernel_rfl) rfl #[.slice A0 l0.length c0] rfl (by (try simp only [List.map_toArray, List.map_cons, List.map_nil]); first | done | rfl | (simp only [List.length_drop, List.length_take]; rfl)) ?_; (with_reducible refine (num_Take.calls k _ _ l0 t196 t197 t198 _ ?side1 ?side2 A2.out).mono ?_); (case side1 => repeat (first | exact HR0.out | (with_reducible refine Kd.C_alloc ?_ _) | (with_reducible refine Kd.C_drewN ?_ _) | (with_reducible refine Kd.C_drew ?_))); (case side2 => exact HC0.out); rintro e w' ⟨rfl, ⟨nd, rfl⟩⟩; refine ⟨_, rfl, ?_⟩))
    go_ret3
    exact ⟨by first | rfl | (simp; done) | (simp [*]; done), by repeat (first | exact Drawn0.refl _ | apply Drawn0.step)⟩

end Go.Proofs.Ytblgakliffiiiaa.P
