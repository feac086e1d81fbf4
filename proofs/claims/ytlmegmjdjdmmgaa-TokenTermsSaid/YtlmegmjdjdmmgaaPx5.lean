-- WRITTEN BY wip/tools/myprint.py (this session's program, over the kit's printer); Lean checks it.
import Derived.Test.YtlmegmjdjdmmgaaPx0
import Derived.Test.YtlmegmjdjdmmgaaPx1
import Derived.Test.YtlmegmjdjdmmgaaPx2
import Derived.Test.YtlmegmjdjdmmgaaPx3
import Derived.Test.YtlmegmjdjdmmgaaPx4
namespace Go.Proofs.Ytlmegmjdjdmmgaa.P
open Go.RowKit Go.Proofs.YtlmegmjdjdmmgaaW.PrintWords Go.Proofs.YtlmegmjdjdmmgaaW.PrintLast Go.Proofs.YtlmegmjdjdmmgaaW.PrintMore
attribute [local go_sem] max2_int min2_int max_two min_two max_three min_three max_four min_four   -- for this text's walks alone
set_option linter.unusedVariables false
set_option linter.unusedSimpArgs false

attribute [local go_sem high] eqA31
/-! ### dragnetlaw07_TokenJoined: function 5 -/
mutual
def dragnetlaw07_TokenJoined.l0 : Nat → List ByteArray → ByteArray → Int → Option (Bool)
  | 0, _, _, _ => none
  | k + 1, x0, x3, x4 => if x4 < (x0.length : Int) then (if 0 ≤ x4 then ((dragnetref07_Is.f k (rdOf ByteArray.empty x0 x4)).bind fun t194 => (if t194 = true then (if x3.size + (rdOf ByteArray.empty x0 x4).size ≤ 9223372036854775807 then (if (x3 ++ (rdOf ByteArray.empty x0 x4)).size + 1 ≤ 9223372036854775807 then (dragnetlaw07_TokenJoined.l0 k x0 ((x3 ++ (rdOf ByteArray.empty x0 x4)) ++ (⟨#[32]⟩ : ByteArray)) (wrap64 (x4 + 1))) else (none)) else (none)) else (some true))) else (none)) else (if (x3.size : Int) ≤ 9223372036854775807 then ((token_Cut.f (bytesOf x3)).bind fun t200 => (if (t200.length : Int) = (x0.length : Int) then (dragnetlaw07_TokenJoined.l1 k x0 t200 0) else (some false))) else (none))
def dragnetlaw07_TokenJoined.l1 : Nat → List ByteArray → List (S31) → Int → Option (Bool)
  | 0, _, _, _ => none
  | k + 1, x0, x5, x6 => if x6 < (x5.length : Int) then (if 0 ≤ x6 then (if x6 < (x0.length : Int) then (if ((rd_T31 x5 x6).f1).toList = (rdOf ByteArray.empty x0 x6).toList then (if ((rd_T31 x5 x6).f0) = x6 then (dragnetlaw07_TokenJoined.l1 k x0 x5 (wrap64 (x6 + 1))) else (some false)) else (some false)) else (none)) else (none)) else (some true)
end
def dragnetlaw07_TokenJoined.f (k : Nat) (l0 : List ByteArray) : Option (Bool) := (dragnetlaw07_alive.f k).bind fun t192 => (if t192 = true then (if (l0.length : Int) > 200 then (some true) else (dragnetlaw07_TokenJoined.l0 k l0 (⟨#[]⟩ : ByteArray) 0)) else (some false))
theorem dragnetlaw07_TokenJoined.mono_l : ∀ k, (∀ y0 y1 y2, LeO (dragnetlaw07_TokenJoined.l0 k y0 y1 y2) (dragnetlaw07_TokenJoined.l0 (k + 1) y0 y1 y2)) ∧ (∀ y0 y1 y2, LeO (dragnetlaw07_TokenJoined.l1 k y0 y1 y2) (dragnetlaw07_TokenJoined.l1 (k + 1) y0 y1 y2))
  | 0 => ⟨fun _ _ _ r h => by simp [dragnetlaw07_TokenJoined.l0] at h, fun _ _ _ r h => by simp [dragnetlaw07_TokenJoined.l1] at h⟩
  | k + 1 => by
    obtain ⟨ih0, ih1⟩ := dragnetlaw07_TokenJoined.mono_l k
    refine ⟨?_, ?_⟩
    · intro y0 y1 y2
      unfold dragnetlaw07_TokenJoined.l0
      repeat' first
      | (with_reducible exact ih0 _ _ _)
      | (with_reducible exact ih1 _ _ _)
      | (with_reducible exact dragnetlaw07_alive.mono _)
      | (with_reducible exact dragnetref07_Is.mono _ _)
      | (with_reducible exact LeO.refl _)
      | (with_reducible exact LeO.none _)
      | (with_reducible refine LeO.ite ?_ ?_)
      | (with_reducible refine LeO.bind ?_ (fun _ => ?_))
      | exact ih0 _ _ _
      | exact ih1 _ _ _
      | exact dragnetlaw07_alive.mono _
      | exact dragnetref07_Is.mono _ _
      | exact LeO.none _
      | refine LeO.ite ?_ ?_
      | refine LeO.bind ?_ (fun _ => ?_)
    · intro y0 y1 y2
      unfold dragnetlaw07_TokenJoined.l1
      repeat' first
      | (with_reducible exact ih0 _ _ _)
      | (with_reducible exact ih1 _ _ _)
      | (with_reducible exact dragnetlaw07_alive.mono _)
      | (with_reducible exact dragnetref07_Is.mono _ _)
      | (with_reducible exact LeO.refl _)
      | (with_reducible exact LeO.none _)
      | (with_reducible refine LeO.ite ?_ ?_)
      | (with_reducible refine LeO.bind ?_ (fun _ => ?_))
      | exact ih0 _ _ _
      | exact ih1 _ _ _
      | exact dragnetlaw07_alive.mono _
      | exact dragnetref07_Is.mono _ _
      | exact LeO.none _
      | refine LeO.ite ?_ ?_
      | refine LeO.bind ?_ (fun _ => ?_)
theorem dragnetlaw07_TokenJoined.mono : ∀ a0 k, LeO (dragnetlaw07_TokenJoined.f k a0) (dragnetlaw07_TokenJoined.f (k + 1) a0) := by
  intro a0 k
  obtain ⟨ih0, ih1⟩ := dragnetlaw07_TokenJoined.mono_l k
  unfold dragnetlaw07_TokenJoined.f
  repeat' first
      | (with_reducible exact ih0 _ _ _)
      | (with_reducible exact ih1 _ _ _)
      | (with_reducible exact dragnetlaw07_alive.mono _)
      | (with_reducible exact dragnetref07_Is.mono _ _)
      | (with_reducible exact LeO.refl _)
      | (with_reducible exact LeO.none _)
      | (with_reducible refine LeO.ite ?_ ?_)
      | (with_reducible refine LeO.bind ?_ (fun _ => ?_))
      | exact ih0 _ _ _
      | exact ih1 _ _ _
      | exact dragnetlaw07_alive.mono _
      | exact dragnetref07_Is.mono _ _
      | exact LeO.none _
      | refine LeO.ite ?_ ?_
      | refine LeO.bind ?_ (fun _ => ?_)
set_option maxHeartbeats 8000000 in
set_option maxRecDepth 100000 in
theorem dragnetlaw07_TokenJoined.calls (k : Nat) (A0 : Option Addr) (c0 : Nat) (l0 : List ByteArray) (r : Bool) (w : World) (hr0 : Kd.C Kd.string w A0 l0.length l0) (hc0 : l0.length ≤ c0) (h : dragnetlaw07_TokenJoined.f k l0 = some r) :
    Calls Try.prog 5 #[.slice A0 l0.length c0] w fun e w' => e = .returned (.bool r) ∧ Below w.heap.size w w' := by
  have HR0 := Aside0.mk hr0
  have HC0 := Aside0.mk hc0
  clear hr0 hc0
  have HB := Aside0.mk (Below.refl w.heap.size w)
  have H : ((dragnetlaw07_alive.f k).bind fun t192 => (if t192 = true then (if (l0.length : Int) > 200 then (some true) else (dragnetlaw07_TokenJoined.l0 k l0 (⟨#[]⟩ : ByteArray) 0)) else (some false))) = some r := h
  clear h
  replace H := Option.bind_eq_some_iff.mp H
  obtain ⟨t192, A20, H⟩ := H
  replace H : (if t192 = true then (if (l0.length : Int) > 200 then (some true) else (dragnetlaw07_TokenJoined.l0 k l0 (⟨#[]⟩ : ByteArray) 0)) else (some false)) = some r := H
  have A2 := Aside0.mk A20
  clear A20
  by_cases c3 : t192 = true
  · subst c3
    have H1 : (if (l0.length : Int) > 200 then (some true) else (dragnetlaw07_TokenJoined.l0 k l0 (⟨#[]⟩ : ByteArray) 0)) = some r := by rw [if_pos rfl] at H; exact H
    clear H
    have H := H1
    clear H1
    by_cases c4 : (l0.length : Int) > 200
    · rw [if_pos c4] at H
      have c4b0 : decide (200 < (l0.length : Int)) = true := decide_eq_true c4
      have c4b1 : decide (200 < l0.length) = true := decide_eq_true (by omega)
      clear c4
      obtain rfl := Option.some.inj H
      go_enter Try.func5, Try.ntmps5
      go_wp2_with (first | (go_at_call 9; (with_reducible refine (dragnetlaw07_alive.calls k  true _ A2.out).mono ?_); rintro e w5 ⟨rfl, hb⟩; have n0_ := Aside0.mk (below_step (by repeat (first | (with_reducible first | exact HB.out | apply below_alloc | apply pw_below_drewN | apply below_drew1) | exact HB.out)) hb); clear HB; have HB := n0_; clear n0_; (try clear hb); (try clear hb2); (try clear hk); (try clear hi)))
      repeat (go_quiet (first | (go_at_call 9; (with_reducible refine (dragnetlaw07_alive.calls k  true _ A2.out).mono ?_); rintro e w5 ⟨rfl, hb⟩; have n0_ := Aside0.mk (below_step (by repeat (first | (with_reducible first | exact HB.out | apply below_alloc | apply pw_below_drewN | apply below_drew1) | exact HB.out)) hb); clear HB; have HB := n0_; clear n0_; (try clear hb); (try clear hb2); (try clear hk); (try clear hi))); try go_wp2_with (first | (go_at_call 9; (with_reducible refine (dragnetlaw07_alive.calls k  true _ A2.out).mono ?_); rintro e w5 ⟨rfl, hb⟩; have n0_ := Aside0.mk (below_step (by repeat (first | (with_reducible first | exact HB.out | apply below_alloc | apply pw_below_drewN | apply below_drew1) | exact HB.out)) hb); clear HB; have HB := n0_; clear n0_; (try clear hb); (try clear hb2); (try clear hk); (try clear hi))))
      go_ret
      exact ⟨by first | rfl | (simp [errW_none, errW_some] <;> rfl) | (simp [*, errW_none, errW_some] <;> rfl), by repeat (first | (with_reducible first | exact HB.out | apply below_alloc | apply pw_below_drewN | apply below_drew1) | exact HB.out)⟩
    · rw [if_neg c4] at H
      have c4b0 : decide (200 < (l0.length : Int)) = false := decide_eq_false c4
      have c4b1 : decide (200 < l0.length) = false := decide_eq_false (by omega)
      clear c4
      have H' := Aside0.mk H
      clear H
      go_enter Try.func5, Try.ntmps5
      go_wp2_with (first | (go_at_call 9; (with_reducible refine (dragnetlaw07_alive.calls k  true _ A2.out).mono ?_); rintro e w6 ⟨rfl, hb⟩; have n0_ := Aside0.mk (below_step (by repeat (first | (with_reducible first | exact HB.out | apply below_alloc | apply pw_below_drewN | apply below_drew1) | exact HB.out)) hb); clear HB; have HB := n0_; clear n0_; (try clear hb); (try clear hb2); (try clear hk); (try clear hi)))
      repeat (go_quiet (first | (go_at_call 9; (with_reducible refine (dragnetlaw07_alive.calls k  true _ A2.out).mono ?_); rintro e w6 ⟨rfl, hb⟩; have n0_ := Aside0.mk (below_step (by repeat (first | (with_reducible first | exact HB.out | apply below_alloc | apply pw_below_drewN | apply below_drew1) | exact HB.out)) hb); clear HB; have HB := n0_; clear n0_; (try clear hb); (try clear hb2); (try clear hk); (try clear hi))); try go_wp2_with (first | (go_at_call 9; (with_reducible refine (dragnetlaw07_alive.calls k  true _ A2.out).mono ?_); rintro e w6 ⟨rfl, hb⟩; have n0_ := Aside0.mk (below_step (by repeat (first | (with_reducible first | exact HB.out | apply below_alloc | apply pw_below_drewN | apply below_drew1) | exact HB.out)) hb); clear HB; have HB := n0_; clear n0_; (try clear hb); (try clear hb2); (try clear hk); (try clear hi))))
      go_loopg [3, 4] k (fun kq v3 v4 w' => ∃ (x3_1 : ByteArray) (x4_1 : Int), v3 = .string x3_1 ∧ v4 = .int .i64 x4_1 ∧ Aside0 (dragnetlaw07_TokenJoined.l0 kq l0 x3_1 x4_1 = some r) ∧ Aside0 (kq ≤ k) ∧ Aside0 (Below w.heap.size w w'))
      case atStart => exact ⟨((⟨#[]⟩ : ByteArray)), (0), (by first | rfl | (simp; done) | (simp [*]; done)), (by first | rfl | (simp; done) | (simp [*]; done)), H', ⟨Nat.le_refl _⟩, ⟨by repeat (first | (with_reducible first | exact HB.out | apply below_alloc | apply pw_below_drewN | apply below_drew1) | exact HB.out)⟩⟩
      case round =>
        clear H'
        try clear p2
        try clear c3
        try clear c4
        try clear c4b0
        try clear c4b1
        try clear c5
        obtain ⟨x3_1, x4_1, rfl, rfl, HA, HK1, HB⟩ := hrel
        cases gk with
        | zero => exact absurd HA.out (by simp [dragnetlaw07_TokenJoined.l0])
        | succ k1 =>
          have H := HA.out
          clear HA
          simp only [dragnetlaw07_TokenJoined.l0] at H
          by_cases c7 : x4_1 < (l0.length : Int)
          · rw [if_pos c7] at H
            have c7b0 : decide (x4_1 < (l0.length : Int)) = true := decide_eq_true c7
            clear c7
            by_cases c8 : 0 ≤ x4_1
            · rw [if_pos c8] at H
              have c8b0 : decide (0 ≤ x4_1) = true := decide_eq_true c8
              clear c8
              replace H := Option.bind_eq_some_iff.mp H
              obtain ⟨t194, A90, H⟩ := H
              replace H : (if t194 = true then (if x3_1.size + (rdOf ByteArray.empty l0 x4_1).size ≤ 9223372036854775807 then (if (x3_1 ++ (rdOf ByteArray.empty l0 x4_1)).size + 1 ≤ 9223372036854775807 then (dragnetlaw07_TokenJoined.l0 k1 l0 ((x3_1 ++ (rdOf ByteArray.empty l0 x4_1)) ++ (⟨#[32]⟩ : ByteArray)) (wrap64 (x4_1 + 1))) else (none)) else (none)) else (some true)) = some r := H
              have A9 := Aside0.mk A90
              clear A90
              by_cases c10 : t194 = true
              · subst c10
                have H1 : (if x3_1.size + (rdOf ByteArray.empty l0 x4_1).size ≤ 9223372036854775807 then (if (x3_1 ++ (rdOf ByteArray.empty l0 x4_1)).size + 1 ≤ 9223372036854775807 then (dragnetlaw07_TokenJoined.l0 k1 l0 ((x3_1 ++ (rdOf ByteArray.empty l0 x4_1)) ++ (⟨#[32]⟩ : ByteArray)) (wrap64 (x4_1 + 1))) else (none)) else (none)) = some r := by rw [if_pos rfl] at H; exact H
                clear H
                have H := H1
                clear H1
                by_cases c11 : x3_1.size + (rdOf ByteArray.empty l0 x4_1).size ≤ 9223372036854775807
                · rw [if_pos c11] at H
                  have c11b0 := eq_true c11
                  have c11b1 : decide (x3_1.size + (rdOf ByteArray.empty l0 x4_1).size ≤ 9223372036854775807) = true := decide_eq_true c11
                  try have c11b2 : (9223372036854775807 < x3_1.size + (rdOf ByteArray.empty l0 x4_1).size) = False := eq_false (Nat.not_lt.2 c11)
                  by_cases c12 : (x3_1 ++ (rdOf ByteArray.empty l0 x4_1)).size + 1 ≤ 9223372036854775807
                  · rw [if_pos c12] at H
                    have c12b0 := eq_true c12
                    have c12b1 : decide ((x3_1 ++ (rdOf ByteArray.empty l0 x4_1)).size + 1 ≤ 9223372036854775807) = true := decide_eq_true c12
                    try have c12b3 : (9223372036854775807 < (x3_1 ++ (rdOf ByteArray.empty l0 x4_1)).size + 1) = False := eq_false (Nat.not_lt.2 c12); rw [ByteArray.size_append] at c12b3
                    try have c12b2 : (9223372036854775807 < (x3_1 ++ (rdOf ByteArray.empty l0 x4_1)).size + 1) = False := eq_false (Nat.not_lt.2 c12)
                    have H' := Aside0.mk H
                    clear H
                    have p193 : 0 ≤ (x4_1 : Int) := of_decide_eq_true (by first | (with_reducible assumption) | assumption)
                    have q193 : x4_1 < (l0.length : Int) := of_decide_eq_true (by first | (with_reducible assumption) | assumption)
                    obtain ⟨ad193, e193, hx193_0⟩ := Kd.at_string HR0.out x4_1 p193 q193
                    cases e193
                    replace hx193_0 := (HB.out.cell (World.block_lt_of_cell? w _ hx193_0)).trans hx193_0
                    replace p193 := eq_true p193
                    replace q193 := eq_true q193
                    go_wp2_with (first | (go_at_call 15; (with_reducible refine (dragnetref07_Is.calls k1 (rdOf ByteArray.empty l0 x4_1) true _ A9.out).mono ?_); rintro e w13 ⟨rfl, hb⟩; have n0_ := Aside0.mk (below_step (by repeat (first | (with_reducible first | exact HB.out | apply below_alloc | apply pw_below_drewN | apply below_drew1) | exact HB.out)) hb); clear HB; have HB := n0_; clear n0_; (try clear hb); (try clear hb2); (try clear hk); (try clear hi); have p195 : 0 ≤ (x4_1 : Int) := of_decide_eq_true (by first | (with_reducible assumption) | assumption); have q195 : x4_1 < (l0.length : Int) := of_decide_eq_true (by first | (with_reducible assumption) | assumption); obtain ⟨ad195, e195, hx195_0⟩ := Kd.at_string HR0.out x4_1 p195 q195; obtain rfl : ad193 = ad195 := (by injection e195); replace hx195_0 := (HB.out.cell (World.block_lt_of_cell? w _ hx195_0)).trans hx195_0; replace p195 := eq_true p195; replace q195 := eq_true q195))
                    repeat (go_quiet (first | (go_at_call 15; (with_reducible refine (dragnetref07_Is.calls k1 (rdOf ByteArray.empty l0 x4_1) true _ A9.out).mono ?_); rintro e w13 ⟨rfl, hb⟩; have n0_ := Aside0.mk (below_step (by repeat (first | (with_reducible first | exact HB.out | apply below_alloc | apply pw_below_drewN | apply below_drew1) | exact HB.out)) hb); clear HB; have HB := n0_; clear n0_; (try clear hb); (try clear hb2); (try clear hk); (try clear hi); have p195 : 0 ≤ (x4_1 : Int) := of_decide_eq_true (by first | (with_reducible assumption) | assumption); have q195 : x4_1 < (l0.length : Int) := of_decide_eq_true (by first | (with_reducible assumption) | assumption); obtain ⟨ad195, e195, hx195_0⟩ := Kd.at_string HR0.out x4_1 p195 q195; obtain rfl : ad193 = ad195 := (by injection e195); replace hx195_0 := (HB.out.cell (World.block_lt_of_cell? w _ hx195_0)).trans hx195_0; replace p195 := eq_true p195; replace q195 := eq_true q195)); try go_wp2_with (first | (go_at_call 15; (with_reducible refine (dragnetref07_Is.calls k1 (rdOf ByteArray.empty l0 x4_1) true _ A9.out).mono ?_); rintro e w13 ⟨rfl, hb⟩; have n0_ := Aside0.mk (below_step (by repeat (first | (with_reducible first | exact HB.out | apply below_alloc | apply pw_below_drewN | apply below_drew1) | exact HB.out)) hb); clear HB; have HB := n0_; clear n0_; (try clear hb); (try clear hb2); (try clear hk); (try clear hi); have p195 : 0 ≤ (x4_1 : Int) := of_decide_eq_true (by first | (with_reducible assumption) | assumption); have q195 : x4_1 < (l0.length : Int) := of_decide_eq_true (by first | (with_reducible assumption) | assumption); obtain ⟨ad195, e195, hx195_0⟩ := Kd.at_string HR0.out x4_1 p195 q195; obtain rfl : ad193 = ad195 := (by injection e195); replace hx195_0 := (HB.out.cell (World.block_lt_of_cell? w _ hx195_0)).trans hx195_0; replace p195 := eq_true p195; replace q195 := eq_true q195)))
                    go_roundg k1
                    case measure => have := HK1.out; omega
                    case rel => exact ⟨((x3_1 ++ (rdOf ByteArray.empty l0 x4_1)) ++ (⟨#[32]⟩ : ByteArray)), (wrap64 (x4_1 + 1)), (by first | rfl | (simp; done) | (simp [*]; done)), (by first | rfl | (simp; done) | (simp [*]; done)), H', ⟨by have := HK1.out; omega⟩, ⟨by repeat (first | (with_reducible first | exact HB.out | apply below_alloc | apply pw_below_drewN | apply below_drew1) | exact HB.out)⟩⟩
                  · rw [if_neg c12] at H
                    exact absurd H (by simp)
                · rw [if_neg c11] at H
                  exact absurd H (by simp)
              · replace c10 := Bool.eq_false_iff.mpr c10
                subst c10
                have H1 : (some true) = some r := by rw [if_neg (show ¬ (false = true) by decide)] at H; exact H
                clear H
                have H := H1
                clear H1
                obtain rfl := Option.some.inj H
                have p193 : 0 ≤ (x4_1 : Int) := of_decide_eq_true (by first | (with_reducible assumption) | assumption)
                have q193 : x4_1 < (l0.length : Int) := of_decide_eq_true (by first | (with_reducible assumption) | assumption)
                obtain ⟨ad193, e193, hx193_0⟩ := Kd.at_string HR0.out x4_1 p193 q193
                cases e193
                replace hx193_0 := (HB.out.cell (World.block_lt_of_cell? w _ hx193_0)).trans hx193_0
                replace p193 := eq_true p193
                replace q193 := eq_true q193
                go_wp2_with (first | (go_at_call 15; (with_reducible refine (dragnetref07_Is.calls k1 (rdOf ByteArray.empty l0 x4_1) false _ A9.out).mono ?_); rintro e w14 ⟨rfl, hb⟩; have n0_ := Aside0.mk (below_step (by repeat (first | (with_reducible first | exact HB.out | apply below_alloc | apply pw_below_drewN | apply below_drew1) | exact HB.out)) hb); clear HB; have HB := n0_; clear n0_; (try clear hb); (try clear hb2); (try clear hk); (try clear hi)))
                repeat (go_quiet (first | (go_at_call 15; (with_reducible refine (dragnetref07_Is.calls k1 (rdOf ByteArray.empty l0 x4_1) false _ A9.out).mono ?_); rintro e w14 ⟨rfl, hb⟩; have n0_ := Aside0.mk (below_step (by repeat (first | (with_reducible first | exact HB.out | apply below_alloc | apply pw_below_drewN | apply below_drew1) | exact HB.out)) hb); clear HB; have HB := n0_; clear n0_; (try clear hb); (try clear hb2); (try clear hk); (try clear hi))); try go_wp2_with (first | (go_at_call 15; (with_reducible refine (dragnetref07_Is.calls k1 (rdOf ByteArray.empty l0 x4_1) false _ A9.out).mono ?_); rintro e w14 ⟨rfl, hb⟩; have n0_ := Aside0.mk (below_step (by repeat (first | (with_reducible first | exact HB.out | apply below_alloc | apply pw_below_drewN | apply below_drew1) | exact HB.out)) hb); clear HB; have HB := n0_; clear n0_; (try clear hb); (try clear hb2); (try clear hk); (try clear hi))))
                go_ret
                exact ⟨by first | rfl | (simp [errW_none, errW_some] <;> rfl) | (simp [*, errW_none, errW_some] <;> rfl), by repeat (first | (with_reducible first | exact HB.out | apply below_alloc | apply pw_below_drewN | apply below_drew1) | exact HB.out)⟩
            · rw [if_neg c8] at H
              exact absurd H (by simp)
          · rw [if_neg c7] at H
            have c7b0 : decide (x4_1 < (l0.length : Int)) = false := decide_eq_false c7
            clear c7
            by_cases c15 : (x3_1.size : Int) ≤ 9223372036854775807
            · rw [if_pos c15] at H
              have c15b0 := eq_true c15
              have c15b1 : decide ((x3_1.size : Int) ≤ 9223372036854775807) = true := decide_eq_true c15
              try have c15b2 : (9223372036854775807 < (x3_1.size : Int)) = False := eq_false (Nat.not_lt.2 c15)
              clear c15
              obtain ⟨y196, hy196⟩ : ∃ y_ : List Int, y_ = (bytesOf x3_1) := ⟨_, rfl⟩
              replace H : ((token_Cut.f y196).bind fun t200 => (if (t200.length : Int) = (l0.length : Int) then (dragnetlaw07_TokenJoined.l1 k1 l0 t200 0) else (some false))) = some r := by first | (rw [hy196]; with_reducible exact H) | (have H2_ := (Option.bind_some _ _).symm.trans H; rw [hy196]; with_reducible exact H2_) | (have H2_ := (Option.bind_some _ _).symm.trans H; with_reducible exact H2_) | with_reducible exact H | (rw [hy196]; exact H) | exact H
              have Ny196 := Aside0.mk hy196
              clear hy196
              replace H := Option.bind_eq_some_iff.mp H
              obtain ⟨t200, A160, H⟩ := H
              replace H : (if (t200.length : Int) = (l0.length : Int) then (dragnetlaw07_TokenJoined.l1 k1 l0 t200 0) else (some false)) = some r := H
              have A16 := Aside0.mk A160
              clear A160
              by_cases c17 : (t200.length : Int) = (l0.length : Int)
              · rw [if_pos c17] at H
                have c17b0 : ((t200.length : Int) == (l0.length : Int)) = true := beq_iff_eq.mpr c17
                have c17b1 : ((t200.length : Int) != (l0.length : Int)) = false := bne_eq_false_iff_eq.mpr c17
                have c17b2 : (t200.length == l0.length) = true := by first | simpa using c17 | (simp at c17 ⊢; omega)
                clear c17
                have H' := Aside0.mk H
                clear H
                go_wp2_with (first | ((with_reducible refine gate_dst (N := 32) rfl ?_); refine Kd.conv_event rfl (N := 32) rfl 9 22 5 (.tmp 31) rfl Try.underlying9 Try.underlying22 Try.underlying5 x3_1 (by first | rfl | (go_simp; rfl)) y196 Ny196.out (by have h_ : (x3_1.size : Int) ≤ 9223372036854775807 := of_decide_eq_true (by first | (with_reducible assumption) | assumption); omega) ?_; intro A199 c199 w18 hcc_ hC_ hb; have n0_ := Aside0.mk (below_step (by repeat (first | (with_reducible first | exact HB.out | apply below_alloc | apply pw_below_drewN | apply below_drew1) | exact HB.out)) hb); have n1_ := Aside0.mk (hC_); have n2_ := Aside0.mk (hcc_); clear HB; have HB := n0_; have HR199 := n1_; have HC199 := n2_; clear n0_ n1_ n2_; clear hb hC_ hcc_) | (go_at_call 12; (with_reducible refine (token_Cut.calls _ _ y196 t200 _ ?side1 ?side2 A16.out).mono ?_); (case side1 => repeat (first | exact (by repeat (first | (with_reducible exact HR199.out) | (with_reducible refine Kd.C_alloc ?_ _) | (with_reducible refine Kd.C_drewN ?_ _) | (with_reducible refine Kd.C_drew ?_) | exact HR199.out)) | (with_reducible refine Kd.C_alloc ?_ _) | (with_reducible refine Kd.C_drewN ?_ _) | (with_reducible refine Kd.C_drew ?_))); (case side2 => exact HC199.out); rintro e w19 ⟨v201, rfl, ho0, hb⟩; have n0_ := Aside0.mk (Kd.R_lower ho0 (below_size (by repeat (first | (with_reducible first | exact HB.out | apply below_alloc | apply pw_below_drewN | apply below_drew1) | exact HB.out)))); have n1_ := Aside0.mk (Kd.C_below (by repeat (first | (with_reducible exact HR199.out) | (with_reducible refine Kd.C_alloc ?_ _) | (with_reducible refine Kd.C_drewN ?_ _) | (with_reducible refine Kd.C_drew ?_) | exact HR199.out)) hb); have n2_ := Aside0.mk (below_step (by repeat (first | (with_reducible first | exact HB.out | apply below_alloc | apply pw_below_drewN | apply below_drew1) | exact HB.out)) hb); clear HR199; clear HB; have HO202 := n0_; have HR199 := n1_; have HB := n2_; clear n0_ n1_ n2_; (try clear hb); (try clear hb2); (try clear hk); (try clear hi); (try clear ho0); obtain ⟨Ao20, co20, eo20⟩ := Kd.R_slice HO202.out; subst eo20))
                repeat (go_quiet (first | ((with_reducible refine gate_dst (N := 32) rfl ?_); refine Kd.conv_event rfl (N := 32) rfl 9 22 5 (.tmp 31) rfl Try.underlying9 Try.underlying22 Try.underlying5 x3_1 (by first | rfl | (go_simp; rfl)) y196 Ny196.out (by have h_ : (x3_1.size : Int) ≤ 9223372036854775807 := of_decide_eq_true (by first | (with_reducible assumption) | assumption); omega) ?_; intro A199 c199 w18 hcc_ hC_ hb; have n0_ := Aside0.mk (below_step (by repeat (first | (with_reducible first | exact HB.out | apply below_alloc | apply pw_below_drewN | apply below_drew1) | exact HB.out)) hb); have n1_ := Aside0.mk (hC_); have n2_ := Aside0.mk (hcc_); clear HB; have HB := n0_; have HR199 := n1_; have HC199 := n2_; clear n0_ n1_ n2_; clear hb hC_ hcc_) | (go_at_call 12; (with_reducible refine (token_Cut.calls _ _ y196 t200 _ ?side1 ?side2 A16.out).mono ?_); (case side1 => repeat (first | exact (by repeat (first | (with_reducible exact HR199.out) | (with_reducible refine Kd.C_alloc ?_ _) | (with_reducible refine Kd.C_drewN ?_ _) | (with_reducible refine Kd.C_drew ?_) | exact HR199.out)) | (with_reducible refine Kd.C_alloc ?_ _) | (with_reducible refine Kd.C_drewN ?_ _) | (with_reducible refine Kd.C_drew ?_))); (case side2 => exact HC199.out); rintro e w19 ⟨v201, rfl, ho0, hb⟩; have n0_ := Aside0.mk (Kd.R_lower ho0 (below_size (by repeat (first | (with_reducible first | exact HB.out | apply below_alloc | apply pw_below_drewN | apply below_drew1) | exact HB.out)))); have n1_ := Aside0.mk (Kd.C_below (by repeat (first | (with_reducible exact HR199.out) | (with_reducible refine Kd.C_alloc ?_ _) | (with_reducible refine Kd.C_drewN ?_ _) | (with_reducible refine Kd.C_drew ?_) | exact HR199.out)) hb); have n2_ := Aside0.mk (below_step (by repeat (first | (with_reducible first | exact HB.out | apply below_alloc | apply pw_below_drewN | apply below_drew1) | exact HB.out)) hb); clear HR199; clear HB; have HO202 := n0_; have HR199 := n1_; have HB := n2_; clear n0_ n1_ n2_; (try clear hb); (try clear hb2); (try clear hk); (try clear hi); (try clear ho0); obtain ⟨Ao20, co20, eo20⟩ := Kd.R_slice HO202.out; subst eo20)); try go_wp2_with (first | ((with_reducible refine gate_dst (N := 32) rfl ?_); refine Kd.conv_event rfl (N := 32) rfl 9 22 5 (.tmp 31) rfl Try.underlying9 Try.underlying22 Try.underlying5 x3_1 (by first | rfl | (go_simp; rfl)) y196 Ny196.out (by have h_ : (x3_1.size : Int) ≤ 9223372036854775807 := of_decide_eq_true (by first | (with_reducible assumption) | assumption); omega) ?_; intro A199 c199 w18 hcc_ hC_ hb; have n0_ := Aside0.mk (below_step (by repeat (first | (with_reducible first | exact HB.out | apply below_alloc | apply pw_below_drewN | apply below_drew1) | exact HB.out)) hb); have n1_ := Aside0.mk (hC_); have n2_ := Aside0.mk (hcc_); clear HB; have HB := n0_; have HR199 := n1_; have HC199 := n2_; clear n0_ n1_ n2_; clear hb hC_ hcc_) | (go_at_call 12; (with_reducible refine (token_Cut.calls _ _ y196 t200 _ ?side1 ?side2 A16.out).mono ?_); (case side1 => repeat (first | exact (by repeat (first | (with_reducible exact HR199.out) | (with_reducible refine Kd.C_alloc ?_ _) | (with_reducible refine Kd.C_drewN ?_ _) | (with_reducible refine Kd.C_drew ?_) | exact HR199.out)) | (with_reducible refine Kd.C_alloc ?_ _) | (with_reducible refine Kd.C_drewN ?_ _) | (with_reducible refine Kd.C_drew ?_))); (case side2 => exact HC199.out); rintro e w19 ⟨v201, rfl, ho0, hb⟩; have n0_ := Aside0.mk (Kd.R_lower ho0 (below_size (by repeat (first | (with_reducible first | exact HB.out | apply below_alloc | apply pw_below_drewN | apply below_drew1) | exact HB.out)))); have n1_ := Aside0.mk (Kd.C_below (by repeat (first | (with_reducible exact HR199.out) | (with_reducible refine Kd.C_alloc ?_ _) | (with_reducible refine Kd.C_drewN ?_ _) | (with_reducible refine Kd.C_drew ?_) | exact HR199.out)) hb); have n2_ := Aside0.mk (below_step (by repeat (first | (with_reducible first | exact HB.out | apply below_alloc | apply pw_below_drewN | apply below_drew1) | exact HB.out)) hb); clear HR199; clear HB; have HO202 := n0_; have HR199 := n1_; have HB := n2_; clear n0_ n1_ n2_; (try clear hb); (try clear hb2); (try clear hk); (try clear hi); (try clear ho0); obtain ⟨Ao20, co20, eo20⟩ := Kd.R_slice HO202.out; subst eo20)))
                go_loopg [6] k1 (fun kq v6 w' => ∃ (x6_2 : Int), v6 = .int .i64 x6_2 ∧ Aside0 (dragnetlaw07_TokenJoined.l1 kq l0 t200 x6_2 = some r) ∧ Aside0 (kq ≤ k1) ∧ Aside0 (Kd.R k31 31 w' w.heap.size (fun _ => True) (.slice Ao20 t200.length co20) t200) ∧ Aside0 (Kd.C (Kd.int .u8) w' (some A199) y196.length y196) ∧ Aside0 (Below w.heap.size w w'))
                case atStart => exact ⟨(0), (by first | rfl | (simp; done) | (simp [*]; done)), H', ⟨Nat.le_refl _⟩, ⟨by (with_reducible repeat (first | apply Kd.R_alloc | apply Kd.R_drewN | apply Kd.R_drew)); exact HO202.out⟩, ⟨by repeat (first | (with_reducible exact HR199.out) | (with_reducible refine Kd.C_alloc ?_ _) | (with_reducible refine Kd.C_drewN ?_ _) | (with_reducible refine Kd.C_drew ?_) | exact HR199.out)⟩, ⟨by repeat (first | (with_reducible first | exact HB.out | apply below_alloc | apply pw_below_drewN | apply below_drew1) | exact HB.out)⟩⟩
                case round =>
                  clear H'
                  try clear c1
                  try clear p1
                  try clear q1
                  try clear hx1
                  try clear p2
                  try clear c3
                  try clear c4
                  try clear c4b0
                  try clear c4b1
                  try clear c5
                  try clear p6
                  try clear c7
                  try clear c7b0
                  try clear c8
                  try clear c8b0
                  try clear c10
                  try clear c11
                  try clear c11b0
                  try clear c11b1
                  try clear c11b2
                  try clear c12
                  try clear c12b0
                  try clear c12b1
                  try clear c12b2
                  try clear c15
                  try clear c15b0
                  try clear c15b1
                  try clear c15b2
                  try clear c17
                  try clear c17b0
                  try clear c17b1
                  try clear c17b2
                  try clear c19
                  try clear p19
                  try clear q19
                  try clear hx19
                  try clear hx193_0
                  try clear hx195_0
                  try clear p193
                  try clear p195
                  try clear p2
                  try clear q193
                  try clear q195
                  obtain ⟨x6_2, rfl, HA, HK2, HO_5, HR199, HB⟩ := hrel
                  cases gk with
                  | zero => exact absurd HA.out (by simp [dragnetlaw07_TokenJoined.l1])
                  | succ k2 =>
                    have H := HA.out
                    clear HA
                    simp only [dragnetlaw07_TokenJoined.l1] at H
                    by_cases c21 : x6_2 < (t200.length : Int)
                    · rw [if_pos c21] at H
                      have c21b0 : decide (x6_2 < (t200.length : Int)) = true := decide_eq_true c21
                      clear c21
                      by_cases c22 : 0 ≤ x6_2
                      · rw [if_pos c22] at H
                        have c22b0 : decide (0 ≤ x6_2) = true := decide_eq_true c22
                        clear c22
                        by_cases c23 : x6_2 < (l0.length : Int)
                        · rw [if_pos c23] at H
                          have c23b0 : decide (x6_2 < (l0.length : Int)) = true := decide_eq_true c23
                          clear c23
                          by_cases c24 : ((rd_T31 t200 x6_2).f1).toList = (rdOf ByteArray.empty l0 x6_2).toList
                          · rw [if_pos c24] at H
                            have c24b0 : (((rd_T31 t200 x6_2).f1).toList == (rdOf ByteArray.empty l0 x6_2).toList) = true := beq_iff_eq.mpr c24
                            have c24b1 : (((rd_T31 t200 x6_2).f1).toList != (rdOf ByteArray.empty l0 x6_2).toList) = false := bne_eq_false_iff_eq.mpr c24
                            clear c24
                            by_cases c25 : ((rd_T31 t200 x6_2).f0) = x6_2
                            · rw [if_pos c25] at H
                              have c25b0 : (((rd_T31 t200 x6_2).f0) == x6_2) = true := beq_iff_eq.mpr c25
                              have c25b1 : (((rd_T31 t200 x6_2).f0) != x6_2) = false := bne_eq_false_iff_eq.mpr c25
                              clear c25
                              have H' := Aside0.mk H
                              clear H
                              have p203 : 0 ≤ (x6_2 : Int) := of_decide_eq_true (by first | (with_reducible assumption) | assumption)
                              have q203 : x6_2 < (t200.length : Int) := of_decide_eq_true (by first | (with_reducible assumption) | assumption)
                              obtain ⟨ad203, e203, hx203_0, hx203_1⟩ := at_T31 (Kd.R_reads' HO_5.out).2.2 x6_2 p203 q203
                              cases e203
                              replace p203 := eq_true p203
                              replace q203 := eq_true q203
                              have p204 : 0 ≤ (x6_2 : Int) := of_decide_eq_true (by first | (with_reducible assumption) | assumption)
                              have q204 : x6_2 < (l0.length : Int) := of_decide_eq_true (by first | (with_reducible assumption) | assumption)
                              obtain ⟨ad204, e204, hx204_0⟩ := Kd.at_string HR0.out x6_2 p204 q204
                              cases e204
                              replace hx204_0 := (HB.out.cell (World.block_lt_of_cell? w _ hx204_0)).trans hx204_0
                              replace p204 := eq_true p204
                              replace q204 := eq_true q204
                              have p205 : 0 ≤ (x6_2 : Int) := of_decide_eq_true (by first | (with_reducible assumption) | assumption)
                              have q205 : x6_2 < (t200.length : Int) := of_decide_eq_true (by first | (with_reducible assumption) | assumption)
                              obtain ⟨ad205, e205, hx205_0, hx205_1⟩ := at_T31 (Kd.R_reads' HO_5.out).2.2 x6_2 p205 q205
                              obtain rfl : ad203 = ad205 := (by injection e205)
                              replace p205 := eq_true p205
                              replace q205 := eq_true q205
                              go_wp2
                              repeat (go_quiet (fail); try go_wp2)
                              go_roundg k2
                              case measure => have := HK1.out; have := HK2.out; omega
                              case rel => exact ⟨(wrap64 (x6_2 + 1)), (by first | rfl | (simp; done) | (simp [*]; done)), H', ⟨by have := HK1.out; have := HK2.out; omega⟩, ⟨by (with_reducible repeat (first | apply Kd.R_alloc | apply Kd.R_drewN | apply Kd.R_drew)); exact HO_5.out⟩, ⟨by repeat (first | (with_reducible exact HR199.out) | (with_reducible refine Kd.C_alloc ?_ _) | (with_reducible refine Kd.C_drewN ?_ _) | (with_reducible refine Kd.C_drew ?_) | exact HR199.out)⟩, ⟨by repeat (first | (with_reducible first | exact HB.out | apply below_alloc | apply pw_below_drewN | apply below_drew1) | exact HB.out)⟩⟩
                            · rw [if_neg c25] at H
                              have c25b0 : (((rd_T31 t200 x6_2).f0) == x6_2) = false := beq_eq_false_iff_ne.mpr c25
                              have c25b1 : (((rd_T31 t200 x6_2).f0) != x6_2) = true := bne_iff_ne.mpr c25
                              obtain rfl := Option.some.inj H
                              have p203 : 0 ≤ (x6_2 : Int) := of_decide_eq_true (by first | (with_reducible assumption) | assumption)
                              have q203 : x6_2 < (t200.length : Int) := of_decide_eq_true (by first | (with_reducible assumption) | assumption)
                              obtain ⟨ad203, e203, hx203_0, hx203_1⟩ := at_T31 (Kd.R_reads' HO_5.out).2.2 x6_2 p203 q203
                              cases e203
                              replace p203 := eq_true p203
                              replace q203 := eq_true q203
                              have p204 : 0 ≤ (x6_2 : Int) := of_decide_eq_true (by first | (with_reducible assumption) | assumption)
                              have q204 : x6_2 < (l0.length : Int) := of_decide_eq_true (by first | (with_reducible assumption) | assumption)
                              obtain ⟨ad204, e204, hx204_0⟩ := Kd.at_string HR0.out x6_2 p204 q204
                              cases e204
                              replace hx204_0 := (HB.out.cell (World.block_lt_of_cell? w _ hx204_0)).trans hx204_0
                              replace p204 := eq_true p204
                              replace q204 := eq_true q204
                              have p205 : 0 ≤ (x6_2 : Int) := of_decide_eq_true (by first | (with_reducible assumption) | assumption)
                              have q205 : x6_2 < (t200.length : Int) := of_decide_eq_true (by first | (with_reducible assumption) | assumption)
                              obtain ⟨ad205, e205, hx205_0, hx205_1⟩ := at_T31 (Kd.R_reads' HO_5.out).2.2 x6_2 p205 q205
                              obtain rfl : ad203 = ad205 := (by injection e205)
                              replace p205 := eq_true p205
                              replace q205 := eq_true q205
                              go_wp2
                              repeat (go_quiet (fail); try go_wp2)
                              go_ret
                              exact ⟨by first | rfl | (simp [errW_none, errW_some] <;> rfl) | (simp [*, errW_none, errW_some] <;> rfl), by repeat (first | (with_reducible first | exact HB.out | apply below_alloc | apply pw_below_drewN | apply below_drew1) | exact HB.out)⟩
                          · rw [if_neg c24] at H
                            have c24b0 : (((rd_T31 t200 x6_2).f1).toList == (rdOf ByteArray.empty l0 x6_2).toList) = false := beq_eq_false_iff_ne.mpr c24
                            have c24b1 : (((rd_T31 t200 x6_2).f1).toList != (rdOf ByteArray.empty l0 x6_2).toList) = true := bne_iff_ne.mpr c24
                            obtain rfl := Option.some.inj H
                            have p203 : 0 ≤ (x6_2 : Int) := of_decide_eq_true (by first | (with_reducible assumption) | assumption)
                            have q203 : x6_2 < (t200.length : Int) := of_decide_eq_true (by first | (with_reducible assumption) | assumption)
                            obtain ⟨ad203, e203, hx203_0, hx203_1⟩ := at_T31 (Kd.R_reads' HO_5.out).2.2 x6_2 p203 q203
                            cases e203
                            replace p203 := eq_true p203
                            replace q203 := eq_true q203
                            have p204 : 0 ≤ (x6_2 : Int) := of_decide_eq_true (by first | (with_reducible assumption) | assumption)
                            have q204 : x6_2 < (l0.length : Int) := of_decide_eq_true (by first | (with_reducible assumption) | assumption)
                            obtain ⟨ad204, e204, hx204_0⟩ := Kd.at_string HR0.out x6_2 p204 q204
                            cases e204
                            replace hx204_0 := (HB.out.cell (World.block_lt_of_cell? w _ hx204_0)).trans hx204_0
                            replace p204 := eq_true p204
                            replace q204 := eq_true q204
                            go_wp2
                            repeat (go_quiet (fail); try go_wp2)
                            go_ret
                            exact ⟨by first | rfl | (simp [errW_none, errW_some] <;> rfl) | (simp [*, errW_none, errW_some] <;> rfl), by repeat (first | (with_reducible first | exact HB.out | apply below_alloc | apply pw_below_drewN | apply below_drew1) | exact HB.out)⟩
                        · rw [if_neg c23] at H
                          exact absurd H (by simp)
                      · rw [if_neg c22] at H
                        exact absurd H (by simp)
                    · rw [if_neg c21] at H
                      have c21b0 : decide (x6_2 < (t200.length : Int)) = false := decide_eq_false c21
                      clear c21
                      obtain rfl := Option.some.inj H
                      go_wp2
                      repeat (go_quiet (fail); try go_wp2)
                      go_ret
                      exact ⟨by first | rfl | (simp [errW_none, errW_some] <;> rfl) | (simp [*, errW_none, errW_some] <;> rfl), by repeat (first | (with_reducible first | exact HB.out | apply below_alloc | apply pw_below_drewN | apply below_drew1) | exact HB.out)⟩
              · rw [if_neg c17] at H
                have c17b0 : ((t200.length : Int) == (l0.length : Int)) = false := beq_eq_false_iff_ne.mpr c17
                have c17b1 : ((t200.length : Int) != (l0.length : Int)) = true := bne_iff_ne.mpr c17
                have c17b2 : (t200.length == l0.length) = false := by first | simpa using c17 | (simp at c17 ⊢; omega)
                obtain rfl := Option.some.inj H
                go_wp2_with (first | ((with_reducible refine gate_dst (N := 32) rfl ?_); refine Kd.conv_event rfl (N := 32) rfl 9 22 5 (.tmp 31) rfl Try.underlying9 Try.underlying22 Try.underlying5 x3_1 (by first | rfl | (go_simp; rfl)) y196 Ny196.out (by have h_ : (x3_1.size : Int) ≤ 9223372036854775807 := of_decide_eq_true (by first | (with_reducible assumption) | assumption); omega) ?_; intro A199 c199 w26 hcc_ hC_ hb; have n0_ := Aside0.mk (below_step (by repeat (first | (with_reducible first | exact HB.out | apply below_alloc | apply pw_below_drewN | apply below_drew1) | exact HB.out)) hb); have n1_ := Aside0.mk (hC_); have n2_ := Aside0.mk (hcc_); clear HB; have HB := n0_; have HR199 := n1_; have HC199 := n2_; clear n0_ n1_ n2_; clear hb hC_ hcc_) | (go_at_call 12; (with_reducible refine (token_Cut.calls _ _ y196 t200 _ ?side1 ?side2 A16.out).mono ?_); (case side1 => repeat (first | exact (by repeat (first | (with_reducible exact HR199.out) | (with_reducible refine Kd.C_alloc ?_ _) | (with_reducible refine Kd.C_drewN ?_ _) | (with_reducible refine Kd.C_drew ?_) | exact HR199.out)) | (with_reducible refine Kd.C_alloc ?_ _) | (with_reducible refine Kd.C_drewN ?_ _) | (with_reducible refine Kd.C_drew ?_))); (case side2 => exact HC199.out); rintro e w27 ⟨v201, rfl, ho0, hb⟩; have n0_ := Aside0.mk (Kd.R_lower ho0 (below_size (by repeat (first | (with_reducible first | exact HB.out | apply below_alloc | apply pw_below_drewN | apply below_drew1) | exact HB.out)))); have n1_ := Aside0.mk (Kd.C_below (by repeat (first | (with_reducible exact HR199.out) | (with_reducible refine Kd.C_alloc ?_ _) | (with_reducible refine Kd.C_drewN ?_ _) | (with_reducible refine Kd.C_drew ?_) | exact HR199.out)) hb); have n2_ := Aside0.mk (below_step (by repeat (first | (with_reducible first | exact HB.out | apply below_alloc | apply pw_below_drewN | apply below_drew1) | exact HB.out)) hb); clear HR199; clear HB; have HO202 := n0_; have HR199 := n1_; have HB := n2_; clear n0_ n1_ n2_; (try clear hb); (try clear hb2); (try clear hk); (try clear hi); (try clear ho0); obtain ⟨Ao28, co28, eo28⟩ := Kd.R_slice HO202.out; subst eo28))
                repeat (go_quiet (first | ((with_reducible refine gate_dst (N := 32) rfl ?_); refine Kd.conv_event rfl (N := 32) rfl 9 22 5 (.tmp 31) rfl Try.underlying9 Try.underlying22 Try.underlying5 x3_1 (by first | rfl | (go_simp; rfl)) y196 Ny196.out (by have h_ : (x3_1.size : Int) ≤ 9223372036854775807 := of_decide_eq_true (by first | (with_reducible assumption) | assumption); omega) ?_; intro A199 c199 w26 hcc_ hC_ hb; have n0_ := Aside0.mk (below_step (by repeat (first | (with_reducible first | exact HB.out | apply below_alloc | apply pw_below_drewN | apply below_drew1) | exact HB.out)) hb); have n1_ := Aside0.mk (hC_); have n2_ := Aside0.mk (hcc_); clear HB; have HB := n0_; have HR199 := n1_; have HC199 := n2_; clear n0_ n1_ n2_; clear hb hC_ hcc_) | (go_at_call 12; (with_reducible refine (token_Cut.calls _ _ y196 t200 _ ?side1 ?side2 A16.out).mono ?_); (case side1 => repeat (first | exact (by repeat (first | (with_reducible exact HR199.out) | (with_reducible refine Kd.C_alloc ?_ _) | (with_reducible refine Kd.C_drewN ?_ _) | (with_reducible refine Kd.C_drew ?_) | exact HR199.out)) | (with_reducible refine Kd.C_alloc ?_ _) | (with_reducible refine Kd.C_drewN ?_ _) | (with_reducible refine Kd.C_drew ?_))); (case side2 => exact HC199.out); rintro e w27 ⟨v201, rfl, ho0, hb⟩; have n0_ := Aside0.mk (Kd.R_lower ho0 (below_size (by repeat (first | (with_reducible first | exact HB.out | apply below_alloc | apply pw_below_drewN | apply below_drew1) | exact HB.out)))); have n1_ := Aside0.mk (Kd.C_below (by repeat (first | (with_reducible exact HR199.out) | (with_reducible refine Kd.C_alloc ?_ _) | (with_reducible refine Kd.C_drewN ?_ _) | (with_reducible refine Kd.C_drew ?_) | exact HR199.out)) hb); have n2_ := Aside0.mk (below_step (by repeat (first | (with_reducible first | exact HB.out | apply below_alloc | apply pw_below_drewN | apply below_drew1) | exact HB.out)) hb); clear HR199; clear HB; have HO202 := n0_; have HR199 := n1_; have HB := n2_; clear n0_ n1_ n2_; (try clear hb); (try clear hb2); (try clear hk); (try clear hi); (try clear ho0); obtain ⟨Ao28, co28, eo28⟩ := Kd.R_slice HO202.out; subst eo28)); try go_wp2_with (first | ((with_reducible refine gate_dst (N := 32) rfl ?_); refine Kd.conv_event rfl (N := 32) rfl 9 22 5 (.tmp 31) rfl Try.underlying9 Try.underlying22 Try.underlying5 x3_1 (by first | rfl | (go_simp; rfl)) y196 Ny196.out (by have h_ : (x3_1.size : Int) ≤ 9223372036854775807 := of_decide_eq_true (by first | (with_reducible assumption) | assumption); omega) ?_; intro A199 c199 w26 hcc_ hC_ hb; have n0_ := Aside0.mk (below_step (by repeat (first | (with_reducible first | exact HB.out | apply below_alloc | apply pw_below_drewN | apply below_drew1) | exact HB.out)) hb); have n1_ := Aside0.mk (hC_); have n2_ := Aside0.mk (hcc_); clear HB; have HB := n0_; have HR199 := n1_; have HC199 := n2_; clear n0_ n1_ n2_; clear hb hC_ hcc_) | (go_at_call 12; (with_reducible refine (token_Cut.calls _ _ y196 t200 _ ?side1 ?side2 A16.out).mono ?_); (case side1 => repeat (first | exact (by repeat (first | (with_reducible exact HR199.out) | (with_reducible refine Kd.C_alloc ?_ _) | (with_reducible refine Kd.C_drewN ?_ _) | (with_reducible refine Kd.C_drew ?_) | exact HR199.out)) | (with_reducible refine Kd.C_alloc ?_ _) | (with_reducible refine Kd.C_drewN ?_ _) | (with_reducible refine Kd.C_drew ?_))); (case side2 => exact HC199.out); rintro e w27 ⟨v201, rfl, ho0, hb⟩; have n0_ := Aside0.mk (Kd.R_lower ho0 (below_size (by repeat (first | (with_reducible first | exact HB.out | apply below_alloc | apply pw_below_drewN | apply below_drew1) | exact HB.out)))); have n1_ := Aside0.mk (Kd.C_below (by repeat (first | (with_reducible exact HR199.out) | (with_reducible refine Kd.C_alloc ?_ _) | (with_reducible refine Kd.C_drewN ?_ _) | (with_reducible refine Kd.C_drew ?_) | exact HR199.out)) hb); have n2_ := Aside0.mk (below_step (by repeat (first | (with_reducible first | exact HB.out | apply below_alloc | apply pw_below_drewN | apply below_drew1) | exact HB.out)) hb); clear HR199; clear HB; have HO202 := n0_; have HR199 := n1_; have HB := n2_; clear n0_ n1_ n2_; (try clear hb); (try clear hb2); (try clear hk); (try clear hi); (try clear ho0); obtain ⟨Ao28, co28, eo28⟩ := Kd.R_slice HO202.out; subst eo28)))
                go_ret
                exact ⟨by first | rfl | (simp [errW_none, errW_some] <;> rfl) | (simp [*, errW_none, errW_some] <;> rfl), by repeat (first | (with_reducible first | exact HB.out | apply below_alloc | apply pw_below_drewN | apply below_drew1) | exact HB.out)⟩
            · rw [if_neg c15] at H
              exact absurd H (by simp)
  · replace c3 := Bool.eq_false_iff.mpr c3
    subst c3
    have H1 : (some false) = some r := by rw [if_neg (show ¬ (false = true) by decide)] at H; exact H
    clear H
    have H := H1
    clear H1
    obtain rfl := Option.some.inj H
    go_enter Try.func5, Try.ntmps5
    go_wp2_with (first | (go_at_call 9; (with_reducible refine (dragnetlaw07_alive.calls k  false _ A2.out).mono ?_); rintro e w29 ⟨rfl, hb⟩; have n0_ := Aside0.mk (below_step (by repeat (first | (with_reducible first | exact HB.out | apply below_alloc | apply pw_below_drewN | apply below_drew1) | exact HB.out)) hb); clear HB; have HB := n0_; clear n0_; (try clear hb); (try clear hb2); (try clear hk); (try clear hi)))
    repeat (go_quiet (first | (go_at_call 9; (with_reducible refine (dragnetlaw07_alive.calls k  false _ A2.out).mono ?_); rintro e w29 ⟨rfl, hb⟩; have n0_ := Aside0.mk (below_step (by repeat (first | (with_reducible first | exact HB.out | apply below_alloc | apply pw_below_drewN | apply below_drew1) | exact HB.out)) hb); clear HB; have HB := n0_; clear n0_; (try clear hb); (try clear hb2); (try clear hk); (try clear hi))); try go_wp2_with (first | (go_at_call 9; (with_reducible refine (dragnetlaw07_alive.calls k  false _ A2.out).mono ?_); rintro e w29 ⟨rfl, hb⟩; have n0_ := Aside0.mk (below_step (by repeat (first | (with_reducible first | exact HB.out | apply below_alloc | apply pw_below_drewN | apply below_drew1) | exact HB.out)) hb); clear HB; have HB := n0_; clear n0_; (try clear hb); (try clear hb2); (try clear hk); (try clear hi))))
    go_ret
    exact ⟨by first | rfl | (simp [errW_none, errW_some] <;> rfl) | (simp [*, errW_none, errW_some] <;> rfl), by repeat (first | (with_reducible first | exact HB.out | apply below_alloc | apply pw_below_drewN | apply below_drew1) | exact HB.out)⟩

/-! ### token_Lower: function 17 -/
def token_Lower.f (a0 : ByteArray) : Option (ByteArray) := if a0.size ≤ 140737488355328 then some (strOfNums ((bytesOf a0).map lowB)) else none
theorem token_Lower.low {c : Int} (h0 : 0 ≤ c) (h1 : c ≤ 255) : token_lower.f c = some (lowB c) := by
  unfold token_lower.f lowB
  by_cases h : 65 ≤ c
  · rw [if_pos h]
    by_cases h2 : c ≤ 90
    · rw [if_pos h2, if_pos ⟨h, h2⟩, show (c + 32) % 256 = c + 32 by omega]
    · rw [if_neg h2, if_neg (fun e => h2 e.2)]
  · rw [if_neg h, if_neg (fun e => h e.1)]
set_option maxHeartbeats 8000000 in
set_option maxRecDepth 100000 in
theorem token_Lower.calls (a0 : ByteArray) (r : ByteArray) (w : World) (h : token_Lower.f a0 = some r) :
    Calls Try.prog 17 #[.string a0] w fun e w' => e = .returned (.string r) ∧ Below w.heap.size w w' := by
  unfold token_Lower.f at h
  by_cases hs : a0.size ≤ 140737488355328
  · rw [if_pos hs] at h
    obtain rfl := Option.some.inj h
    clear h
    obtain ⟨l, hl⟩ : ∃ l, l = bytesOf a0 := ⟨_, rfl⟩
    have hn : l.length = a0.size := by rw [hl]; exact bytesOf_length a0
    have Nl := Aside0.mk hl
    have Hn := Aside0.mk hn
    rw [← hl]
    clear hl hn
    go_enter Try.func17, Try.ntmps17
    go_wp2_with (first | ((with_reducible refine gate_dst (N := 7) rfl ?_); refine crow_event rfl (N := 7) rfl 9 22 5 (.tmp 6) rfl Try.underlying9 Try.underlying22 Try.underlying5 a0 rfl ?_; intro g fr c w1 hg hc hrow hb; rw [← Nl.out] at hrow; have HR := Aside0.mk hrow; have HB := Aside0.mk hb; have HG := Aside0.mk hg; have HC := Aside0.mk hc; clear hg hc hrow hb))
    go_loopw [10] (fun v10 w' => ∃ k : Nat, k ≤ a0.size ∧ v10 = .int .i64 k ∧ Aside0 (CRow w' g fr 5 ((l.take k).map lowB ++ l.drop k)) ∧ Aside0 (Below w.heap.size w w')) (fun v10 _ => match v10 with | .int _ q => a0.size - q.toNat | _ => 0)
    case atStart => exact ⟨0, Nat.zero_le _, rfl, ⟨by simpa using HR.out⟩, HB⟩
    case round =>
      clear HR HB
      obtain ⟨k, hk, rfl, HR, HB⟩ := hrel
      by_cases hlt : k < a0.size
      · have hlen : k < ((l.take k).map lowB ++ l.drop k).length := by
          have := Hn.out
          simp only [List.length_append, List.length_map, List.length_take, List.length_drop]; omega
        have hcell := HR.out.cell k hlen
        have hfr := HR.out.frozen k hlen
        rw [lowB_rd l k (by have := Hn.out; omega)] at hcell
        have hby := bytesOf_byte a0 k
        rw [← Nl.out] at hby
        have Hlow := Aside0.mk (token_Lower.low hby.1 hby.2)
        obtain ⟨x, hx⟩ : ∃ x, x = l.getD k 0 := ⟨_, rfl⟩
        rw [← hx] at hcell Hlow
        have Hx := Aside0.mk hx
        clear hx hby hlen
        go_wp2_with (first | (go_at_call 23; (with_reducible refine (token_lower.calls x (lowB x) _ Hlow.out).mono ?_); rintro e w2 ⟨rfl, ⟨nd, rfl⟩⟩))
        go_roundw
        case rel =>
          refine ⟨k + 1, by omega, by go_num, ⟨?_⟩, ⟨?_⟩⟩
          · have h5 := (HR.out.drewN nd).put k (lowB x)
            rw [show ((l.take k).map lowB ++ l.drop k).set k (lowB x) = (l.take (k + 1)).map lowB ++ l.drop (k + 1) from by rw [Hx.out]; exact lowB_at l k (by have := Hn.out; omega)] at h5
            exact h5
          · exact below_set (pw_below_drewN HB.out nd) HG.out
        case measure => simp; omega
      · have hke : k = a0.size := by omega
        have hall : (l.take k).map lowB ++ l.drop k = l.map lowB := by
          have := Hn.out
          rw [List.take_of_length_le (by omega), List.drop_of_length_le (by omega), List.append_nil]
        have hconv := string_of_reads (P := Try.prog) (src := 22) (dst := 9) (c := c) Try.underlying22 Try.underlying5 Try.underlying9 (HR.out.reads (by have := Hn.out; rw [hall, List.length_map]; omega))
        rw [hall, List.length_map, Hn.out] at hconv
        clear hall hke
        go_wp2
        go_ret
        exact ⟨rfl, HB.out⟩
  · rw [if_neg hs] at h; cases h

/-! ### dragnetlaw07_TokenIs: function 6 -/
def dragnetlaw07_TokenIs.f (k : Nat) (a0 : ByteArray) : Option (Bool) := (dragnetlaw07_alive.f k).bind fun t206 => (if t206 = true then (if (a0.size : Int) ≤ 9223372036854775807 then ((token_Cut.f (bytesOf a0)).bind fun t211 => ((token_Is.f k a0).bind fun t214 => ((dragnetref07_Is.f k a0).bind fun t215 => (if (t214 == t215) = true then ((token_Lower.f a0).bind fun t216 => ((dragnetref07_Lower.f a0).bind fun t217 => (if t216.toList = t217.toList then (if t214 = true then (if (t211.length : Int) = 1 then (if 0 < (t211.length : Int) then (some (((rd_T31 t211 0).f0) == 0 && ((((rd_T31 t211 0).f1).toList) == a0.toList))) else (none)) else (some false)) else (some true)) else (some false)))) else (some false))))) else (none)) else (some false))
theorem dragnetlaw07_TokenIs.mono : ∀ a0 k, LeO (dragnetlaw07_TokenIs.f k a0) (dragnetlaw07_TokenIs.f (k + 1) a0) := by
  intro a0 k
  unfold dragnetlaw07_TokenIs.f
  repeat' first
      | (with_reducible exact dragnetlaw07_alive.mono _)
      | (with_reducible exact dragnetref07_Is.mono _ _)
      | (with_reducible exact token_Is.mono _ _)
      | (with_reducible exact LeO.refl _)
      | (with_reducible exact LeO.none _)
      | (with_reducible refine LeO.ite ?_ ?_)
      | (with_reducible refine LeO.bind ?_ (fun _ => ?_))
      | exact dragnetlaw07_alive.mono _
      | exact dragnetref07_Is.mono _ _
      | exact token_Is.mono _ _
      | exact LeO.none _
      | refine LeO.ite ?_ ?_
      | refine LeO.bind ?_ (fun _ => ?_)
set_option maxHeartbeats 8000000 in
set_option maxRecDepth 100000 in
theorem dragnetlaw07_TokenIs.calls (k : Nat) (a0 : ByteArray) (r : Bool) (w : World) (h : dragnetlaw07_TokenIs.f k a0 = some r) :
    Calls Try.prog 6 #[.string a0] w fun e w' => e = .returned (.bool r) ∧ Below w.heap.size w w' := by
  have hu31 := Try.underlying31
  have HB := Aside0.mk (Below.refl w.heap.size w)
  have H : ((dragnetlaw07_alive.f k).bind fun t206 => (if t206 = true then (if (a0.size : Int) ≤ 9223372036854775807 then ((token_Cut.f (bytesOf a0)).bind fun t211 => ((token_Is.f k a0).bind fun t214 => ((dragnetref07_Is.f k a0).bind fun t215 => (if (t214 == t215) = true then ((token_Lower.f a0).bind fun t216 => ((dragnetref07_Lower.f a0).bind fun t217 => (if t216.toList = t217.toList then (if t214 = true then (if (t211.length : Int) = 1 then (if 0 < (t211.length : Int) then (some (((rd_T31 t211 0).f0) == 0 && ((((rd_T31 t211 0).f1).toList) == a0.toList))) else (none)) else (some false)) else (some true)) else (some false)))) else (some false))))) else (none)) else (some false))) = some r := h
  clear h
  replace H := Option.bind_eq_some_iff.mp H
  obtain ⟨t206, A20, H⟩ := H
  replace H : (if t206 = true then (if (a0.size : Int) ≤ 9223372036854775807 then ((token_Cut.f (bytesOf a0)).bind fun t211 => ((token_Is.f k a0).bind fun t214 => ((dragnetref07_Is.f k a0).bind fun t215 => (if (t214 == t215) = true then ((token_Lower.f a0).bind fun t216 => ((dragnetref07_Lower.f a0).bind fun t217 => (if t216.toList = t217.toList then (if t214 = true then (if (t211.length : Int) = 1 then (if 0 < (t211.length : Int) then (some (((rd_T31 t211 0).f0) == 0 && ((((rd_T31 t211 0).f1).toList) == a0.toList))) else (none)) else (some false)) else (some true)) else (some false)))) else (some false))))) else (none)) else (some false)) = some r := H
  have A2 := Aside0.mk A20
  clear A20
  by_cases c3 : t206 = true
  · subst c3
    have H1 : (if (a0.size : Int) ≤ 9223372036854775807 then ((token_Cut.f (bytesOf a0)).bind fun t211 => ((token_Is.f k a0).bind fun t214 => ((dragnetref07_Is.f k a0).bind fun t215 => (if (t214 == t215) = true then ((token_Lower.f a0).bind fun t216 => ((dragnetref07_Lower.f a0).bind fun t217 => (if t216.toList = t217.toList then (if t214 = true then (if (t211.length : Int) = 1 then (if 0 < (t211.length : Int) then (some (((rd_T31 t211 0).f0) == 0 && ((((rd_T31 t211 0).f1).toList) == a0.toList))) else (none)) else (some false)) else (some true)) else (some false)))) else (some false))))) else (none)) = some r := by rw [if_pos rfl] at H; exact H
    clear H
    have H := H1
    clear H1
    by_cases c4 : (a0.size : Int) ≤ 9223372036854775807
    · rw [if_pos c4] at H
      have c4b0 := eq_true c4
      have c4b1 : decide ((a0.size : Int) ≤ 9223372036854775807) = true := decide_eq_true c4
      try have c4b2 : (9223372036854775807 < (a0.size : Int)) = False := eq_false (Nat.not_lt.2 c4)
      clear c4
      obtain ⟨y207, hy207⟩ : ∃ y_ : List Int, y_ = (bytesOf a0) := ⟨_, rfl⟩
      replace H : ((token_Cut.f y207).bind fun t211 => ((token_Is.f k a0).bind fun t214 => ((dragnetref07_Is.f k a0).bind fun t215 => (if (t214 == t215) = true then ((token_Lower.f a0).bind fun t216 => ((dragnetref07_Lower.f a0).bind fun t217 => (if t216.toList = t217.toList then (if t214 = true then (if (t211.length : Int) = 1 then (if 0 < (t211.length : Int) then (some (((rd_T31 t211 0).f0) == 0 && ((((rd_T31 t211 0).f1).toList) == a0.toList))) else (none)) else (some false)) else (some true)) else (some false)))) else (some false))))) = some r := by first | (rw [hy207]; with_reducible exact H) | (have H2_ := (Option.bind_some _ _).symm.trans H; rw [hy207]; with_reducible exact H2_) | (have H2_ := (Option.bind_some _ _).symm.trans H; with_reducible exact H2_) | with_reducible exact H | (rw [hy207]; exact H) | exact H
      have Ny207 := Aside0.mk hy207
      clear hy207
      replace H := Option.bind_eq_some_iff.mp H
      obtain ⟨t211, A50, H⟩ := H
      replace H : ((token_Is.f k a0).bind fun t214 => ((dragnetref07_Is.f k a0).bind fun t215 => (if (t214 == t215) = true then ((token_Lower.f a0).bind fun t216 => ((dragnetref07_Lower.f a0).bind fun t217 => (if t216.toList = t217.toList then (if t214 = true then (if (t211.length : Int) = 1 then (if 0 < (t211.length : Int) then (some (((rd_T31 t211 0).f0) == 0 && ((((rd_T31 t211 0).f1).toList) == a0.toList))) else (none)) else (some false)) else (some true)) else (some false)))) else (some false)))) = some r := H
      have A5 := Aside0.mk A50
      clear A50
      replace H := Option.bind_eq_some_iff.mp H
      obtain ⟨t214, A60, H⟩ := H
      replace H : ((dragnetref07_Is.f k a0).bind fun t215 => (if (t214 == t215) = true then ((token_Lower.f a0).bind fun t216 => ((dragnetref07_Lower.f a0).bind fun t217 => (if t216.toList = t217.toList then (if t214 = true then (if (t211.length : Int) = 1 then (if 0 < (t211.length : Int) then (some (((rd_T31 t211 0).f0) == 0 && ((((rd_T31 t211 0).f1).toList) == a0.toList))) else (none)) else (some false)) else (some true)) else (some false)))) else (some false))) = some r := H
      have A6 := Aside0.mk A60
      clear A60
      replace H := Option.bind_eq_some_iff.mp H
      obtain ⟨t215, A70, H⟩ := H
      replace H : (if (t214 == t215) = true then ((token_Lower.f a0).bind fun t216 => ((dragnetref07_Lower.f a0).bind fun t217 => (if t216.toList = t217.toList then (if t214 = true then (if (t211.length : Int) = 1 then (if 0 < (t211.length : Int) then (some (((rd_T31 t211 0).f0) == 0 && ((((rd_T31 t211 0).f1).toList) == a0.toList))) else (none)) else (some false)) else (some true)) else (some false)))) else (some false)) = some r := H
      have A7 := Aside0.mk A70
      clear A70
      by_cases c8 : (t214 == t215) = true
      · rw [if_pos c8] at H
        have c8b0 : (t214 == t215) = true := c8
        (try (have c8b1 : decide (t214 = t215) = true := by simpa using c8))
        (try (have c8b2 : (t214 == t215) = true := by simpa using c8))
        clear c8
        replace H := Option.bind_eq_some_iff.mp H
        obtain ⟨t216, A90, H⟩ := H
        replace H : ((dragnetref07_Lower.f a0).bind fun t217 => (if t216.toList = t217.toList then (if t214 = true then (if (t211.length : Int) = 1 then (if 0 < (t211.length : Int) then (some (((rd_T31 t211 0).f0) == 0 && ((((rd_T31 t211 0).f1).toList) == a0.toList))) else (none)) else (some false)) else (some true)) else (some false))) = some r := H
        have A9 := Aside0.mk A90
        clear A90
        replace H := Option.bind_eq_some_iff.mp H
        obtain ⟨t217, A100, H⟩ := H
        replace H : (if t216.toList = t217.toList then (if t214 = true then (if (t211.length : Int) = 1 then (if 0 < (t211.length : Int) then (some (((rd_T31 t211 0).f0) == 0 && ((((rd_T31 t211 0).f1).toList) == a0.toList))) else (none)) else (some false)) else (some true)) else (some false)) = some r := H
        have A10 := Aside0.mk A100
        clear A100
        by_cases c11 : t216.toList = t217.toList
        · rw [if_pos c11] at H
          have c11b0 : (t216.toList == t217.toList) = true := beq_iff_eq.mpr c11
          have c11b1 : (t216.toList != t217.toList) = false := bne_eq_false_iff_eq.mpr c11
          clear c11
          by_cases c12 : t214 = true
          · subst c12
            have H1 : (if (t211.length : Int) = 1 then (if 0 < (t211.length : Int) then (some (((rd_T31 t211 0).f0) == 0 && ((((rd_T31 t211 0).f1).toList) == a0.toList))) else (none)) else (some false)) = some r := by rw [if_pos rfl] at H; exact H
            clear H
            have H := H1
            clear H1
            by_cases c13 : (t211.length : Int) = 1
            · rw [if_pos c13] at H
              have c13b0 : ((t211.length : Int) == 1) = true := beq_iff_eq.mpr c13
              have c13b1 : ((t211.length : Int) != 1) = false := bne_eq_false_iff_eq.mpr c13
              clear c13
              by_cases c14 : 0 < (t211.length : Int)
              · rw [if_pos c14] at H
                have c14b0 : decide (0 < (t211.length : Int)) = true := decide_eq_true c14
                have c14b1 : decide (0 < t211.length) = true := decide_eq_true (by omega)
                clear c14
                obtain rfl := Option.some.inj H
                go_enter Try.func6, Try.ntmps6
                go_wp2_with (first | ((with_reducible refine gate_callee (f := 9) rfl ?_); refine goesL_ (some 5) rfl rfl Try.func9 (by kernel_rfl) rfl #[] rfl (by (try simp only [List.map_toArray, List.map_cons, List.map_nil]); first | done | rfl | (simp only [List.length_drop, List.length_take]; rfl)) ?_; (with_reducible refine (dragnetlaw07_alive.calls k  true _ A2.out).mono ?_); rintro e w15 ⟨rfl, hb⟩; refine ⟨_, rfl, ?_⟩; have n0_ := Aside0.mk (below_step (by repeat (first | (with_reducible first | exact HB.out | apply below_alloc | apply pw_below_drewN | apply below_drew1) | exact HB.out)) hb); clear HB; have HB := n0_; clear n0_; (try clear hb); (try clear hb2); (try clear hk); (try clear hi)) | ((with_reducible refine gate_dst (N := 8) rfl ?_); (try (refine gate_guard (by rfl) ?_; dsimp only)); refine Kd.conv_event rfl (N := 8) rfl 9 22 5 (.tmp 7) rfl Try.underlying9 Try.underlying22 Try.underlying5 a0 (by first | rfl | (go_simp; rfl)) y207 Ny207.out (by have h_ : (a0.size : Int) ≤ 9223372036854775807 := of_decide_eq_true (by first | (with_reducible assumption) | assumption); omega) ?_; intro A210 c210 w16 hcc_ hC_ hb; have n0_ := Aside0.mk (below_step (by repeat (first | (with_reducible first | exact HB.out | apply below_alloc | apply pw_below_drewN | apply below_drew1) | exact HB.out)) hb); have n1_ := Aside0.mk (hC_); have n2_ := Aside0.mk (hcc_); clear HB; have HB := n0_; have HR210 := n1_; have HC210 := n2_; clear n0_ n1_ n2_; clear hb hC_ hcc_) | ((with_reducible refine gate_callee (f := 12) rfl ?_); refine goesL_ (some 9) rfl rfl Try.func12 (by kernel_rfl) rfl #[.slice (some A210) y207.length c210] rfl (by (try simp only [List.map_toArray, List.map_cons, List.map_nil]); first | done | rfl | (simp only [List.length_drop, List.length_take]; rfl)) ?_; (with_reducible refine (token_Cut.calls _ _ y207 t211 _ ?side1 ?side2 A5.out).mono ?_); (case side1 => repeat (first | exact (by repeat (first | (with_reducible exact HR210.out) | (with_reducible refine Kd.C_alloc ?_ _) | (with_reducible refine Kd.C_drewN ?_ _) | (with_reducible refine Kd.C_drew ?_) | exact HR210.out)) | (with_reducible refine Kd.C_alloc ?_ _) | (with_reducible refine Kd.C_drewN ?_ _) | (with_reducible refine Kd.C_drew ?_))); (case side2 => exact HC210.out); rintro e w17 ⟨v212, rfl, ho0, hb⟩; refine ⟨_, rfl, ?_⟩; have n0_ := Aside0.mk (Kd.R_lower ho0 (below_size (by repeat (first | (with_reducible first | exact HB.out | apply below_alloc | apply pw_below_drewN | apply below_drew1) | exact HB.out)))); have n1_ := Aside0.mk (Kd.C_below (by repeat (first | (with_reducible exact HR210.out) | (with_reducible refine Kd.C_alloc ?_ _) | (with_reducible refine Kd.C_drewN ?_ _) | (with_reducible refine Kd.C_drew ?_) | exact HR210.out)) hb); have n2_ := Aside0.mk (below_step (by repeat (first | (with_reducible first | exact HB.out | apply below_alloc | apply pw_below_drewN | apply below_drew1) | exact HB.out)) hb); clear HR210; clear HB; have HO213 := n0_; have HR210 := n1_; have HB := n2_; clear n0_ n1_ n2_; (try clear hb); (try clear hb2); (try clear hk); (try clear hi); (try clear ho0)) | ((with_reducible refine gate_callee (f := 16) rfl ?_); refine goesL_ (some 11) rfl rfl Try.func16 (by kernel_rfl) rfl #[.string a0] rfl (by (try simp only [List.map_toArray, List.map_cons, List.map_nil]); first | done | rfl | (simp only [List.length_drop, List.length_take]; rfl)) ?_; (with_reducible refine (token_Is.calls k a0 true _ A6.out).mono ?_); rintro e w' ⟨rfl, ⟨nd, rfl⟩⟩; refine ⟨_, rfl, ?_⟩) | ((with_reducible refine gate_callee (f := 15) rfl ?_); refine goesL_ (some 14) rfl rfl Try.func15 (by kernel_rfl) rfl #[.string a0] rfl (by (try simp only [List.map_toArray, List.map_cons, List.map_nil]); first | done | rfl | (simp only [List.length_drop, List.length_take]; rfl)) ?_; (with_reducible refine (dragnetref07_Is.calls k a0 t215 _ A7.out).mono ?_); rintro e w18 ⟨rfl, hb⟩; refine ⟨_, rfl, ?_⟩; have n0_ := Aside0.mk (Kd.R_below (by (with_reducible repeat (first | apply Kd.R_alloc | apply Kd.R_drewN | apply Kd.R_drew)); exact HO213.out) hb); have n1_ := Aside0.mk (Kd.C_below (by repeat (first | (with_reducible exact HR210.out) | (with_reducible refine Kd.C_alloc ?_ _) | (with_reducible refine Kd.C_drewN ?_ _) | (with_reducible refine Kd.C_drew ?_) | exact HR210.out)) hb); have n2_ := Aside0.mk (below_step (by repeat (first | (with_reducible first | exact HB.out | apply below_alloc | apply pw_below_drewN | apply below_drew1) | exact HB.out)) hb); clear HO213; clear HR210; clear HB; have HO213 := n0_; have HR210 := n1_; have HB := n2_; clear n0_ n1_ n2_; (try clear hb); (try clear hb2); (try clear hk); (try clear hi)) | (go_at_call 17; (with_reducible refine (token_Lower.calls a0 t216 _ A9.out).mono ?_); rintro e w19 ⟨rfl, hb⟩; have n0_ := Aside0.mk (Kd.R_below (by (with_reducible repeat (first | apply Kd.R_alloc | apply Kd.R_drewN | apply Kd.R_drew)); exact HO213.out) hb); have n1_ := Aside0.mk (Kd.C_below (by repeat (first | (with_reducible exact HR210.out) | (with_reducible refine Kd.C_alloc ?_ _) | (with_reducible refine Kd.C_drewN ?_ _) | (with_reducible refine Kd.C_drew ?_) | exact HR210.out)) hb); have n2_ := Aside0.mk (below_step (by repeat (first | (with_reducible first | exact HB.out | apply below_alloc | apply pw_below_drewN | apply below_drew1) | exact HB.out)) hb); clear HO213; clear HR210; clear HB; have HO213 := n0_; have HR210 := n1_; have HB := n2_; clear n0_ n1_ n2_; (try clear hb); (try clear hb2); (try clear hk); (try clear hi)) | (go_at_call 18; (with_reducible refine (dragnetref07_Lower.calls a0 t217 _ A10.out).mono ?_); rintro e w20 ⟨rfl, hb⟩; have n0_ := Aside0.mk (Kd.R_below (by (with_reducible repeat (first | apply Kd.R_alloc | apply Kd.R_drewN | apply Kd.R_drew)); exact HO213.out) hb); have n1_ := Aside0.mk (Kd.C_below (by repeat (first | (with_reducible exact HR210.out) | (with_reducible refine Kd.C_alloc ?_ _) | (with_reducible refine Kd.C_drewN ?_ _) | (with_reducible refine Kd.C_drew ?_) | exact HR210.out)) hb); have n2_ := Aside0.mk (below_step (by repeat (first | (with_reducible first | exact HB.out | apply below_alloc | apply pw_below_drewN | apply below_drew1) | exact HB.out)) hb); clear HO213; clear HR210; clear HB; have HO213 := n0_; have HR210 := n1_; have HB := n2_; clear n0_ n1_ n2_; (try clear hb); (try clear hb2); (try clear hk); (try clear hi); obtain ⟨Ao21, co21, eo21⟩ := Kd.R_slice HO213.out; subst eo21; have p218 : 0 ≤ (0 : Int) := (by omega); have q218 : 0 < (t211.length : Int) := of_decide_eq_true (by first | (with_reducible assumption) | assumption); obtain ⟨ad218, e218, hx218_0, hx218_1⟩ := at_T31 (Kd.R_reads' HO213.out).2.2 0 p218 q218; cases e218; have qi218 : (0 < t211.length) = True := eq_true (by omega); (try rw [show ((0 : Int)).toNat = 0 from rfl] at hx218_0); (try rw [show 0 * 2 = 0 from rfl] at hx218_0); (try rw [Addr.add_zero'] at hx218_0); (try rw [show ((0 : Int)).toNat = 0 from rfl] at hx218_1); (try rw [show 0 * 2 = 0 from rfl] at hx218_1); (try rw [Addr.add_zero'] at hx218_1); replace p218 := eq_true p218; replace q218 := eq_true q218))
                go_ret
                exact ⟨by first | rfl | (simp [errW_none, errW_some] <;> rfl) | (simp [*, errW_none, errW_some] <;> rfl), by repeat (first | (with_reducible first | exact HB.out | apply below_alloc | apply pw_below_drewN | apply below_drew1) | exact HB.out)⟩
              · rw [if_neg c14] at H
                exact absurd H (by simp)
            · rw [if_neg c13] at H
              have c13b0 : ((t211.length : Int) == 1) = false := beq_eq_false_iff_ne.mpr c13
              have c13b1 : ((t211.length : Int) != 1) = true := bne_iff_ne.mpr c13
              obtain rfl := Option.some.inj H
              go_enter Try.func6, Try.ntmps6
              go_wp2_with (first | ((with_reducible refine gate_callee (f := 9) rfl ?_); refine goesL_ (some 5) rfl rfl Try.func9 (by kernel_rfl) rfl #[] rfl (by (try simp only [List.map_toArray, List.map_cons, List.map_nil]); first | done | rfl | (simp only [List.length_drop, List.length_take]; rfl)) ?_; (with_reducible refine (dragnetlaw07_alive.calls k  true _ A2.out).mono ?_); rintro e w22 ⟨rfl, hb⟩; refine ⟨_, rfl, ?_⟩; have n0_ := Aside0.mk (below_step (by repeat (first | (with_reducible first | exact HB.out | apply below_alloc | apply pw_below_drewN | apply below_drew1) | exact HB.out)) hb); clear HB; have HB := n0_; clear n0_; (try clear hb); (try clear hb2); (try clear hk); (try clear hi)) | ((with_reducible refine gate_dst (N := 8) rfl ?_); (try (refine gate_guard (by rfl) ?_; dsimp only)); refine Kd.conv_event rfl (N := 8) rfl 9 22 5 (.tmp 7) rfl Try.underlying9 Try.underlying22 Try.underlying5 a0 (by first | rfl | (go_simp; rfl)) y207 Ny207.out (by have h_ : (a0.size : Int) ≤ 9223372036854775807 := of_decide_eq_true (by first | (with_reducible assumption) | assumption); omega) ?_; intro A210 c210 w23 hcc_ hC_ hb; have n0_ := Aside0.mk (below_step (by repeat (first | (with_reducible first | exact HB.out | apply below_alloc | apply pw_below_drewN | apply below_drew1) | exact HB.out)) hb); have n1_ := Aside0.mk (hC_); have n2_ := Aside0.mk (hcc_); clear HB; have HB := n0_; have HR210 := n1_; have HC210 := n2_; clear n0_ n1_ n2_; clear hb hC_ hcc_) | ((with_reducible refine gate_callee (f := 12) rfl ?_); refine goesL_ (some 9) rfl rfl Try.func12 (by kernel_rfl) rfl #[.slice (some A210) y207.length c210] rfl (by (try simp only [List.map_toArray, List.map_cons, List.map_nil]); first | done | rfl | (simp only [List.length_drop, List.length_take]; rfl)) ?_; (with_reducible refine (token_Cut.calls _ _ y207 t211 _ ?side1 ?side2 A5.out).mono ?_); (case side1 => repeat (first | exact (by repeat (first | (with_reducible exact HR210.out) | (with_reducible refine Kd.C_alloc ?_ _) | (with_reducible refine Kd.C_drewN ?_ _) | (with_reducible refine Kd.C_drew ?_) | exact HR210.out)) | (with_reducible refine Kd.C_alloc ?_ _) | (with_reducible refine Kd.C_drewN ?_ _) | (with_reducible refine Kd.C_drew ?_))); (case side2 => exact HC210.out); rintro e w24 ⟨v212, rfl, ho0, hb⟩; refine ⟨_, rfl, ?_⟩; have n0_ := Aside0.mk (Kd.R_lower ho0 (below_size (by repeat (first | (with_reducible first | exact HB.out | apply below_alloc | apply pw_below_drewN | apply below_drew1) | exact HB.out)))); have n1_ := Aside0.mk (Kd.C_below (by repeat (first | (with_reducible exact HR210.out) | (with_reducible refine Kd.C_alloc ?_ _) | (with_reducible refine Kd.C_drewN ?_ _) | (with_reducible refine Kd.C_drew ?_) | exact HR210.out)) hb); have n2_ := Aside0.mk (below_step (by repeat (first | (with_reducible first | exact HB.out | apply below_alloc | apply pw_below_drewN | apply below_drew1) | exact HB.out)) hb); clear HR210; clear HB; have HO213 := n0_; have HR210 := n1_; have HB := n2_; clear n0_ n1_ n2_; (try clear hb); (try clear hb2); (try clear hk); (try clear hi); (try clear ho0)) | ((with_reducible refine gate_callee (f := 16) rfl ?_); refine goesL_ (some 11) rfl rfl Try.func16 (by kernel_rfl) rfl #[.string a0] rfl (by (try simp only [List.map_toArray, List.map_cons, List.map_nil]); first | done | rfl | (simp only [List.length_drop, List.length_take]; rfl)) ?_; (with_reducible refine (token_Is.calls k a0 true _ A6.out).mono ?_); rintro e w' ⟨rfl, ⟨nd, rfl⟩⟩; refine ⟨_, rfl, ?_⟩) | ((with_reducible refine gate_callee (f := 15) rfl ?_); refine goesL_ (some 14) rfl rfl Try.func15 (by kernel_rfl) rfl #[.string a0] rfl (by (try simp only [List.map_toArray, List.map_cons, List.map_nil]); first | done | rfl | (simp only [List.length_drop, List.length_take]; rfl)) ?_; (with_reducible refine (dragnetref07_Is.calls k a0 t215 _ A7.out).mono ?_); rintro e w25 ⟨rfl, hb⟩; refine ⟨_, rfl, ?_⟩; have n0_ := Aside0.mk (Kd.R_below (by (with_reducible repeat (first | apply Kd.R_alloc | apply Kd.R_drewN | apply Kd.R_drew)); exact HO213.out) hb); have n1_ := Aside0.mk (Kd.C_below (by repeat (first | (with_reducible exact HR210.out) | (with_reducible refine Kd.C_alloc ?_ _) | (with_reducible refine Kd.C_drewN ?_ _) | (with_reducible refine Kd.C_drew ?_) | exact HR210.out)) hb); have n2_ := Aside0.mk (below_step (by repeat (first | (with_reducible first | exact HB.out | apply below_alloc | apply pw_below_drewN | apply below_drew1) | exact HB.out)) hb); clear HO213; clear HR210; clear HB; have HO213 := n0_; have HR210 := n1_; have HB := n2_; clear n0_ n1_ n2_; (try clear hb); (try clear hb2); (try clear hk); (try clear hi)) | (go_at_call 17; (with_reducible refine (token_Lower.calls a0 t216 _ A9.out).mono ?_); rintro e w26 ⟨rfl, hb⟩; have n0_ := Aside0.mk (Kd.R_below (by (with_reducible repeat (first | apply Kd.R_alloc | apply Kd.R_drewN | apply Kd.R_drew)); exact HO213.out) hb); have n1_ := Aside0.mk (Kd.C_below (by repeat (first | (with_reducible exact HR210.out) | (with_reducible refine Kd.C_alloc ?_ _) | (with_reducible refine Kd.C_drewN ?_ _) | (with_reducible refine Kd.C_drew ?_) | exact HR210.out)) hb); have n2_ := Aside0.mk (below_step (by repeat (first | (with_reducible first | exact HB.out | apply below_alloc | apply pw_below_drewN | apply below_drew1) | exact HB.out)) hb); clear HO213; clear HR210; clear HB; have HO213 := n0_; have HR210 := n1_; have HB := n2_; clear n0_ n1_ n2_; (try clear hb); (try clear hb2); (try clear hk); (try clear hi)) | (go_at_call 18; (with_reducible refine (dragnetref07_Lower.calls a0 t217 _ A10.out).mono ?_); rintro e w27 ⟨rfl, hb⟩; have n0_ := Aside0.mk (Kd.R_below (by (with_reducible repeat (first | apply Kd.R_alloc | apply Kd.R_drewN | apply Kd.R_drew)); exact HO213.out) hb); have n1_ := Aside0.mk (Kd.C_below (by repeat (first | (with_reducible exact HR210.out) | (with_reducible refine Kd.C_alloc ?_ _) | (with_reducible refine Kd.C_drewN ?_ _) | (with_reducible refine Kd.C_drew ?_) | exact HR210.out)) hb); have n2_ := Aside0.mk (below_step (by repeat (first | (with_reducible first | exact HB.out | apply below_alloc | apply pw_below_drewN | apply below_drew1) | exact HB.out)) hb); clear HO213; clear HR210; clear HB; have HO213 := n0_; have HR210 := n1_; have HB := n2_; clear n0_ n1_ n2_; (try clear hb); (try clear hb2); (try clear hk); (try clear hi); obtain ⟨Ao28, co28, eo28⟩ := Kd.R_slice HO213.out; subst eo28))
              go_ret
              exact ⟨by first | rfl | (simp [errW_none, errW_some] <;> rfl) | (simp [*, errW_none, errW_some] <;> rfl), by repeat (first | (with_reducible first | exact HB.out | apply below_alloc | apply pw_below_drewN | apply below_drew1) | exact HB.out)⟩
          · replace c12 := Bool.eq_false_iff.mpr c12
            subst c12
            have H1 : (some true) = some r := by rw [if_neg (show ¬ (false = true) by decide)] at H; exact H
            clear H
            have H := H1
            clear H1
            obtain rfl := Option.some.inj H
            go_enter Try.func6, Try.ntmps6
            go_wp2_with (first | ((with_reducible refine gate_callee (f := 9) rfl ?_); refine goesL_ (some 5) rfl rfl Try.func9 (by kernel_rfl) rfl #[] rfl (by (try simp only [List.map_toArray, List.map_cons, List.map_nil]); first | done | rfl | (simp only [List.length_drop, List.length_take]; rfl)) ?_; (with_reducible refine (dragnetlaw07_alive.calls k  true _ A2.out).mono ?_); rintro e w29 ⟨rfl, hb⟩; refine ⟨_, rfl, ?_⟩; have n0_ := Aside0.mk (below_step (by repeat (first | (with_reducible first | exact HB.out | apply below_alloc | apply pw_below_drewN | apply below_drew1) | exact HB.out)) hb); clear HB; have HB := n0_; clear n0_; (try clear hb); (try clear hb2); (try clear hk); (try clear hi)) | ((with_reducible refine gate_dst (N := 8) rfl ?_); (try (refine gate_guard (by rfl) ?_; dsimp only)); refine Kd.conv_event rfl (N := 8) rfl 9 22 5 (.tmp 7) rfl Try.underlying9 Try.underlying22 Try.underlying5 a0 (by first | rfl | (go_simp; rfl)) y207 Ny207.out (by have h_ : (a0.size : Int) ≤ 9223372036854775807 := of_decide_eq_true (by first | (with_reducible assumption) | assumption); omega) ?_; intro A210 c210 w30 hcc_ hC_ hb; have n0_ := Aside0.mk (below_step (by repeat (first | (with_reducible first | exact HB.out | apply below_alloc | apply pw_below_drewN | apply below_drew1) | exact HB.out)) hb); have n1_ := Aside0.mk (hC_); have n2_ := Aside0.mk (hcc_); clear HB; have HB := n0_; have HR210 := n1_; have HC210 := n2_; clear n0_ n1_ n2_; clear hb hC_ hcc_) | ((with_reducible refine gate_callee (f := 12) rfl ?_); refine goesL_ (some 9) rfl rfl Try.func12 (by kernel_rfl) rfl #[.slice (some A210) y207.length c210] rfl (by (try simp only [List.map_toArray, List.map_cons, List.map_nil]); first | done | rfl | (simp only [List.length_drop, List.length_take]; rfl)) ?_; (with_reducible refine (token_Cut.calls _ _ y207 t211 _ ?side1 ?side2 A5.out).mono ?_); (case side1 => repeat (first | exact (by repeat (first | (with_reducible exact HR210.out) | (with_reducible refine Kd.C_alloc ?_ _) | (with_reducible refine Kd.C_drewN ?_ _) | (with_reducible refine Kd.C_drew ?_) | exact HR210.out)) | (with_reducible refine Kd.C_alloc ?_ _) | (with_reducible refine Kd.C_drewN ?_ _) | (with_reducible refine Kd.C_drew ?_))); (case side2 => exact HC210.out); rintro e w31 ⟨v212, rfl, ho0, hb⟩; refine ⟨_, rfl, ?_⟩; have n0_ := Aside0.mk (Kd.R_lower ho0 (below_size (by repeat (first | (with_reducible first | exact HB.out | apply below_alloc | apply pw_below_drewN | apply below_drew1) | exact HB.out)))); have n1_ := Aside0.mk (Kd.C_below (by repeat (first | (with_reducible exact HR210.out) | (with_reducible refine Kd.C_alloc ?_ _) | (with_reducible refine Kd.C_drewN ?_ _) | (with_reducible refine Kd.C_drew ?_) | exact HR210.out)) hb); have n2_ := Aside0.mk (below_step (by repeat (first | (with_reducible first | exact HB.out | apply below_alloc | apply pw_below_drewN | apply below_drew1) | exact HB.out)) hb); clear HR210; clear HB; have HO213 := n0_; have HR210 := n1_; have HB := n2_; clear n0_ n1_ n2_; (try clear hb); (try clear hb2); (try clear hk); (try clear hi); (try clear ho0)) | ((with_reducible refine gate_callee (f := 16) rfl ?_); refine goesL_ (some 11) rfl rfl Try.func16 (by kernel_rfl) rfl #[.string a0] rfl (by (try simp only [List.map_toArray, List.map_cons, List.map_nil]); first | done | rfl | (simp only [List.length_drop, List.length_take]; rfl)) ?_; (with_reducible refine (token_Is.calls k a0 false _ A6.out).mono ?_); rintro e w' ⟨rfl, ⟨nd, rfl⟩⟩; refine ⟨_, rfl, ?_⟩) | ((with_reducible refine gate_callee (f := 15) rfl ?_); refine goesL_ (some 14) rfl rfl Try.func15 (by kernel_rfl) rfl #[.string a0] rfl (by (try simp only [List.map_toArray, List.map_cons, List.map_nil]); first | done | rfl | (simp only [List.length_drop, List.length_take]; rfl)) ?_; (with_reducible refine (dragnetref07_Is.calls k a0 t215 _ A7.out).mono ?_); rintro e w32 ⟨rfl, hb⟩; refine ⟨_, rfl, ?_⟩; have n0_ := Aside0.mk (Kd.R_below (by (with_reducible repeat (first | apply Kd.R_alloc | apply Kd.R_drewN | apply Kd.R_drew)); exact HO213.out) hb); have n1_ := Aside0.mk (Kd.C_below (by repeat (first | (with_reducible exact HR210.out) | (with_reducible refine Kd.C_alloc ?_ _) | (with_reducible refine Kd.C_drewN ?_ _) | (with_reducible refine Kd.C_drew ?_) | exact HR210.out)) hb); have n2_ := Aside0.mk (below_step (by repeat (first | (with_reducible first | exact HB.out | apply below_alloc | apply pw_below_drewN | apply below_drew1) | exact HB.out)) hb); clear HO213; clear HR210; clear HB; have HO213 := n0_; have HR210 := n1_; have HB := n2_; clear n0_ n1_ n2_; (try clear hb); (try clear hb2); (try clear hk); (try clear hi)) | (go_at_call 17; (with_reducible refine (token_Lower.calls a0 t216 _ A9.out).mono ?_); rintro e w33 ⟨rfl, hb⟩; have n0_ := Aside0.mk (Kd.R_below (by (with_reducible repeat (first | apply Kd.R_alloc | apply Kd.R_drewN | apply Kd.R_drew)); exact HO213.out) hb); have n1_ := Aside0.mk (Kd.C_below (by repeat (first | (with_reducible exact HR210.out) | (with_reducible refine Kd.C_alloc ?_ _) | (with_reducible refine Kd.C_drewN ?_ _) | (with_reducible refine Kd.C_drew ?_) | exact HR210.out)) hb); have n2_ := Aside0.mk (below_step (by repeat (first | (with_reducible first | exact HB.out | apply below_alloc | apply pw_below_drewN | apply below_drew1) | exact HB.out)) hb); clear HO213; clear HR210; clear HB; have HO213 := n0_; have HR210 := n1_; have HB := n2_; clear n0_ n1_ n2_; (try clear hb); (try clear hb2); (try clear hk); (try clear hi)) | (go_at_call 18; (with_reducible refine (dragnetref07_Lower.calls a0 t217 _ A10.out).mono ?_); rintro e w34 ⟨rfl, hb⟩; have n0_ := Aside0.mk (Kd.R_below (by (with_reducible repeat (first | apply Kd.R_alloc | apply Kd.R_drewN | apply Kd.R_drew)); exact HO213.out) hb); have n1_ := Aside0.mk (Kd.C_below (by repeat (first | (with_reducible exact HR210.out) | (with_reducible refine Kd.C_alloc ?_ _) | (with_reducible refine Kd.C_drewN ?_ _) | (with_reducible refine Kd.C_drew ?_) | exact HR210.out)) hb); have n2_ := Aside0.mk (below_step (by repeat (first | (with_reducible first | exact HB.out | apply below_alloc | apply pw_below_drewN | apply below_drew1) | exact HB.out)) hb); clear HO213; clear HR210; clear HB; have HO213 := n0_; have HR210 := n1_; have HB := n2_; clear n0_ n1_ n2_; (try clear hb); (try clear hb2); (try clear hk); (try clear hi)))
            go_ret
            exact ⟨by first | rfl | (simp [errW_none, errW_some] <;> rfl) | (simp [*, errW_none, errW_some] <;> rfl), by repeat (first | (with_reducible first | exact HB.out | apply below_alloc | apply pw_below_drewN | apply below_drew1) | exact HB.out)⟩
        · rw [if_neg c11] at H
          have c11b0 : (t216.toList == t217.toList) = false := beq_eq_false_iff_ne.mpr c11
          have c11b1 : (t216.toList != t217.toList) = true := bne_iff_ne.mpr c11
          obtain rfl := Option.some.inj H
          go_enter Try.func6, Try.ntmps6
          go_wp2_with (first | ((with_reducible refine gate_callee (f := 9) rfl ?_); refine goesL_ (some 5) rfl rfl Try.func9 (by kernel_rfl) rfl #[] rfl (by (try simp only [List.map_toArray, List.map_cons, List.map_nil]); first | done | rfl | (simp only [List.length_drop, List.length_take]; rfl)) ?_; (with_reducible refine (dragnetlaw07_alive.calls k  true _ A2.out).mono ?_); rintro e w35 ⟨rfl, hb⟩; refine ⟨_, rfl, ?_⟩; have n0_ := Aside0.mk (below_step (by repeat (first | (with_reducible first | exact HB.out | apply below_alloc | apply pw_below_drewN | apply below_drew1) | exact HB.out)) hb); clear HB; have HB := n0_; clear n0_; (try clear hb); (try clear hb2); (try clear hk); (try clear hi)) | ((with_reducible refine gate_dst (N := 8) rfl ?_); (try (refine gate_guard (by rfl) ?_; dsimp only)); refine Kd.conv_event rfl (N := 8) rfl 9 22 5 (.tmp 7) rfl Try.underlying9 Try.underlying22 Try.underlying5 a0 (by first | rfl | (go_simp; rfl)) y207 Ny207.out (by have h_ : (a0.size : Int) ≤ 9223372036854775807 := of_decide_eq_true (by first | (with_reducible assumption) | assumption); omega) ?_; intro A210 c210 w36 hcc_ hC_ hb; have n0_ := Aside0.mk (below_step (by repeat (first | (with_reducible first | exact HB.out | apply below_alloc | apply pw_below_drewN | apply below_drew1) | exact HB.out)) hb); have n1_ := Aside0.mk (hC_); have n2_ := Aside0.mk (hcc_); clear HB; have HB := n0_; have HR210 := n1_; have HC210 := n2_; clear n0_ n1_ n2_; clear hb hC_ hcc_) | ((with_reducible refine gate_callee (f := 12) rfl ?_); refine goesL_ (some 9) rfl rfl Try.func12 (by kernel_rfl) rfl #[.slice (some A210) y207.length c210] rfl (by (try simp only [List.map_toArray, List.map_cons, List.map_nil]); first | done | rfl | (simp only [List.length_drop, List.length_take]; rfl)) ?_; (with_reducible refine (token_Cut.calls _ _ y207 t211 _ ?side1 ?side2 A5.out).mono ?_); (case side1 => repeat (first | exact (by repeat (first | (with_reducible exact HR210.out) | (with_reducible refine Kd.C_alloc ?_ _) | (with_reducible refine Kd.C_drewN ?_ _) | (with_reducible refine Kd.C_drew ?_) | exact HR210.out)) | (with_reducible refine Kd.C_alloc ?_ _) | (with_reducible refine Kd.C_drewN ?_ _) | (with_reducible refine Kd.C_drew ?_))); (case side2 => exact HC210.out); rintro e w37 ⟨v212, rfl, ho0, hb⟩; refine ⟨_, rfl, ?_⟩; have n0_ := Aside0.mk (Kd.R_lower ho0 (below_size (by repeat (first | (with_reducible first | exact HB.out | apply below_alloc | apply pw_below_drewN | apply below_drew1) | exact HB.out)))); have n1_ := Aside0.mk (Kd.C_below (by repeat (first | (with_reducible exact HR210.out) | (with_reducible refine Kd.C_alloc ?_ _) | (with_reducible refine Kd.C_drewN ?_ _) | (with_reducible refine Kd.C_drew ?_) | exact HR210.out)) hb); have n2_ := Aside0.mk (below_step (by repeat (first | (with_reducible first | exact HB.out | apply below_alloc | apply pw_below_drewN | apply below_drew1) | exact HB.out)) hb); clear HR210; clear HB; have HO213 := n0_; have HR210 := n1_; have HB := n2_; clear n0_ n1_ n2_; (try clear hb); (try clear hb2); (try clear hk); (try clear hi); (try clear ho0)) | ((with_reducible refine gate_callee (f := 16) rfl ?_); refine goesL_ (some 11) rfl rfl Try.func16 (by kernel_rfl) rfl #[.string a0] rfl (by (try simp only [List.map_toArray, List.map_cons, List.map_nil]); first | done | rfl | (simp only [List.length_drop, List.length_take]; rfl)) ?_; (with_reducible refine (token_Is.calls k a0 t214 _ A6.out).mono ?_); rintro e w' ⟨rfl, ⟨nd, rfl⟩⟩; refine ⟨_, rfl, ?_⟩) | ((with_reducible refine gate_callee (f := 15) rfl ?_); refine goesL_ (some 14) rfl rfl Try.func15 (by kernel_rfl) rfl #[.string a0] rfl (by (try simp only [List.map_toArray, List.map_cons, List.map_nil]); first | done | rfl | (simp only [List.length_drop, List.length_take]; rfl)) ?_; (with_reducible refine (dragnetref07_Is.calls k a0 t215 _ A7.out).mono ?_); rintro e w38 ⟨rfl, hb⟩; refine ⟨_, rfl, ?_⟩; have n0_ := Aside0.mk (Kd.R_below (by (with_reducible repeat (first | apply Kd.R_alloc | apply Kd.R_drewN | apply Kd.R_drew)); exact HO213.out) hb); have n1_ := Aside0.mk (Kd.C_below (by repeat (first | (with_reducible exact HR210.out) | (with_reducible refine Kd.C_alloc ?_ _) | (with_reducible refine Kd.C_drewN ?_ _) | (with_reducible refine Kd.C_drew ?_) | exact HR210.out)) hb); have n2_ := Aside0.mk (below_step (by repeat (first | (with_reducible first | exact HB.out | apply below_alloc | apply pw_below_drewN | apply below_drew1) | exact HB.out)) hb); clear HO213; clear HR210; clear HB; have HO213 := n0_; have HR210 := n1_; have HB := n2_; clear n0_ n1_ n2_; (try clear hb); (try clear hb2); (try clear hk); (try clear hi)) | (go_at_call 17; (with_reducible refine (token_Lower.calls a0 t216 _ A9.out).mono ?_); rintro e w39 ⟨rfl, hb⟩; have n0_ := Aside0.mk (Kd.R_below (by (with_reducible repeat (first | apply Kd.R_alloc | apply Kd.R_drewN | apply Kd.R_drew)); exact HO213.out) hb); have n1_ := Aside0.mk (Kd.C_below (by repeat (first | (with_reducible exact HR210.out) | (with_reducible refine Kd.C_alloc ?_ _) | (with_reducible refine Kd.C_drewN ?_ _) | (with_reducible refine Kd.C_drew ?_) | exact HR210.out)) hb); have n2_ := Aside0.mk (below_step (by repeat (first | (with_reducible first | exact HB.out | apply below_alloc | apply pw_below_drewN | apply below_drew1) | exact HB.out)) hb); clear HO213; clear HR210; clear HB; have HO213 := n0_; have HR210 := n1_; have HB := n2_; clear n0_ n1_ n2_; (try clear hb); (try clear hb2); (try clear hk); (try clear hi)) | (go_at_call 18; (with_reducible refine (dragnetref07_Lower.calls a0 t217 _ A10.out).mono ?_); rintro e w40 ⟨rfl, hb⟩; have n0_ := Aside0.mk (Kd.R_below (by (with_reducible repeat (first | apply Kd.R_alloc | apply Kd.R_drewN | apply Kd.R_drew)); exact HO213.out) hb); have n1_ := Aside0.mk (Kd.C_below (by repeat (first | (with_reducible exact HR210.out) | (with_reducible refine Kd.C_alloc ?_ _) | (with_reducible refine Kd.C_drewN ?_ _) | (with_reducible refine Kd.C_drew ?_) | exact HR210.out)) hb); have n2_ := Aside0.mk (below_step (by repeat (first | (with_reducible first | exact HB.out | apply below_alloc | apply pw_below_drewN | apply below_drew1) | exact HB.out)) hb); clear HO213; clear HR210; clear HB; have HO213 := n0_; have HR210 := n1_; have HB := n2_; clear n0_ n1_ n2_; (try clear hb); (try clear hb2); (try clear hk); (try clear hi)))
          go_ret
          exact ⟨by first | rfl | (simp [errW_none, errW_some] <;> rfl) | (simp [*, errW_none, errW_some] <;> rfl), by repeat (first | (with_reducible first | exact HB.out | apply below_alloc | apply pw_below_drewN | apply below_drew1) | exact HB.out)⟩
      · rw [if_neg c8] at H
        have c8b0 : (t214 == t215) = false := by simpa using c8
        (try (have c8b1 : decide (t214 = t215) = false := by simpa using c8))
        (try (have c8b2 : (t214 == t215) = false := by simpa using c8))
        (try (have c8b3 : ¬ (t214 = t215) := by simpa using c8))
        clear c8
        obtain rfl := Option.some.inj H
        go_enter Try.func6, Try.ntmps6
        go_wp2_with (first | ((with_reducible refine gate_callee (f := 9) rfl ?_); refine goesL_ (some 5) rfl rfl Try.func9 (by kernel_rfl) rfl #[] rfl (by (try simp only [List.map_toArray, List.map_cons, List.map_nil]); first | done | rfl | (simp only [List.length_drop, List.length_take]; rfl)) ?_; (with_reducible refine (dragnetlaw07_alive.calls k  true _ A2.out).mono ?_); rintro e w41 ⟨rfl, hb⟩; refine ⟨_, rfl, ?_⟩; have n0_ := Aside0.mk (below_step (by repeat (first | (with_reducible first | exact HB.out | apply below_alloc | apply pw_below_drewN | apply below_drew1) | exact HB.out)) hb); clear HB; have HB := n0_; clear n0_; (try clear hb); (try clear hb2); (try clear hk); (try clear hi)) | ((with_reducible refine gate_dst (N := 8) rfl ?_); (try (refine gate_guard (by rfl) ?_; dsimp only)); refine Kd.conv_event rfl (N := 8) rfl 9 22 5 (.tmp 7) rfl Try.underlying9 Try.underlying22 Try.underlying5 a0 (by first | rfl | (go_simp; rfl)) y207 Ny207.out (by have h_ : (a0.size : Int) ≤ 9223372036854775807 := of_decide_eq_true (by first | (with_reducible assumption) | assumption); omega) ?_; intro A210 c210 w42 hcc_ hC_ hb; have n0_ := Aside0.mk (below_step (by repeat (first | (with_reducible first | exact HB.out | apply below_alloc | apply pw_below_drewN | apply below_drew1) | exact HB.out)) hb); have n1_ := Aside0.mk (hC_); have n2_ := Aside0.mk (hcc_); clear HB; have HB := n0_; have HR210 := n1_; have HC210 := n2_; clear n0_ n1_ n2_; clear hb hC_ hcc_) | ((with_reducible refine gate_callee (f := 12) rfl ?_); refine goesL_ (some 9) rfl rfl Try.func12 (by kernel_rfl) rfl #[.slice (some A210) y207.length c210] rfl (by (try simp only [List.map_toArray, List.map_cons, List.map_nil]); first | done | rfl | (simp only [List.length_drop, List.length_take]; rfl)) ?_; (with_reducible refine (token_Cut.calls _ _ y207 t211 _ ?side1 ?side2 A5.out).mono ?_); (case side1 => repeat (first | exact (by repeat (first | (with_reducible exact HR210.out) | (with_reducible refine Kd.C_alloc ?_ _) | (with_reducible refine Kd.C_drewN ?_ _) | (with_reducible refine Kd.C_drew ?_) | exact HR210.out)) | (with_reducible refine Kd.C_alloc ?_ _) | (with_reducible refine Kd.C_drewN ?_ _) | (with_reducible refine Kd.C_drew ?_))); (case side2 => exact HC210.out); rintro e w43 ⟨v212, rfl, ho0, hb⟩; refine ⟨_, rfl, ?_⟩; have n0_ := Aside0.mk (Kd.R_lower ho0 (below_size (by repeat (first | (with_reducible first | exact HB.out | apply below_alloc | apply pw_below_drewN | apply below_drew1) | exact HB.out)))); have n1_ := Aside0.mk (Kd.C_below (by repeat (first | (with_reducible exact HR210.out) | (with_reducible refine Kd.C_alloc ?_ _) | (with_reducible refine Kd.C_drewN ?_ _) | (with_reducible refine Kd.C_drew ?_) | exact HR210.out)) hb); have n2_ := Aside0.mk (below_step (by repeat (first | (with_reducible first | exact HB.out | apply below_alloc | apply pw_below_drewN | apply below_drew1) | exact HB.out)) hb); clear HR210; clear HB; have HO213 := n0_; have HR210 := n1_; have HB := n2_; clear n0_ n1_ n2_; (try clear hb); (try clear hb2); (try clear hk); (try clear hi); (try clear ho0)) | ((with_reducible refine gate_callee (f := 16) rfl ?_); refine goesL_ (some 11) rfl rfl Try.func16 (by kernel_rfl) rfl #[.string a0] rfl (by (try simp only [List.map_toArray, List.map_cons, List.map_nil]); first | done | rfl | (simp only [List.length_drop, List.length_take]; rfl)) ?_; (with_reducible refine (token_Is.calls k a0 t214 _ A6.out).mono ?_); rintro e w' ⟨rfl, ⟨nd, rfl⟩⟩; refine ⟨_, rfl, ?_⟩) | ((with_reducible refine gate_callee (f := 15) rfl ?_); refine goesL_ (some 14) rfl rfl Try.func15 (by kernel_rfl) rfl #[.string a0] rfl (by (try simp only [List.map_toArray, List.map_cons, List.map_nil]); first | done | rfl | (simp only [List.length_drop, List.length_take]; rfl)) ?_; (with_reducible refine (dragnetref07_Is.calls k a0 t215 _ A7.out).mono ?_); rintro e w44 ⟨rfl, hb⟩; refine ⟨_, rfl, ?_⟩; have n0_ := Aside0.mk (Kd.R_below (by (with_reducible repeat (first | apply Kd.R_alloc | apply Kd.R_drewN | apply Kd.R_drew)); exact HO213.out) hb); have n1_ := Aside0.mk (Kd.C_below (by repeat (first | (with_reducible exact HR210.out) | (with_reducible refine Kd.C_alloc ?_ _) | (with_reducible refine Kd.C_drewN ?_ _) | (with_reducible refine Kd.C_drew ?_) | exact HR210.out)) hb); have n2_ := Aside0.mk (below_step (by repeat (first | (with_reducible first | exact HB.out | apply below_alloc | apply pw_below_drewN | apply below_drew1) | exact HB.out)) hb); clear HO213; clear HR210; clear HB; have HO213 := n0_; have HR210 := n1_; have HB := n2_; clear n0_ n1_ n2_; (try clear hb); (try clear hb2); (try clear hk); (try clear hi)))
        go_ret
        exact ⟨by first | rfl | (simp [errW_none, errW_some] <;> rfl) | (simp [*, errW_none, errW_some] <;> rfl), by repeat (first | (with_reducible first | exact HB.out | apply below_alloc | apply pw_below_drewN | apply below_drew1) | exact HB.out)⟩
    · rw [if_neg c4] at H
      exact absurd H (by simp)
  · replace c3 := Bool.eq_false_iff.mpr c3
    subst c3
    have H1 : (some false) = some r := by rw [if_neg (show ¬ (false = true) by decide)] at H; exact H
    clear H
    have H := H1
    clear H1
    obtain rfl := Option.some.inj H
    go_enter Try.func6, Try.ntmps6
    go_wp2_with (first | ((with_reducible refine gate_callee (f := 9) rfl ?_); refine goesL_ (some 5) rfl rfl Try.func9 (by kernel_rfl) rfl #[] rfl (by (try simp only [List.map_toArray, List.map_cons, List.map_nil]); first | done | rfl | (simp only [List.length_drop, List.length_take]; rfl)) ?_; (with_reducible refine (dragnetlaw07_alive.calls k  false _ A2.out).mono ?_); rintro e w45 ⟨rfl, hb⟩; refine ⟨_, rfl, ?_⟩; have n0_ := Aside0.mk (below_step (by repeat (first | (with_reducible first | exact HB.out | apply below_alloc | apply pw_below_drewN | apply below_drew1) | exact HB.out)) hb); clear HB; have HB := n0_; clear n0_; (try clear hb); (try clear hb2); (try clear hk); (try clear hi)))
    go_ret
    exact ⟨by first | rfl | (simp [errW_none, errW_some] <;> rfl) | (simp [*, errW_none, errW_some] <;> rfl), by repeat (first | (with_reducible first | exact HB.out | apply below_alloc | apply pw_below_drewN | apply below_drew1) | exact HB.out)⟩

/-- THE ONE PURE STATEMENT of dragnetlaw07_TokenIs: yours. -/
def dragnetlaw07_TokenIs.Pure : Prop := ∀ (a0 : ByteArray), a0.size ≤ 140737488351232 → ∃ k, dragnetlaw07_TokenIs.f k a0 = some true
theorem dragnetlaw07_TokenIs.walk (P : dragnetlaw07_TokenIs.Pure) (a0 : ByteArray) (w : World) (w0 : a0.size ≤ 140737488351232) :
    Calls Try.prog 6 #[.string a0] w fun e w' => e = .returned (.bool true) ∧ Below w.heap.size w w' := by
  obtain ⟨k, h⟩ := P a0 w0
  refine (dragnetlaw07_TokenIs.calls k a0 true w h).mono ?_
  rintro e w' ⟨rfl, hd⟩
  exact ⟨rfl, hd⟩

/-! ### dragnetlaw07_TokenCases: function 7 -/
def dragnetlaw07_TokenCases.f (k : Nat) (l0 : List Int) : Option (Bool) := (dragnetlaw07_alive.f k).bind fun t219 => (if t219 = true then ((token_Cut.f l0).bind fun t220 => ((token_Lower.f (strOfNums l0)).bind fun t223 => (if (t223.size : Int) ≤ 9223372036854775807 then ((token_Cut.f (bytesOf t223)).bind fun t228 => ((dragnetref07_Same.f k t220 t228).bind fun t231 => (some t231))) else (none)))) else (some false))
theorem dragnetlaw07_TokenCases.mono : ∀ a0 k, LeO (dragnetlaw07_TokenCases.f k a0) (dragnetlaw07_TokenCases.f (k + 1) a0) := by
  intro a0 k
  unfold dragnetlaw07_TokenCases.f
  repeat' first
      | (with_reducible exact dragnetlaw07_alive.mono _)
      | (with_reducible exact dragnetref07_Same.mono _ _ _)
      | (with_reducible exact LeO.refl _)
      | (with_reducible exact LeO.none _)
      | (with_reducible refine LeO.ite ?_ ?_)
      | (with_reducible refine LeO.bind ?_ (fun _ => ?_))
      | exact dragnetlaw07_alive.mono _
      | exact dragnetref07_Same.mono _ _ _
      | exact LeO.none _
      | refine LeO.ite ?_ ?_
      | refine LeO.bind ?_ (fun _ => ?_)
def dragnetlaw07_TokenCases.T3 : Bool × List (List Nat × List Nat) := (true, [([], []), ([0], [0]), ([], []), ([2], [2]), ([3, 1], [3]), ([4], [4]), ([5, 4], [5]), ([1, 6, 0, 1], [1]), ([6, 7, 0, 1, 2, 3, 4, 5, 6, 7], [6])])
def dragnetlaw07_TokenCases.B3 : List Nat := [0, 1, 0, 4, 15, 31, 63, 127, 255]
theorem dragnetlaw07_TokenCases.tab3 : rtab .any (opsOf Try.f7 3) = dragnetlaw07_TokenCases.T3 := by kernel_rfl
theorem dragnetlaw07_TokenCases.bits3 : waitsOk dragnetlaw07_TokenCases.T3.2 dragnetlaw07_TokenCases.B3 = true := by kernel_rfl
set_option maxHeartbeats 8000000 in
set_option maxRecDepth 100000 in
theorem dragnetlaw07_TokenCases.calls (k : Nat) (A0 : Option Addr) (c0 : Nat) (l0 : List Int) (r : Bool) (w : World) (hr0 : Kd.C (Kd.int .u8) w A0 l0.length l0) (hc0 : l0.length ≤ c0) (h : dragnetlaw07_TokenCases.f k l0 = some r) :
    Calls Try.prog 7 #[.slice A0 l0.length c0] w fun e w' => e = .returned (.bool r) ∧ Below w.heap.size w w' := by
  have HR0 := Aside0.mk hr0
  have HC0 := Aside0.mk hc0
  clear hr0 hc0
  have HB := Aside0.mk (Below.refl w.heap.size w)
  have H : ((dragnetlaw07_alive.f k).bind fun t219 => (if t219 = true then ((token_Cut.f l0).bind fun t220 => ((token_Lower.f (strOfNums l0)).bind fun t223 => (if (t223.size : Int) ≤ 9223372036854775807 then ((token_Cut.f (bytesOf t223)).bind fun t228 => ((dragnetref07_Same.f k t220 t228).bind fun t231 => (some t231))) else (none)))) else (some false))) = some r := h
  clear h
  replace H := Option.bind_eq_some_iff.mp H
  obtain ⟨t219, A20, H⟩ := H
  replace H : (if t219 = true then ((token_Cut.f l0).bind fun t220 => ((token_Lower.f (strOfNums l0)).bind fun t223 => (if (t223.size : Int) ≤ 9223372036854775807 then ((token_Cut.f (bytesOf t223)).bind fun t228 => ((dragnetref07_Same.f k t220 t228).bind fun t231 => (some t231))) else (none)))) else (some false)) = some r := H
  have A2 := Aside0.mk A20
  clear A20
  by_cases c3 : t219 = true
  · subst c3
    have H1 : ((token_Cut.f l0).bind fun t220 => ((token_Lower.f (strOfNums l0)).bind fun t223 => (if (t223.size : Int) ≤ 9223372036854775807 then ((token_Cut.f (bytesOf t223)).bind fun t228 => ((dragnetref07_Same.f k t220 t228).bind fun t231 => (some t231))) else (none)))) = some r := by rw [if_pos rfl] at H; exact H
    clear H
    have H := H1
    clear H1
    replace H := Option.bind_eq_some_iff.mp H
    obtain ⟨t220, A40, H⟩ := H
    replace H : ((token_Lower.f (strOfNums l0)).bind fun t223 => (if (t223.size : Int) ≤ 9223372036854775807 then ((token_Cut.f (bytesOf t223)).bind fun t228 => ((dragnetref07_Same.f k t220 t228).bind fun t231 => (some t231))) else (none))) = some r := H
    have A4 := Aside0.mk A40
    clear A40
    replace H := Option.bind_eq_some_iff.mp H
    obtain ⟨t223, A50, H⟩ := H
    replace H : (if (t223.size : Int) ≤ 9223372036854775807 then ((token_Cut.f (bytesOf t223)).bind fun t228 => ((dragnetref07_Same.f k t220 t228).bind fun t231 => (some t231))) else (none)) = some r := H
    have A5 := Aside0.mk A50
    clear A50
    by_cases c6 : (t223.size : Int) ≤ 9223372036854775807
    · rw [if_pos c6] at H
      have c6b0 := eq_true c6
      have c6b1 : decide ((t223.size : Int) ≤ 9223372036854775807) = true := decide_eq_true c6
      try have c6b2 : (9223372036854775807 < (t223.size : Int)) = False := eq_false (Nat.not_lt.2 c6)
      clear c6
      obtain ⟨y224, hy224⟩ : ∃ y_ : List Int, y_ = (bytesOf t223) := ⟨_, rfl⟩
      replace H : ((token_Cut.f y224).bind fun t228 => ((dragnetref07_Same.f k t220 t228).bind fun t231 => (some t231))) = some r := by first | (rw [hy224]; with_reducible exact H) | (have H2_ := (Option.bind_some _ _).symm.trans H; rw [hy224]; with_reducible exact H2_) | (have H2_ := (Option.bind_some _ _).symm.trans H; with_reducible exact H2_) | with_reducible exact H | (rw [hy224]; exact H) | exact H
      have Ny224 := Aside0.mk hy224
      clear hy224
      replace H := Option.bind_eq_some_iff.mp H
      obtain ⟨t228, A70, H⟩ := H
      replace H : ((dragnetref07_Same.f k t220 t228).bind fun t231 => (some t231)) = some r := H
      have A7 := Aside0.mk A70
      clear A70
      replace H := Option.bind_eq_some_iff.mp H
      obtain ⟨t231, A80, H⟩ := H
      replace H : (some t231) = some r := H
      have A8 := Aside0.mk A80
      clear A80
      obtain rfl := Option.some.inj H
      go_enter Try.func7, Try.ntmps7
      try go_wp2_with (first | ((with_reducible refine gate_callee (f := 9) rfl ?_); refine goesL_ (some 5) rfl rfl Try.func9 (by kernel_rfl) rfl #[] rfl (by (try simp only [List.map_toArray, List.map_cons, List.map_nil]); first | done | rfl | (simp only [List.length_drop, List.length_take]; rfl)) ?_; (with_reducible refine (dragnetlaw07_alive.calls k  true _ A2.out).mono ?_); rintro e w9 ⟨rfl, hb⟩; refine ⟨_, rfl, ?_⟩; have n0_ := Aside0.mk (below_step (by repeat (first | (with_reducible first | exact HB.out | apply below_alloc | apply pw_below_drewN | apply below_drew1) | exact HB.out)) hb); clear HB; have HB := n0_; clear n0_; (try clear hb); (try clear hb2); (try clear hk); (try clear hi)))
      (try (rw [drewN_self w9]; generalize hq_ : World.drewN w9 _ = w9; have n0_ : Aside0 (Below w.heap.size w w9) := ⟨by rw [← hq_]; exact (by repeat (first | (with_reducible first | exact HB.out | apply below_alloc | apply pw_below_drewN | apply below_drew1) | exact HB.out))⟩; clear HB hq_; have HB := n0_; clear n0_))
      have n0_ := Aside0.mk (below_drew1 HB.out)
      clear HB
      have HB := n0_
      clear n0_
      refine start_ (n := 9) (S := fun w' => (convert 22 9 (.slice A0 l0.length c0)).run Try.prog w' = .ok (.string (strOfNums l0)) w') (ds := []) #[false, false, false, false, false, false, false, false, false] (by kernel_rfl) rfl rfl ((Kd.C_string (P := Try.prog) (A := A0) (c := c0) Try.underlying22 Try.underlying5 Try.underlying9 (Kd.C_below HR0.out HB.out))) (fun hHeld => ?_); refine with_tabW dragnetlaw07_TokenCases.tab3 dragnetlaw07_TokenCases.bits3 (fun HT_ HW_ => ?_)
      generalize w9.drew = w10 at HB hHeld ⊢
      refine pure_ (i := 0) (N := some 7) (v := ?_) (a' := ?_) #[true, false, false, false, false, false, false, false, false] rfl rfl (any_of HT_.out (by kernel_rfl)) (fun _ _ _ h => h) (Or.inl ⟨by rfl, ?_⟩) ?_ ?_
      rotate_left
      · intro w'
        go_simp
        with_reducible rfl
      rotate_left
      · simp only [Act.put, List.setIfInBounds_toArray, List.set_cons_zero, List.set_cons_succ, i64_w, i32_w]
        rfl
      refine pure_ (i := 2) (N := some 9) (v := ?_) (a' := ?_) #[true, false, true, false, false, false, false, false, false] rfl rfl (any_of HT_.out (by kernel_rfl)) (fun _ _ _ h => h) (Or.inl ⟨by rfl, ?_⟩) ?_ ?_
      rotate_left
      · intro w'
        go_simp
        with_reducible rfl
      rotate_left
      · simp only [Act.put, List.setIfInBounds_toArray, List.set_cons_zero, List.set_cons_succ, i64_w, i32_w]
        rfl
      refine take_ (i := 3) (N := some 10) (v := ?_) (a' := ?_) #[true, false, true, true, false, false, false, false, false] rfl rfl (take_ofW HT_.out HW_.out (by kernel_rfl)) (fun _ _ _ h => h) (Or.inl ⟨by rfl, ?_⟩) hHeld ?_ ?_
      rotate_left
      · intro w' s0
        go_simp
        with_reducible rfl
      rotate_left
      · simp only [Act.put, List.setIfInBounds_toArray, List.set_cons_zero, List.set_cons_succ, i64_w, i32_w]
        rfl
      refine one_ (i := 1) (N := some 8) #[true, true, true, true, false, false, false, false, false] rfl rfl (one_of HT_.out (by kernel_rfl)) (by decide) (fun K hK => ?_)
      refine goes_ Try.func12 (by kernel_rfl) rfl #[.slice A0 l0.length c0] (by rfl) rfl rfl (by (try simp only [List.map_toArray, List.map_cons, List.map_nil]); first | done | rfl | (simp only [List.length_drop, List.length_take]; rfl)) ?_
      with_reducible refine (token_Cut.calls _ _ l0 t220 _ ?side1 ?side2 A4.out).mono ?_
      (case side1 => repeat (first | exact (Kd.C_below HR0.out HB.out) | (with_reducible refine Kd.C_alloc ?_ _) | (with_reducible refine Kd.C_drewN ?_ _) | (with_reducible refine Kd.C_drew ?_)))
      (case side2 => exact HC0.out)
      rintro e w11 ⟨v221, rfl, ho0, hb⟩
      refine ⟨_, rfl, ?_⟩
      have n0_ := Aside0.mk (Kd.R_lower ho0 (below_size (by repeat (first | (with_reducible first | exact HB.out | apply below_alloc | apply pw_below_drewN | apply below_drew1) | exact HB.out))))
      have n1_ := Aside0.mk (below_step (by repeat (first | (with_reducible first | exact HB.out | apply below_alloc | apply pw_below_drewN | apply below_drew1) | exact HB.out)) hb)
      clear HB
      have HO222 := n0_
      have HB := n1_
      clear n0_ n1_
      (try clear hb)
      (try clear hb2)
      (try clear hk)
      (try clear hi)
      (try clear ho0)
      refine hK.out _ _ ((Kd.C_string (P := Try.prog) (A := A0) (c := c0) Try.underlying22 Try.underlying5 Try.underlying9 (Kd.C_below HR0.out HB.out))) (fun hHeld => ?_)
      clear hK K
      refine norm_ (a' := ?_) ?_ ?_
      rotate_left
      · show Act.put _ (some 8) _ = _
        simp only [Act.put, List.setIfInBounds_toArray, List.set_cons_zero, List.set_cons_succ, i64_w, i32_w]
        rfl
      refine one_ (i := 4) (N := some 11) #[true, true, true, true, true, false, false, false, false] rfl rfl (one_of HT_.out (by kernel_rfl)) (by decide) (fun K hK => ?_)
      refine goes_ Try.func17 (by kernel_rfl) rfl #[.string (strOfNums l0)] (by rfl) rfl rfl (by (try simp only [List.map_toArray, List.map_cons, List.map_nil]); first | done | rfl | (simp only [List.length_drop, List.length_take]; rfl)) ?_
      with_reducible refine (token_Lower.calls (strOfNums l0) t223 _ A5.out).mono ?_
      rintro e w13 ⟨rfl, hb⟩
      refine ⟨_, rfl, ?_⟩
      have n0_ := Aside0.mk (Kd.R_below (by (with_reducible repeat (first | apply Kd.R_alloc | apply Kd.R_drewN | apply Kd.R_drew)); exact HO222.out) hb)
      have n1_ := Aside0.mk (below_step (by repeat (first | (with_reducible first | exact HB.out | apply below_alloc | apply pw_below_drewN | apply below_drew1) | exact HB.out)) hb)
      clear HO222
      clear HB
      have HO222 := n0_
      have HB := n1_
      clear n0_ n1_
      (try clear hb)
      (try clear hb2)
      (try clear hk)
      (try clear hi)
      refine hK.out _ _ ((Kd.C_string (P := Try.prog) (A := A0) (c := c0) Try.underlying22 Try.underlying5 Try.underlying9 (Kd.C_below HR0.out HB.out))) (fun hHeld => ?_)
      clear hK K
      refine norm_ (a' := ?_) ?_ ?_
      rotate_left
      · show Act.put _ (some 11) _ = _
        simp only [Act.put, List.setIfInBounds_toArray, List.set_cons_zero, List.set_cons_succ, i64_w, i32_w]
        rfl
      refine one_ (i := 5) (N := some 12) #[true, true, true, true, true, true, false, false, false] rfl rfl (one_of HT_.out (by kernel_rfl)) (by decide) (fun K hK => ?_)
      refine Kd.conv_step (by rfl) (N := 12) rfl 9 22 5 (.tmp 11) rfl Try.underlying9 Try.underlying22 Try.underlying5 t223 (by first | rfl | (go_simp; rfl)) y224 Ny224.out (by have h_ : (t223.size : Int) ≤ 9223372036854775807 := of_decide_eq_true (by first | (with_reducible assumption) | assumption); omega) ?_
      intro A227 c227 w14 hcc_ hC_ hb
      have n0_ := Aside0.mk (Kd.R_below (by (with_reducible repeat (first | apply Kd.R_alloc | apply Kd.R_drewN | apply Kd.R_drew)); exact HO222.out) hb)
      have n1_ := Aside0.mk (below_step (by repeat (first | (with_reducible first | exact HB.out | apply below_alloc | apply pw_below_drewN | apply below_drew1) | exact HB.out)) hb)
      have n2_ := Aside0.mk (hC_)
      have n3_ := Aside0.mk (hcc_)
      clear HO222
      clear HB
      have HO222 := n0_
      have HB := n1_
      have HR227 := n2_
      have HC227 := n3_
      clear n0_ n1_ n2_ n3_
      clear hb hC_ hcc_
      refine hK.out _ _ ((Kd.C_string (P := Try.prog) (A := A0) (c := c0) Try.underlying22 Try.underlying5 Try.underlying9 (Kd.C_below HR0.out HB.out))) (fun hHeld => ?_)
      clear hK K
      refine norm_ (a' := ?_) ?_ ?_
      rotate_left
      · show Act.put _ (some 12) _ = _
        simp only [Act.put, List.setIfInBounds_toArray, List.set_cons_zero, List.set_cons_succ, i64_w, i32_w]
        rfl
      refine one_ (i := 6) (N := some 13) #[true, true, true, true, true, true, true, false, false] rfl rfl (one_of HT_.out (by kernel_rfl)) (by decide) (fun K hK => ?_)
      refine goes_ Try.func12 (by kernel_rfl) rfl #[.slice (some A227) y224.length c227] (by rfl) rfl rfl (by (try simp only [List.map_toArray, List.map_cons, List.map_nil]); first | done | rfl | (simp only [List.length_drop, List.length_take]; rfl)) ?_
      with_reducible refine (token_Cut.calls _ _ y224 t228 _ ?side1 ?side2 A7.out).mono ?_
      (case side1 => repeat (first | exact (by repeat (first | (with_reducible exact HR227.out) | (with_reducible refine Kd.C_alloc ?_ _) | (with_reducible refine Kd.C_drewN ?_ _) | (with_reducible refine Kd.C_drew ?_) | exact HR227.out)) | (with_reducible refine Kd.C_alloc ?_ _) | (with_reducible refine Kd.C_drewN ?_ _) | (with_reducible refine Kd.C_drew ?_)))
      (case side2 => exact HC227.out)
      rintro e w15 ⟨v229, rfl, ho0, hb⟩
      refine ⟨_, rfl, ?_⟩
      have n0_ := Aside0.mk (Kd.R_elder' (by (with_reducible repeat (first | apply Kd.R_alloc | apply Kd.R_drewN | apply Kd.R_drew)); exact HO222.out) (Kd.R_base ho0) hb)
      have n1_ := Aside0.mk (Kd.R_lower (Kd.R_new' ho0 (Kd.R_lt (by (with_reducible repeat (first | apply Kd.R_alloc | apply Kd.R_drewN | apply Kd.R_drew)); exact HO222.out))) (below_size (by repeat (first | (with_reducible first | exact HB.out | apply below_alloc | apply pw_below_drewN | apply below_drew1) | exact HB.out))))
      have n2_ := Aside0.mk (Kd.C_below (by repeat (first | (with_reducible exact HR227.out) | (with_reducible refine Kd.C_alloc ?_ _) | (with_reducible refine Kd.C_drewN ?_ _) | (with_reducible refine Kd.C_drew ?_) | exact HR227.out)) hb)
      have n3_ := Aside0.mk (below_step (by repeat (first | (with_reducible first | exact HB.out | apply below_alloc | apply pw_below_drewN | apply below_drew1) | exact HB.out)) hb)
      clear HO222
      clear HR227
      clear HB
      have HO222 := n0_
      have HO230 := n1_
      have HR227 := n2_
      have HB := n3_
      clear n0_ n1_ n2_ n3_
      (try clear hb)
      (try clear hb2)
      (try clear hk)
      (try clear hi)
      (try clear ho0)
      refine hK.out _ _ ((Kd.C_string (P := Try.prog) (A := A0) (c := c0) Try.underlying22 Try.underlying5 Try.underlying9 (Kd.C_below HR0.out HB.out))) (fun hHeld => ?_)
      clear hK K
      refine norm_ (a' := ?_) ?_ ?_
      rotate_left
      · show Act.put _ (some 13) _ = _
        simp only [Act.put, List.setIfInBounds_toArray, List.set_cons_zero, List.set_cons_succ, i64_w, i32_w]
        rfl
      refine pure_ (i := 7) (N := some 3) (v := ?_) (a' := ?_) #[true, true, true, true, true, true, true, true, false] rfl rfl (any_of HT_.out (by kernel_rfl)) (fun _ _ _ h => h) (Or.inl ⟨by rfl, ?_⟩) ?_ ?_
      rotate_left
      · intro w'
        go_simp
        with_reducible rfl
      rotate_left
      · simp only [Act.put, List.setIfInBounds_toArray, List.set_cons_zero, List.set_cons_succ, i64_w, i32_w]
        rfl
      refine pure_ (i := 8) (N := some 4) (v := ?_) (a' := ?_) #[true, true, true, true, true, true, true, true, true] rfl rfl (any_of HT_.out (by kernel_rfl)) (fun _ _ _ h => h) (Or.inl ⟨by rfl, ?_⟩) ?_ ?_
      rotate_left
      · intro w'
        go_simp
        with_reducible rfl
      rotate_left
      · simp only [Act.put, List.setIfInBounds_toArray, List.set_cons_zero, List.set_cons_succ, i64_w, i32_w]
        rfl
      refine done_ (done_of HT_.out (by kernel_rfl)) ?_
      obtain ⟨Ao16, co16, eo16⟩ := Kd.R_slice HO222.out
      subst eo16
      obtain ⟨Ao17, co17, eo17⟩ := Kd.R_slice HO230.out
      subst eo17
      try go_wp2_with (first | ((with_reducible refine gate_callee (f := 11) rfl ?_); refine goesL_ (some 16) rfl rfl Try.func11 (by kernel_rfl) rfl #[.slice Ao16 t220.length co16, .slice Ao17 t228.length co17] rfl (by (try simp only [List.map_toArray, List.map_cons, List.map_nil]); first | done | rfl | (simp only [List.length_drop, List.length_take]; rfl)) ?_; (with_reducible refine (dragnetref07_Same.calls k _ _ t220 _ _ t228 t231 _ ?side1 ?side2 ?side3 ?side4 A8.out).mono ?_); (case side1 => repeat (first | exact (Kd.R_reads' HO222.out).2.2 | (with_reducible refine Kd.C_alloc ?_ _) | (with_reducible refine Kd.C_drewN ?_ _) | (with_reducible refine Kd.C_drew ?_))); (case side2 => exact (Kd.R_reads' HO222.out).2.1); (case side3 => repeat (first | exact (Kd.R_reads' HO230.out).2.2 | (with_reducible refine Kd.C_alloc ?_ _) | (with_reducible refine Kd.C_drewN ?_ _) | (with_reducible refine Kd.C_drew ?_))); (case side4 => exact (Kd.R_reads' HO230.out).2.1); rintro e w' ⟨rfl, ⟨nd, rfl⟩⟩; refine ⟨_, rfl, ?_⟩))
      go_ret
      exact ⟨by first | rfl | (simp [errW_none, errW_some] <;> rfl) | (simp [*, errW_none, errW_some] <;> rfl), by repeat (first | (with_reducible first | exact HB.out | apply below_alloc | apply pw_below_drewN | apply below_drew1) | exact HB.out)⟩
    · rw [if_neg c6] at H
      exact absurd H (by simp)
  · replace c3 := Bool.eq_false_iff.mpr c3
    subst c3
    have H1 : (some false) = some r := by rw [if_neg (show ¬ (false = true) by decide)] at H; exact H
    clear H
    have H := H1
    clear H1
    obtain rfl := Option.some.inj H
    go_enter Try.func7, Try.ntmps7
    go_wp2_with (first | ((with_reducible refine gate_callee (f := 9) rfl ?_); refine goesL_ (some 5) rfl rfl Try.func9 (by kernel_rfl) rfl #[] rfl (by (try simp only [List.map_toArray, List.map_cons, List.map_nil]); first | done | rfl | (simp only [List.length_drop, List.length_take]; rfl)) ?_; (with_reducible refine (dragnetlaw07_alive.calls k  false _ A2.out).mono ?_); rintro e w18 ⟨rfl, hb⟩; refine ⟨_, rfl, ?_⟩; have n0_ := Aside0.mk (below_step (by repeat (first | (with_reducible first | exact HB.out | apply below_alloc | apply pw_below_drewN | apply below_drew1) | exact HB.out)) hb); clear HB; have HB := n0_; clear n0_; (try clear hb); (try clear hb2); (try clear hk); (try clear hi)))
    go_ret
    exact ⟨by first | rfl | (simp [errW_none, errW_some] <;> rfl) | (simp [*, errW_none, errW_some] <;> rfl), by repeat (first | (with_reducible first | exact HB.out | apply below_alloc | apply pw_below_drewN | apply below_drew1) | exact HB.out)⟩

/-- THE ONE PURE STATEMENT of dragnetlaw07_TokenCases: yours. -/
def dragnetlaw07_TokenCases.Pure : Prop := ∀ (l0 : List Int), l0.length ≤ maxLen → l0.length * 1 ≤ 140737488351232 → (∀ x ∈ l0, (Lit.int .u8 x).wf = true) → ∃ k, dragnetlaw07_TokenCases.f k l0 = some true
theorem dragnetlaw07_TokenCases.walk (P : dragnetlaw07_TokenCases.Pure) (a0 : Option Addr) (len0 cap0 : Nat) (z0 : List Int) (w : World) (w0 : (a0 = none ∧ len0 = 0 ∧ cap0 = 0 ∧ z0 = []) ∨ ∃ x, a0 = some x ∧ len0 ≤ cap0 ∧ cap0 ≤ maxLen ∧ z0.length = cap0 ∧ (∀ i, i < z0.length → w.cell? (x.add i) = some (.int .u8 (z0.getD i 0))) ∧ ∀ n ∈ z0, (Lit.int .u8 n).wf = true) (y0 : len0 * 1 ≤ 140737488351232) :
    Calls Try.prog 7 #[.slice a0 len0 cap0] w fun e w' => e = .returned (.bool true) ∧ Below w.heap.size w w' := by
  obtain ⟨l0, rfl, hr0, hm0, hw0, hc0⟩ := ReadsInt.ofRowC w0
  obtain ⟨k, h⟩ := P l0 hm0 y0 hw0
  refine (dragnetlaw07_TokenCases.calls k _ _ l0 true w (Kd.C_of_reads (d := (0 : Int)) (h1 := fun _ => rfl) hr0) hc0 h).mono ?_
  rintro e w' ⟨rfl, hd⟩
  exact ⟨rfl, hd⟩

end Go.Proofs.Ytlmegmjdjdmmgaa.P
