-- WRITTEN BY wip/tools/myprint.py (this session's program, over the kit's printer); Lean checks it.
import Derived.Test.YtlmegmjdjdmmgaaPx0
import Derived.Test.YtlmegmjdjdmmgaaPx1
namespace Go.Proofs.Ytlmegmjdjdmmgaa.P
open Go.RowKit Go.Proofs.YtlmegmjdjdmmgaaW.PrintWords Go.Proofs.YtlmegmjdjdmmgaaW.PrintLast Go.Proofs.YtlmegmjdjdmmgaaW.PrintMore
attribute [local go_sem] max2_int min2_int max_two min_two max_three min_three max_four min_four   -- for this text's walks alone
set_option linter.unusedVariables false
set_option linter.unusedSimpArgs false

attribute [local go_sem high] eqA31
/-! ### token_in: function 22 -/
mutual
def token_in.j0 : Nat → Int → Bool → Option (Bool)
  | 0, _, _ => none
  | k + 1, x0, x3 => if x3 = true then (some true) else (if x0 ≥ 65 then (token_in.j1 k x0 (decide (x0 ≤ 90))) else (token_in.j1 k x0 false))
def token_in.j1 : Nat → Int → Bool → Option (Bool)
  | 0, _, _ => none
  | k + 1, x0, x3 => if x3 = true then (some true) else (if x0 ≥ 48 then (if x0 ≤ 57 then (some true) else (some (decide (x0 ≥ 128)))) else (some (decide (x0 ≥ 128))))
end
def token_in.f (k : Nat) (a0 : Int) : Option (Bool) := if a0 ≥ 97 then (token_in.j0 k a0 (decide (a0 ≤ 122))) else (token_in.j0 k a0 false)
theorem token_in.mono_l : ∀ k, (∀ y0 y1, LeO (token_in.j0 k y0 y1) (token_in.j0 (k + 1) y0 y1)) ∧ (∀ y0 y1, LeO (token_in.j1 k y0 y1) (token_in.j1 (k + 1) y0 y1))
  | 0 => ⟨fun _ _ r h => by simp [token_in.j0] at h, fun _ _ r h => by simp [token_in.j1] at h⟩
  | k + 1 => by
    obtain ⟨ih0, ih1⟩ := token_in.mono_l k
    refine ⟨?_, ?_⟩
    · intro y0 y1
      unfold token_in.j0
      repeat' first
      | (with_reducible exact ih0 _ _)
      | (with_reducible exact ih1 _ _)
      | (with_reducible exact LeO.refl _)
      | (with_reducible exact LeO.none _)
      | (with_reducible refine LeO.ite ?_ ?_)
      | (with_reducible refine LeO.bind ?_ (fun _ => ?_))
      | exact ih0 _ _
      | exact ih1 _ _
      | exact LeO.none _
      | refine LeO.ite ?_ ?_
      | refine LeO.bind ?_ (fun _ => ?_)
    · intro y0 y1
      unfold token_in.j1
      repeat' first
      | (with_reducible exact ih0 _ _)
      | (with_reducible exact ih1 _ _)
      | (with_reducible exact LeO.refl _)
      | (with_reducible exact LeO.none _)
      | (with_reducible refine LeO.ite ?_ ?_)
      | (with_reducible refine LeO.bind ?_ (fun _ => ?_))
      | exact ih0 _ _
      | exact ih1 _ _
      | exact LeO.none _
      | refine LeO.ite ?_ ?_
      | refine LeO.bind ?_ (fun _ => ?_)
theorem token_in.mono : ∀ a0 k, LeO (token_in.f k a0) (token_in.f (k + 1) a0) := by
  intro a0 k
  obtain ⟨ih0, ih1⟩ := token_in.mono_l k
  unfold token_in.f
  repeat' first
      | (with_reducible exact ih0 _ _)
      | (with_reducible exact ih1 _ _)
      | (with_reducible exact LeO.refl _)
      | (with_reducible exact LeO.none _)
      | (with_reducible refine LeO.ite ?_ ?_)
      | (with_reducible refine LeO.bind ?_ (fun _ => ?_))
      | exact ih0 _ _
      | exact ih1 _ _
      | exact LeO.none _
      | refine LeO.ite ?_ ?_
      | refine LeO.bind ?_ (fun _ => ?_)
set_option maxHeartbeats 8000000 in
set_option maxRecDepth 100000 in
theorem token_in.calls (k : Nat) (a0 : Int) (r : Bool) (w : World) (h : token_in.f k a0 = some r) :
    Calls Try.prog 22 #[.int .u8 a0] w fun e w' => e = .returned (.bool r) ∧ Drawn0 w w' := by
  have H : (if a0 ≥ 97 then (token_in.j0 k a0 (decide (a0 ≤ 122))) else (token_in.j0 k a0 false)) = some r := h
  clear h
  have HC2 := Aside0.mk H
  clear H
  go_enter Try.func22, Try.ntmps22
  go_upto_region 1 with (fail)
  go_cut [3] (fun v3 wc => ∃ (kq : Nat) (x3_1 : Bool), v3 = .bool x3_1 ∧ Aside0 (token_in.j0 kq a0 x3_1 = some r) ∧ Aside0 (kq ≤ k) ∧ Drawn0 w wc)
  case first =>
    have H := HC2.out
    clear HC2
    by_cases c3 : a0 ≥ 97
    · rw [if_pos c3] at H
      have c3b0 : decide (97 ≤ a0) = true := decide_eq_true c3
      clear c3
      (first | rw [c3b0] | (simp only [i64_w, i32_w]; rw [c3b0]) | skip)
      have H' := Aside0.mk H
      clear H
      go_wp2
      go_meet
      case rel => exact ⟨_, (decide (a0 ≤ 122)), (by first | rfl | (simp; done) | (simp [*]; done)), H', ⟨by first | omega | exact Nat.le_refl _⟩, by repeat (first | exact Drawn0.refl _ | apply Drawn0.step)⟩
    · rw [if_neg c3] at H
      have c3b0 : decide (97 ≤ a0) = false := decide_eq_false c3
      clear c3
      (first | rw [c3b0] | (simp only [i64_w, i32_w]; rw [c3b0]) | skip)
      have H' := Aside0.mk H
      clear H
      go_wp2
      go_meet
      case rel => exact ⟨_, (false), (by first | rfl | (simp; done) | (simp [*]; done)), H', ⟨by first | omega | exact Nat.le_refl _⟩, by repeat (first | exact Drawn0.refl _ | apply Drawn0.step)⟩
  case rest =>
    clear HC2
    try clear c2
    try clear p2
    try clear c3
    try clear c3b0
    obtain ⟨kq, x3_1, rfl, HA, HJ1, ⟨mc1, rfl⟩⟩ := hcut
    cases kq with
    | zero => exact absurd HA.out (by simp [token_in.j0])
    | succ kj1 =>
      have H := HA.out
      clear HA
      simp only [token_in.j0] at H
      by_cases c4 : x3_1 = true
      · subst c4
        have H1 : (some true) = some r := by rw [if_pos rfl] at H; exact H
        clear H
        have H := H1
        clear H1
        obtain rfl := Option.some.inj H
        go_wp2
        go_ret
        exact ⟨by first | rfl | (simp; done) | (simp [*]; done), by repeat (first | exact Drawn0.refl _ | apply Drawn0.step)⟩
      · replace c4 := Bool.eq_false_iff.mpr c4
        subst c4
        have H1 : (if a0 ≥ 65 then (token_in.j1 kj1 a0 (decide (a0 ≤ 90))) else (token_in.j1 kj1 a0 false)) = some r := by rw [if_neg (show ¬ (false = true) by decide)] at H; exact H
        clear H
        have H := H1
        clear H1
        have HC5 := Aside0.mk H
        clear H
        go_upto_region 2 with (fail)
        go_cut [3] (fun v3 wc => ∃ (kq : Nat) (x3_4 : Bool), v3 = .bool x3_4 ∧ Aside0 (token_in.j1 kq a0 x3_4 = some r) ∧ Aside0 (kq ≤ kj1) ∧ Drawn0 w wc)
        case first =>
          have H := HC5.out
          clear HC5
          by_cases c6 : a0 ≥ 65
          · rw [if_pos c6] at H
            have c6b0 : decide (65 ≤ a0) = true := decide_eq_true c6
            clear c6
            (first | rw [c6b0] | (simp only [i64_w, i32_w]; rw [c6b0]) | skip)
            have H' := Aside0.mk H
            clear H
            go_wp2
            go_meet
            case rel => exact ⟨_, (decide (a0 ≤ 90)), (by first | rfl | (simp; done) | (simp [*]; done)), H', ⟨by have := HJ1.out; first | omega | exact Nat.le_refl _⟩, by repeat (first | exact Drawn0.refl _ | apply Drawn0.step)⟩
          · rw [if_neg c6] at H
            have c6b0 : decide (65 ≤ a0) = false := decide_eq_false c6
            clear c6
            (first | rw [c6b0] | (simp only [i64_w, i32_w]; rw [c6b0]) | skip)
            have H' := Aside0.mk H
            clear H
            go_wp2
            go_meet
            case rel => exact ⟨_, (false), (by first | rfl | (simp; done) | (simp [*]; done)), H', ⟨by have := HJ1.out; first | omega | exact Nat.le_refl _⟩, by repeat (first | exact Drawn0.refl _ | apply Drawn0.step)⟩
        case rest =>
          clear HC5
          try clear c1
          try clear c2
          try clear p2
          try clear c3
          try clear c3b0
          try clear c4
          try clear c6
          try clear c6b0
          try clear p2
          obtain ⟨kq, x3_4, rfl, HA, HJ4, ⟨mc4, rfl⟩⟩ := hcut
          cases kq with
          | zero => exact absurd HA.out (by simp [token_in.j1])
          | succ kj4 =>
            have H := HA.out
            clear HA
            simp only [token_in.j1] at H
            by_cases c7 : x3_4 = true
            · subst c7
              have H1 : (some true) = some r := by rw [if_pos rfl] at H; exact H
              clear H
              have H := H1
              clear H1
              obtain rfl := Option.some.inj H
              go_wp2
              go_ret
              exact ⟨by first | rfl | (simp; done) | (simp [*]; done), by repeat (first | exact Drawn0.refl _ | apply Drawn0.step)⟩
            · replace c7 := Bool.eq_false_iff.mpr c7
              subst c7
              have H1 : (if a0 ≥ 48 then (if a0 ≤ 57 then (some true) else (some (decide (a0 ≥ 128)))) else (some (decide (a0 ≥ 128)))) = some r := by rw [if_neg (show ¬ (false = true) by decide)] at H; exact H
              clear H
              have H := H1
              clear H1
              by_cases c8 : a0 ≥ 48
              · rw [if_pos c8] at H
                have c8b0 : decide (48 ≤ a0) = true := decide_eq_true c8
                clear c8
                by_cases c9 : a0 ≤ 57
                · rw [if_pos c9] at H
                  have c9b0 : decide (a0 ≤ 57) = true := decide_eq_true c9
                  clear c9
                  obtain rfl := Option.some.inj H
                  go_wp2
                  go_ret
                  exact ⟨by first | rfl | (simp; done) | (simp [*]; done), by repeat (first | exact Drawn0.refl _ | apply Drawn0.step)⟩
                · rw [if_neg c9] at H
                  have c9b0 : decide (a0 ≤ 57) = false := decide_eq_false c9
                  clear c9
                  obtain rfl := Option.some.inj H
                  go_wp2
                  go_ret
                  exact ⟨by first | rfl | (simp; done) | (simp [*]; done), by repeat (first | exact Drawn0.refl _ | apply Drawn0.step)⟩
              · rw [if_neg c8] at H
                have c8b0 : decide (48 ≤ a0) = false := decide_eq_false c8
                clear c8
                obtain rfl := Option.some.inj H
                go_wp2
                go_ret
                exact ⟨by first | rfl | (simp; done) | (simp [*]; done), by repeat (first | exact Drawn0.refl _ | apply Drawn0.step)⟩

/-! ### token_lower: function 23 -/
def token_lower.f (a0 : Int) : Option (Int) := if a0 ≥ 65 then (if a0 ≤ 90 then (some ((a0 + 32) % 256)) else (some a0)) else (some a0)
set_option maxHeartbeats 8000000 in
set_option maxRecDepth 100000 in
theorem token_lower.calls (a0 : Int) (r : Int) (w : World) (h : token_lower.f a0 = some r) :
    Calls Try.prog 23 #[.int .u8 a0] w fun e w' => e = .returned (.int .u8 r) ∧ Drawn0 w w' := by
  have H : (if a0 ≥ 65 then (if a0 ≤ 90 then (some ((a0 + 32) % 256)) else (some a0)) else (some a0)) = some r := h
  clear h
  by_cases c2 : a0 ≥ 65
  · rw [if_pos c2] at H
    have c2b0 : decide (65 ≤ a0) = true := decide_eq_true c2
    clear c2
    by_cases c3 : a0 ≤ 90
    · rw [if_pos c3] at H
      have c3b0 : decide (a0 ≤ 90) = true := decide_eq_true c3
      clear c3
      obtain rfl := Option.some.inj H
      go_enter Try.func23, Try.ntmps23
      go_wp2
      go_ret
      exact ⟨by first | rfl | (simp; done) | (simp [*]; done), by repeat (first | exact Drawn0.refl _ | apply Drawn0.step)⟩
    · rw [if_neg c3] at H
      have c3b0 : decide (a0 ≤ 90) = false := decide_eq_false c3
      clear c3
      obtain rfl := Option.some.inj H
      go_enter Try.func23, Try.ntmps23
      go_wp2
      go_ret
      exact ⟨by first | rfl | (simp; done) | (simp [*]; done), by repeat (first | exact Drawn0.refl _ | apply Drawn0.step)⟩
  · rw [if_neg c2] at H
    have c2b0 : decide (65 ≤ a0) = false := decide_eq_false c2
    clear c2
    obtain rfl := Option.some.inj H
    go_enter Try.func23, Try.ntmps23
    go_wp2
    go_ret
    exact ⟨by first | rfl | (simp; done) | (simp [*]; done), by repeat (first | exact Drawn0.refl _ | apply Drawn0.step)⟩

/-! ### token_Cut: function 12 -/
def inB (c : Int) : Bool := decide (97 ≤ c ∧ c ≤ 122 ∨ 65 ≤ c ∧ c ≤ 90 ∨ 48 ≤ c ∧ c ≤ 57 ∨ 128 ≤ c)
def tokOf (acc : List S31) (run : List Int) : S31 := ⟨(acc.length : Int), strOfNums (if run.length > 64 then [] else run)⟩
def cutGo : List Int → Option (List Int) → List S31 → List S31
  | [], none, acc => acc
  | [], some run, acc => acc ++ [tokOf acc run]
  | c :: cs, none, acc => if inB c = true then cutGo cs (some [lowB c]) acc else cutGo cs none acc
  | c :: cs, some run, acc => if inB c = true then cutGo cs (some (run ++ [lowB c])) acc else cutGo cs none (acc ++ [tokOf acc run])
def cutOf (l : List Int) : List S31 := cutGo l none []
def token_Cut.f (l0 : List Int) : Option (List S31) := if l0.length ≤ 1099511627776 then (if ∀ x ∈ l0, 0 ≤ x ∧ x ≤ 255 then some (cutOf l0) else none) else none
theorem token_Cut.in (c : Int) : token_in.f 3 c = some (inB c) := by
  unfold token_in.f inB
  simp only [token_in.j0, token_in.j1]
  by_cases h1 : 97 ≤ c <;> by_cases h2 : c ≤ 122 <;> by_cases h3 : 65 ≤ c <;> by_cases h4 : c ≤ 90 <;> by_cases h5 : 48 ≤ c <;> by_cases h6 : c ≤ 57 <;> by_cases h7 : 128 ≤ c <;> simp [h1, h2, h3, h4, h5, h6, h7] <;> omega
theorem token_Cut.low {c : Int} (h0 : 0 ≤ c) (h1 : c ≤ 255) : token_lower.f c = some (lowB c) := by
  unfold token_lower.f lowB
  by_cases h : 65 ≤ c
  · rw [if_pos h]
    by_cases h2 : c ≤ 90
    · rw [if_pos h2, if_pos ⟨h, h2⟩, show (c + 32) % 256 = c + 32 by omega]
    · rw [if_neg h2, if_neg (fun e => h2 e.2)]
  · rw [if_neg h, if_neg (fun e => h e.1)]
theorem token_Cut.step0 {l0 : List Int} {acc R : List S31} {i : Nat} {x : Int} (hi : i < l0.length) (hx : x = l0.getD i 0) (h : cutGo (l0.drop i) none acc = R) :
    (inB x = true → cutGo (l0.drop i) (some []) acc = R) ∧ (inB x = false → cutGo (l0.drop (i + 1)) none acc = R) := by
  have e : l0.drop i = x :: l0.drop (i + 1) := by
    rw [List.drop_eq_getElem_cons hi, hx, List.getD_eq_getElem?_getD, List.getElem?_eq_getElem hi]; rfl
  rw [e] at h ⊢
  simp only [cutGo] at h ⊢
  refine ⟨fun hb => ?_, fun hb => ?_⟩
  · rw [if_pos hb] at h ⊢; exact h
  · rw [if_neg (by rw [hb]; decide)] at h; exact h
theorem token_Cut.step1 {l0 : List Int} {acc R : List S31} {run : List Int} {i : Nat} {x : Int} (hi : i < l0.length) (hx : x = l0.getD i 0) (h : cutGo (l0.drop i) (some run) acc = R) :
    (inB x = true → cutGo (l0.drop (i + 1)) (some (run ++ [lowB x])) acc = R) ∧ (inB x = false → cutGo (l0.drop i) none (acc ++ [tokOf acc run]) = R) := by
  have e : l0.drop i = x :: l0.drop (i + 1) := by
    rw [List.drop_eq_getElem_cons hi, hx, List.getD_eq_getElem?_getD, List.getElem?_eq_getElem hi]; rfl
  rw [e] at h ⊢
  simp only [cutGo] at h ⊢
  refine ⟨fun hb => ?_, fun hb => ?_⟩
  · rw [if_pos hb] at h; exact h
  · rw [if_neg (by rw [hb]; decide)] at h ⊢; exact h
theorem token_Cut.end1 {l0 : List Int} {acc R : List S31} {run : List Int} {i : Nat} (hi : ¬ i < l0.length) (h : cutGo (l0.drop i) (some run) acc = R) : cutGo (l0.drop i) none (acc ++ [tokOf acc run]) = R := by
  rw [List.drop_of_length_le (by omega)] at h ⊢
  simp only [cutGo] at h ⊢
  exact h
set_option maxHeartbeats 8000000 in
set_option maxRecDepth 100000 in
theorem token_Cut.calls (A0 : Option Addr) (c0 : Nat) (l0 : List Int) (r : List S31) (w : World) (hr0 : Kd.C (Kd.int .u8) w A0 l0.length l0) (hc0 : l0.length ≤ c0) (h : token_Cut.f l0 = some r) :
    Calls Try.prog 12 #[.slice A0 l0.length c0] w fun e w' => ∃ v0_ : Value, e = .returned (v0_) ∧ Kd.R k31 31 w' w.heap.size (fun _ => True) v0_ r ∧ Below w.heap.size w w' := by
  have HR0 := Aside0.mk hr0
  have HC0 := Aside0.mk hc0
  clear hr0 hc0
  unfold token_Cut.f at h
  by_cases hl : l0.length ≤ 1099511627776
  · rw [if_pos hl] at h
    by_cases hb8 : ∀ x ∈ l0, 0 ≤ x ∧ x ≤ 255
    · rw [if_pos hb8] at h
      obtain rfl := Option.some.inj h
      clear h
      obtain ⟨R, hR⟩ : ∃ R, R = cutOf l0 := ⟨_, rfl⟩
      rw [← hR]
      have NR := Aside0.mk hR
      have HB8 := Aside0.mk hb8
      have HLn := Aside0.mk hl
      clear hR hb8 hl
      go_enter Try.func12, Try.ntmps12
      go_wp2
      obtain ⟨J0, hJ0⟩ : ∃ J, J = (fun (n : Nat) (a' : Act) (W : World) => ∃ (i : Nat) (acc : List S31) (run : List Int) (v3 v4 u1 u6 u7 u8 u9 u10 u11 u12 u13 u14 u15 u16 u17 u18 u19 u20 u21 u22 u23 u24 u25 u26 u27 u28 u29 u30 u31 u32 u33 u34 u35 u36 u37 u38 u39 u40 u41 u42 u43 u44 u45 u46 u47 u48 u49 u50 u51 u52 u53 : Value), a' = { tmps := #[.slice A0 l0.length c0, u1, .slice none 0 0, v3, v4, .int .i64 (i : Int), u6, u7, u8, u9, u10, u11, u12, u13, u14, u15, u16, u17, u18, u19, u20, u21, u22, u23, u24, u25, u26, u27, u28, u29, u30, u31, u32, u33, u34, u35, u36, u37, u38, u39, u40, u41, u42, u43, u44, u45, u46, u47, u48, u49, u50, u51, u52, u53], defers := [] } ∧ i ≤ l0.length ∧ Aside0 (n = 3 * (l0.length - i) + (if i < l0.length then (if inB (l0.getD i 0) = true then 2 else 0) else 0)) ∧ Aside0 (cutGo (l0.drop i) none acc = R) ∧ Aside0 (acc.length + n ≤ 3 * l0.length + 2) ∧ Aside0 (run.length + n ≤ 3 * l0.length + 2) ∧ Aside0 (Kd.R k31 31 W w.heap.size (fun _ => True) v3 acc) ∧ Aside0 (Kd.R (Kd.int .u8) 5 W w.heap.size (fun _ => True) v4 run) ∧ Aside0 (Below w.heap.size w W)) := ⟨_, rfl⟩
      obtain ⟨J1, hJ1⟩ : ∃ J, J = (fun (n : Nat) (a' : Act) (W : World) => ∃ (i : Nat) (acc : List S31) (run : List Int) (v3 v4 u1 u6 u7 u8 u9 u10 u11 u12 u13 u14 u15 u16 u17 u18 u19 u20 u21 u22 u23 u24 u25 u26 u27 u28 u29 u30 u31 u32 u33 u34 u35 u36 u37 u38 u39 u40 u41 u42 u43 u44 u45 u46 u47 u48 u49 u50 u51 u52 u53 : Value), a' = { tmps := #[.slice A0 l0.length c0, u1, .slice none 0 0, v3, v4, .int .i64 (i : Int), u6, u7, u8, u9, u10, u11, u12, u13, u14, u15, u16, u17, u18, u19, u20, u21, u22, u23, u24, u25, u26, u27, u28, u29, u30, u31, u32, u33, u34, u35, u36, u37, u38, u39, u40, u41, u42, u43, u44, u45, u46, u47, u48, u49, u50, u51, u52, u53], defers := [] } ∧ i ≤ l0.length ∧ Aside0 (n = 3 * (l0.length - i) + 1) ∧ Aside0 (cutGo (l0.drop i) (some run) acc = R) ∧ Aside0 (acc.length + n ≤ 3 * l0.length + 2) ∧ Aside0 (run.length + n ≤ 3 * l0.length + 2) ∧ Aside0 (Kd.R k31 31 W w.heap.size (fun _ => True) v3 acc) ∧ Aside0 (Kd.R (Kd.int .u8) 5 W w.heap.size (fun _ => True) v4 run) ∧ Aside0 (Below w.heap.size w W)) := ⟨_, rfl⟩
      have HJ0 := Aside0.mk hJ0
      have HJ1 := Aside0.mk hJ1
      clear hJ0 hJ1
      refine wp_scope_two 0 1 J0 J1 rfl rfl ?pass0 ?pass1 ?first
      case first =>
        intro hp
        go_wp2
        go_step3
        rename_i Q1 K1 hK1
        refine hK1 _ _ ?_
        refine hp (3 * (l0.length - 0) + (if 0 < l0.length then (if inB (l0.getD 0 0) = true then 2 else 0) else 0)) _ _ ?_
        rw [HJ0.out]
        exact ⟨0, [], [], .slice none 0 0, .slice none 0 0, _, _, _, _, _, _, _, _, _, _, _, _, _, _, _, _, _, _, _, _, _, _, _, _, _, _, _, _, _, _, _, _, _, _, _, _, _, _, _, _, _, _, _, _, _, _, _, _, _, rfl, Nat.zero_le _, ⟨rfl⟩, ⟨NR.out.symm⟩, ⟨by simp only [List.length_nil]; split <;> (try split) <;> omega⟩, ⟨by simp only [List.length_nil]; split <;> (try split) <;> omega⟩, ⟨Kd.R_nil _ _ _ _ _⟩, ⟨Kd.R_nil _ _ _ _ _⟩, ⟨Below.refl _ _⟩⟩
      case pass0 =>
        intro n a' W hJ
        rw [HJ0.out] at hJ
        obtain ⟨i, acc, run, v3, v4, u1, u6, u7, u8, u9, u10, u11, u12, u13, u14, u15, u16, u17, u18, u19, u20, u21, u22, u23, u24, u25, u26, u27, u28, u29, u30, u31, u32, u33, u34, u35, u36, u37, u38, u39, u40, u41, u42, u43, u44, u45, u46, u47, u48, u49, u50, u51, u52, u53, rfl, hi, HN, HC, HA, HU, HL, HR, HB⟩ := hJ
        by_cases hlt : i < l0.length
        · have hne : ((i : Int) == (l0.length : Int)) = false := by simp; omega
          have hne2 : (i == l0.length) = false := by simp; omega
          obtain ⟨ad, e1, hx⟩ := Kd.at_int (Kd.C_below HR0.out HB.out) (i : Int) (by omega) (by omega)
          cases e1
          have hx0 : rd l0 (i : Int) = l0.getD i 0 := by unfold rd; rw [Int.toNat_natCast]
          rw [hx0, Int.toNat_natCast] at hx
          obtain ⟨x, hxx⟩ : ∃ x, x = l0.getD i 0 := ⟨_, rfl⟩
          have HS := Aside0.mk (token_Cut.step0 hlt hxx HC.out)
          rw [← hxx] at hx
          have HX := Aside0.mk hxx
          have HI := Aside0.mk (token_Cut.in x)
          have HNe : Aside0 (n = 3 * (l0.length - i) + (if inB x = true then 2 else 0)) := ⟨by rw [HN.out, if_pos hlt, ← hxx]⟩
          have hi1 : (i : Int) < (l0.length : Int) := by omega
          have hi0 : (0 : Int) ≤ (i : Int) := by omega
          clear hxx hx0 HN
          obtain ⟨A4, c4, e4⟩ := Kd.R_slice HR.out
          subst e4
          have hr4 := (Kd.R_reads' HR.out).2.1
          obtain ⟨i04, hi04, _, _, _⟩ := info_parts info5
          have hcut := cut_to (P := Try.prog) 22 5 .i64 Try.underlying22 hi04 A4 run.length c4 0 (by omega) (by omega) hr4
          have HT := Aside0.mk (Kd.R_take (m := 0) HR.out (Nat.zero_le _))
          simp only [Int.toNat_zero] at hcut
          clear hr4 hi04
          cases hbx : inB x with
          | true =>
            rw [hbx] at HI HS HNe
            have HCut := Aside0.mk (HS.out.1 rfl)
            clear HS hbx HC
            go_wp2_with (first | (go_at_call 22; (with_reducible refine (token_in.calls _ x true _ HI.out).mono ?_); rintro e w2 ⟨rfl, ⟨nd, rfl⟩⟩))
            go_step3
            refine .inr ⟨rfl, 3 * (l0.length - i) + 1, by have := HNe.out; simp at this; omega, ?_⟩
            rw [HJ1.out]
            refine ⟨i, acc, [], _, _, _, _, _, _, _, _, _, _, _, _, _, _, _, _, _, _, _, _, _, _, _, _, _, _, _, _, _, _, _, _, _, _, _, _, _, _, _, _, _, _, _, _, _, _, _, _, _, _, _, rfl, hi, ⟨rfl⟩, ⟨HCut.out⟩, ⟨by have := HA.out; have := HNe.out; simp at this; omega⟩, ⟨by simp; omega⟩, ⟨?_⟩, ⟨?_⟩, ⟨?_⟩⟩
            · exact (by (with_reducible repeat (first | apply Kd.R_alloc | apply Kd.R_drewN | apply Kd.R_drew)); exact HL.out)
            · exact (by (with_reducible repeat (first | apply Kd.R_alloc | apply Kd.R_drewN | apply Kd.R_drew)); exact HT.out)
            · exact (by repeat (first | (with_reducible first | exact HB.out | apply below_alloc | apply pw_below_drewN | apply below_drew1) | exact HB.out))
          | false =>
            rw [hbx] at HI HS HNe
            have HCut := Aside0.mk (HS.out.2 rfl)
            clear HS hbx HC
            have hwr : wrap64 ((i : Int) + 1) = ((i + 1 : Nat) : Int) := by have := HLn.out; unfold wrap64; omega
            go_wp2_with (first | (go_at_call 22; (with_reducible refine (token_in.calls _ x false _ HI.out).mono ?_); rintro e w2 ⟨rfl, ⟨nd, rfl⟩⟩))
            go_step3
            simp only [hwr]
            refine .inl ⟨rfl, 3 * (l0.length - (i + 1)) + (if i + 1 < l0.length then (if inB (l0.getD (i + 1) 0) = true then 2 else 0) else 0), by have := HNe.out; simp at this; split <;> (try split) <;> omega, ?_⟩
            rw [HJ0.out]
            refine ⟨i + 1, acc, run, _, _, _, _, _, _, _, _, _, _, _, _, _, _, _, _, _, _, _, _, _, _, _, _, _, _, _, _, _, _, _, _, _, _, _, _, _, _, _, _, _, _, _, _, _, _, _, _, _, _, _, by first | rfl | (simp; done) | (congr 1; simp), by omega, ⟨rfl⟩, ⟨HCut.out⟩, ⟨by have := HA.out; have := HNe.out; simp at this; split <;> (try split) <;> omega⟩, ⟨by have := HU.out; have := HNe.out; simp at this; split <;> (try split) <;> omega⟩, ⟨?_⟩, ⟨?_⟩, ⟨?_⟩⟩
            · exact (by (with_reducible repeat (first | apply Kd.R_alloc | apply Kd.R_drewN | apply Kd.R_drew)); exact HL.out)
            · exact (by (with_reducible repeat (first | apply Kd.R_alloc | apply Kd.R_drewN | apply Kd.R_drew)); exact HR.out)
            · exact (by repeat (first | (with_reducible first | exact HB.out | apply below_alloc | apply pw_below_drewN | apply below_drew1) | exact HB.out))
        · have hie : i = l0.length := by omega
          subst hie
          have HE : Aside0 (acc = R) := ⟨by have := HC.out; rw [List.drop_length] at this; simpa [cutGo] using this⟩
          have heq : ((l0.length : Int) == (l0.length : Int)) = true := by simp
          have heq2 : (l0.length == l0.length) = true := by simp
          clear HC HN hlt
          go_wp2
          simp only [Exit.two]
          go_ret
          rw [← HE.out]
          exact ⟨_, rfl, (by (with_reducible repeat (first | apply Kd.R_alloc | apply Kd.R_drewN | apply Kd.R_drew)); exact HL.out), (by repeat (first | (with_reducible first | exact HB.out | apply below_alloc | apply pw_below_drewN | apply below_drew1) | exact HB.out))⟩
      case pass1 =>
        intro n a' W hJ
        rw [HJ1.out] at hJ
        obtain ⟨i, acc, run, v3, v4, u1, u6, u7, u8, u9, u10, u11, u12, u13, u14, u15, u16, u17, u18, u19, u20, u21, u22, u23, u24, u25, u26, u27, u28, u29, u30, u31, u32, u33, u34, u35, u36, u37, u38, u39, u40, u41, u42, u43, u44, u45, u46, u47, u48, u49, u50, u51, u52, u53, rfl, hi, HN, HC, HA, HU, HL, HR, HB⟩ := hJ
        obtain ⟨A3, c3, e3⟩ := Kd.R_slice HL.out
        subst e3
        obtain ⟨A4, c4, e4⟩ := Kd.R_slice HR.out
        subst e4
        have hr4 := (Kd.R_reads' HR.out).2.1
        obtain ⟨i04, hi04, _, _, _⟩ := info_parts info5
        have hcut := cut_to (P := Try.prog) 22 5 .i64 Try.underlying22 hi04 A4 run.length c4 0 (by omega) (by omega) hr4
        have HT := Aside0.mk (Kd.R_take (m := 0) HR.out (Nat.zero_le _))
        simp only [Int.toNat_zero] at hcut
        clear hr4 hi04
        by_cases hlt : i < l0.length
        · obtain ⟨ad, e1, hx⟩ := Kd.at_int (Kd.C_below HR0.out HB.out) (i : Int) (by omega) (by omega)
          cases e1
          have hx0 : rd l0 (i : Int) = l0.getD i 0 := by unfold rd; rw [Int.toNat_natCast]
          rw [hx0, Int.toNat_natCast] at hx
          obtain ⟨x, hxx⟩ : ∃ x, x = l0.getD i 0 := ⟨_, rfl⟩
          have HS := Aside0.mk (token_Cut.step1 hlt hxx HC.out)
          rw [← hxx] at hx
          have HX := Aside0.mk hxx
          have HI := Aside0.mk (token_Cut.in x)
          have hxm : x ∈ l0 := by rw [hxx, List.getD_eq_getElem?_getD, List.getElem?_eq_getElem hlt]; exact List.getElem_mem hlt
          have HW := Aside0.mk (token_Cut.low (HB8.out x hxm).1 (HB8.out x hxm).2)
          have hd1 : decide ((i : Int) < (l0.length : Int)) = true := by simp; omega
          have hi1 : (i : Int) < (l0.length : Int) := by omega
          have hi0 : (0 : Int) ≤ (i : Int) := by omega
          have HNe : Aside0 (n = 3 * (l0.length - i) + 1) := ⟨HN.out⟩
          clear hxx hx0 HN hxm
          cases hbx : inB x with
          | true =>
            rw [hbx] at HI HS
            have HCut := Aside0.mk (HS.out.1 rfl)
            clear HS hbx HC
            have hwr : wrap64 ((i : Int) + 1) = ((i + 1 : Nat) : Int) := by have := HLn.out; unfold wrap64; omega
            have HLa : Aside0 ((run.length + 1) * 1 ≤ 140737488355328) := ⟨by have := HU.out; have := HLn.out; omega⟩
            go_wp2_with (first | (go_at_call 22; (with_reducible refine (token_in.calls _ x true _ HI.out).mono ?_); rintro e w2 ⟨rfl, ⟨nd, rfl⟩⟩) | ((with_reducible refine gate_callee (f := 22) rfl ?_); refine goesL_ (some 29) rfl rfl Try.func22 (by kernel_rfl) rfl #[.int .u8 x] rfl (by (try simp only [List.map_toArray, List.map_cons, List.map_nil]); first | done | rfl) ?_; (with_reducible refine (token_in.calls _ x true _ HI.out).mono ?_); rintro e w2 ⟨rfl, ⟨nd, rfl⟩⟩; refine ⟨_, rfl, ?_⟩) | (go_at_call 23; (with_reducible refine (token_lower.calls x (lowB x) _ HW.out).mono ?_); rintro e w3 ⟨rfl, ⟨nd2, rfl⟩⟩) | ((with_reducible refine gate_builtin (b := .append) (xs := #[.tmp 31, .tmp 37]) rfl ?_); at_builtin; refine Kd.R_append (Kd.int .u8) (w0 := w) w.heap.size rfl (.tmp 31) (.tmp 37) 22 5 (.int .u8 0) 1 rfl Try.underlying22 info5 rfl (by decide) (by omega) (.slice A4 run.length c4) run (lowB x) [.int .u8 (lowB x)] (fun _ => True) (fun _ => False) rfl (by first | (go_simp; done) | (go_simp; rfl)) ?aP (fun _ hk => hk.elim) ?aF ?aO ?aB ?aS ?aL ?_; (case aP => exact rfl); (case aB => exact (by repeat (first | (with_reducible first | exact HB.out | apply below_alloc | apply pw_below_drewN | apply below_drew1) | exact HB.out))); (case aF => exact (fun _ _ => trivial)); (case aO => exact (by (with_reducible repeat (first | apply Kd.R_alloc | apply Kd.R_drewN | apply Kd.R_drew)); exact HR.out)); (case aS => exact (below_size (by repeat (first | (with_reducible first | exact HB.out | apply below_alloc | apply pw_below_drewN | apply below_drew1) | exact HB.out)))); (case aL => have := HLa.out; omega); intro vv w9 ho hb hg hat; have n0_ := Aside0.mk (Kd.R_over' (by (with_reducible repeat (first | apply Kd.R_alloc | apply Kd.R_drewN | apply Kd.R_drew)); exact HL.out) (Kd.R_typed (by (with_reducible repeat (first | apply Kd.R_alloc | apply Kd.R_drewN | apply Kd.R_drew)); exact HR.out)) (by decide) hg); have n1_ := Aside0.mk (hb); have n2_ := Aside0.mk (ho); clear HB; clear HR; clear HL; have HB := n1_; have HL := n0_; have HR := n2_; clear n0_ n1_ n2_; clear ho hb hg hat))
            go_step3
            simp only [hwr]
            refine .inr ⟨rfl, 3 * (l0.length - (i + 1)) + 1, by have := HNe.out; omega, ?_⟩
            rw [HJ1.out]
            refine ⟨i + 1, acc, run ++ [lowB x], _, _, _, _, _, _, _, _, _, _, _, _, _, _, _, _, _, _, _, _, _, _, _, _, _, _, _, _, _, _, _, _, _, _, _, _, _, _, _, _, _, _, _, _, _, _, _, _, _, _, _, rfl, by omega, ⟨rfl⟩, ⟨HCut.out⟩, ⟨by have := HA.out; have := HNe.out; omega⟩, ⟨by have := HU.out; have := HNe.out; simp only [List.length_append, List.length_singleton]; omega⟩, ⟨?_⟩, ⟨?_⟩, ⟨?_⟩⟩
            · exact (by (with_reducible repeat (first | apply Kd.R_alloc | apply Kd.R_drewN | apply Kd.R_drew)); exact HL.out)
            · exact (by (with_reducible repeat (first | apply Kd.R_alloc | apply Kd.R_drewN | apply Kd.R_drew)); exact HR.out)
            · exact (by repeat (first | (with_reducible first | exact HB.out | apply below_alloc | apply pw_below_drewN | apply below_drew1) | exact HB.out))
          | false =>
            rw [hbx] at HI HS
            have HCut := Aside0.mk (HS.out.2 rfl)
            clear HS HC
            by_cases h64 : 64 < run.length
            · have hd64 : decide (64 < (run.length : Int)) = true := by simp; omega
              have htok : tokOf acc run = ⟨(acc.length : Int), strOfNums (List.take 0 run)⟩ := by unfold tokOf; rw [if_pos h64]; simp
              have hcv : ∀ m, (convert 22 9 (.slice A4 0 c4)).run Try.prog (W.drewN m) = .ok (.string (strOfNums (List.take 0 run))) (W.drewN m) := fun m => Kd.C_string Try.underlying22 Try.underlying5 Try.underlying9 (Kd.R_reads' (Kd.R_drewN HT.out m)).2.2
              have hcv0 : (convert 22 9 (.slice A4 0 c4)).run Try.prog W = .ok (.string (strOfNums (List.take 0 run))) W := Kd.C_string Try.underlying22 Try.underlying5 Try.underlying9 (Kd.R_reads' HT.out).2.2
              have HLa : Aside0 ((acc.length + 1) * 24 ≤ 140737488355328) := ⟨by have := HA.out; have := HLn.out; omega⟩
              go_wp2_with (first | (go_at_call 22; (with_reducible refine (token_in.calls _ x false _ HI.out).mono ?_); rintro e w2 ⟨rfl, ⟨nd, rfl⟩⟩) | ((with_reducible refine gate_callee (f := 22) rfl ?_); refine goesL_ (some 29) rfl rfl Try.func22 (by kernel_rfl) rfl #[.int .u8 x] rfl (by (try simp only [List.map_toArray, List.map_cons, List.map_nil]); first | done | rfl) ?_; (with_reducible refine (token_in.calls _ x false _ HI.out).mono ?_); rintro e w2 ⟨rfl, ⟨nd, rfl⟩⟩; refine ⟨_, rfl, ?_⟩) | ((with_reducible refine gate_builtin (b := .append) (xs := #[.tmp 46, .tmp 52]) rfl ?_); at_builtin; refine Kd.R_append k31 (w0 := w) w.heap.size rfl (.tmp 46) (.tmp 52) 26 31 (.agg #[(.int .i64 0), (.string ⟨#[]⟩)]) 24 rfl Try.underlying26 info31 rfl (by decide) (by omega) (.slice A3 acc.length c3) acc (⟨(acc.length : Int), strOfNums (List.take 0 run)⟩ : S31) [.int .i64 (acc.length : Int), .string (strOfNums (List.take 0 run))] (fun _ => True) (fun _ => False) rfl (by first | (go_simp; done) | (go_simp; rfl)) ?aP (fun _ hk => hk.elim) ?aF ?aO ?aB ?aS ?aL ?_; (case aP => exact k31_mkM _ _ _ (⟨(acc.length : Int), strOfNums (List.take 0 run)⟩ : S31)); (case aB => exact (by repeat (first | (with_reducible first | exact HB.out | apply below_alloc | apply pw_below_drewN | apply below_drew1) | exact HB.out))); (case aF => exact (fun _ _ => trivial)); (case aO => exact (by (with_reducible repeat (first | apply Kd.R_alloc | apply Kd.R_drewN | apply Kd.R_drew)); exact HL.out)); (case aS => exact (below_size (by repeat (first | (with_reducible first | exact HB.out | apply below_alloc | apply pw_below_drewN | apply below_drew1) | exact HB.out)))); (case aL => have := HLa.out; omega); intro vv w9 ho hb hg hat; have n0_ := Aside0.mk (Kd.R_over' (by (with_reducible repeat (first | apply Kd.R_alloc | apply Kd.R_drewN | apply Kd.R_drew)); exact HT.out) (Kd.R_typed (by (with_reducible repeat (first | apply Kd.R_alloc | apply Kd.R_drewN | apply Kd.R_drew)); exact HL.out)) (by decide) hg); have n1_ := Aside0.mk (hb); have n2_ := Aside0.mk (ho); clear HB; clear HL; clear HT; have HB := n1_; have HT := n0_; have HL := n2_; clear n0_ n1_ n2_; clear ho hb hg hat))
              go_step3
              refine .inl ⟨rfl, 3 * (l0.length - i) + 0, by have := HNe.out; omega, ?_⟩
              rw [HJ0.out]
              refine ⟨i, acc ++ [tokOf acc run], (List.take 0 run), _, _, _, _, _, _, _, _, _, _, _, _, _, _, _, _, _, _, _, _, _, _, _, _, _, _, _, _, _, _, _, _, _, _, _, _, _, _, _, _, _, _, _, _, _, _, _, _, _, _, _, rfl, hi, ⟨by rw [if_pos hlt, ← HX.out, if_neg (by rw [hbx]; decide)]⟩, ⟨HCut.out⟩, ⟨by have := HA.out; have := HNe.out; simp only [List.length_append, List.length_singleton]; omega⟩, ⟨by have := HU.out; have := HNe.out; (try simp only [List.length_take]); omega⟩, ⟨?_⟩, ⟨?_⟩, ⟨?_⟩⟩
              · rw [htok]; exact (by (with_reducible repeat (first | apply Kd.R_alloc | apply Kd.R_drewN | apply Kd.R_drew)); exact HL.out)
              · exact (by (with_reducible repeat (first | apply Kd.R_alloc | apply Kd.R_drewN | apply Kd.R_drew)); exact HT.out)
              · exact (by repeat (first | (with_reducible first | exact HB.out | apply below_alloc | apply pw_below_drewN | apply below_drew1) | exact HB.out))
            · have hd64 : decide (64 < (run.length : Int)) = false := by simp; omega
              have htok : tokOf acc run = ⟨(acc.length : Int), strOfNums run⟩ := by unfold tokOf; rw [if_neg (by omega)]
              have hcv : ∀ m, (convert 22 9 (.slice A4 run.length c4)).run Try.prog (W.drewN m) = .ok (.string (strOfNums run)) (W.drewN m) := fun m => Kd.C_string Try.underlying22 Try.underlying5 Try.underlying9 (Kd.R_reads' (Kd.R_drewN HR.out m)).2.2
              have hcv0 : (convert 22 9 (.slice A4 run.length c4)).run Try.prog W = .ok (.string (strOfNums run)) W := Kd.C_string Try.underlying22 Try.underlying5 Try.underlying9 (Kd.R_reads' HR.out).2.2
              have HLa : Aside0 ((acc.length + 1) * 24 ≤ 140737488355328) := ⟨by have := HA.out; have := HLn.out; omega⟩
              go_wp2_with (first | (go_at_call 22; (with_reducible refine (token_in.calls _ x false _ HI.out).mono ?_); rintro e w2 ⟨rfl, ⟨nd, rfl⟩⟩) | ((with_reducible refine gate_callee (f := 22) rfl ?_); refine goesL_ (some 29) rfl rfl Try.func22 (by kernel_rfl) rfl #[.int .u8 x] rfl (by (try simp only [List.map_toArray, List.map_cons, List.map_nil]); first | done | rfl) ?_; (with_reducible refine (token_in.calls _ x false _ HI.out).mono ?_); rintro e w2 ⟨rfl, ⟨nd, rfl⟩⟩; refine ⟨_, rfl, ?_⟩) | ((with_reducible refine gate_builtin (b := .append) (xs := #[.tmp 46, .tmp 52]) rfl ?_); at_builtin; refine Kd.R_append k31 (w0 := w) w.heap.size rfl (.tmp 46) (.tmp 52) 26 31 (.agg #[(.int .i64 0), (.string ⟨#[]⟩)]) 24 rfl Try.underlying26 info31 rfl (by decide) (by omega) (.slice A3 acc.length c3) acc (⟨(acc.length : Int), strOfNums run⟩ : S31) [.int .i64 (acc.length : Int), .string (strOfNums run)] (fun _ => True) (fun _ => False) rfl (by first | (go_simp; done) | (go_simp; rfl)) ?aP (fun _ hk => hk.elim) ?aF ?aO ?aB ?aS ?aL ?_; (case aP => exact k31_mkM _ _ _ (⟨(acc.length : Int), strOfNums run⟩ : S31)); (case aB => exact (by repeat (first | (with_reducible first | exact HB.out | apply below_alloc | apply pw_below_drewN | apply below_drew1) | exact HB.out))); (case aF => exact (fun _ _ => trivial)); (case aO => exact (by (with_reducible repeat (first | apply Kd.R_alloc | apply Kd.R_drewN | apply Kd.R_drew)); exact HL.out)); (case aS => exact (below_size (by repeat (first | (with_reducible first | exact HB.out | apply below_alloc | apply pw_below_drewN | apply below_drew1) | exact HB.out)))); (case aL => have := HLa.out; omega); intro vv w9 ho hb hg hat; have n0_ := Aside0.mk (Kd.R_over' (by (with_reducible repeat (first | apply Kd.R_alloc | apply Kd.R_drewN | apply Kd.R_drew)); exact HR.out) (Kd.R_typed (by (with_reducible repeat (first | apply Kd.R_alloc | apply Kd.R_drewN | apply Kd.R_drew)); exact HL.out)) (by decide) hg); have n1_ := Aside0.mk (hb); have n2_ := Aside0.mk (ho); clear HB; clear HL; clear HR; have HB := n1_; have HR := n0_; have HL := n2_; clear n0_ n1_ n2_; clear ho hb hg hat))
              go_step3
              refine .inl ⟨rfl, 3 * (l0.length - i) + 0, by have := HNe.out; omega, ?_⟩
              rw [HJ0.out]
              refine ⟨i, acc ++ [tokOf acc run], run, _, _, _, _, _, _, _, _, _, _, _, _, _, _, _, _, _, _, _, _, _, _, _, _, _, _, _, _, _, _, _, _, _, _, _, _, _, _, _, _, _, _, _, _, _, _, _, _, _, _, _, rfl, hi, ⟨by rw [if_pos hlt, ← HX.out, if_neg (by rw [hbx]; decide)]⟩, ⟨HCut.out⟩, ⟨by have := HA.out; have := HNe.out; simp only [List.length_append, List.length_singleton]; omega⟩, ⟨by have := HU.out; have := HNe.out; (try simp only [List.length_take]); omega⟩, ⟨?_⟩, ⟨?_⟩, ⟨?_⟩⟩
              · rw [htok]; exact (by (with_reducible repeat (first | apply Kd.R_alloc | apply Kd.R_drewN | apply Kd.R_drew)); exact HL.out)
              · exact (by (with_reducible repeat (first | apply Kd.R_alloc | apply Kd.R_drewN | apply Kd.R_drew)); exact HR.out)
              · exact (by repeat (first | (with_reducible first | exact HB.out | apply below_alloc | apply pw_below_drewN | apply below_drew1) | exact HB.out))
        · have hd1 : decide ((i : Int) < (l0.length : Int)) = false := by simp; omega
          have HNe : Aside0 (n = 3 * (l0.length - i) + 1) := ⟨HN.out⟩
          have HCut := Aside0.mk (token_Cut.end1 hlt HC.out)
          clear HC HN
          by_cases h64 : 64 < run.length
          · have hd64 : decide (64 < (run.length : Int)) = true := by simp; omega
            have htok : tokOf acc run = ⟨(acc.length : Int), strOfNums (List.take 0 run)⟩ := by unfold tokOf; rw [if_pos h64]; simp
            have hcv : ∀ m, (convert 22 9 (.slice A4 0 c4)).run Try.prog (W.drewN m) = .ok (.string (strOfNums (List.take 0 run))) (W.drewN m) := fun m => Kd.C_string Try.underlying22 Try.underlying5 Try.underlying9 (Kd.R_reads' (Kd.R_drewN HT.out m)).2.2
            have hcv0 : (convert 22 9 (.slice A4 0 c4)).run Try.prog W = .ok (.string (strOfNums (List.take 0 run))) W := Kd.C_string Try.underlying22 Try.underlying5 Try.underlying9 (Kd.R_reads' HT.out).2.2
            have HLa : Aside0 ((acc.length + 1) * 24 ≤ 140737488355328) := ⟨by have := HA.out; have := HLn.out; omega⟩
            go_wp2_with (first | ((with_reducible refine gate_builtin (b := .append) (xs := #[.tmp 46, .tmp 52]) rfl ?_); at_builtin; refine Kd.R_append k31 (w0 := w) w.heap.size rfl (.tmp 46) (.tmp 52) 26 31 (.agg #[(.int .i64 0), (.string ⟨#[]⟩)]) 24 rfl Try.underlying26 info31 rfl (by decide) (by omega) (.slice A3 acc.length c3) acc (⟨(acc.length : Int), strOfNums (List.take 0 run)⟩ : S31) [.int .i64 (acc.length : Int), .string (strOfNums (List.take 0 run))] (fun _ => True) (fun _ => False) rfl (by first | (go_simp; done) | (go_simp; rfl)) ?aP (fun _ hk => hk.elim) ?aF ?aO ?aB ?aS ?aL ?_; (case aP => exact k31_mkM _ _ _ (⟨(acc.length : Int), strOfNums (List.take 0 run)⟩ : S31)); (case aB => exact (by repeat (first | (with_reducible first | exact HB.out | apply below_alloc | apply pw_below_drewN | apply below_drew1) | exact HB.out))); (case aF => exact (fun _ _ => trivial)); (case aO => exact (by (with_reducible repeat (first | apply Kd.R_alloc | apply Kd.R_drewN | apply Kd.R_drew)); exact HL.out)); (case aS => exact (below_size (by repeat (first | (with_reducible first | exact HB.out | apply below_alloc | apply pw_below_drewN | apply below_drew1) | exact HB.out)))); (case aL => have := HLa.out; omega); intro vv w9 ho hb hg hat; have n0_ := Aside0.mk (Kd.R_over' (by (with_reducible repeat (first | apply Kd.R_alloc | apply Kd.R_drewN | apply Kd.R_drew)); exact HT.out) (Kd.R_typed (by (with_reducible repeat (first | apply Kd.R_alloc | apply Kd.R_drewN | apply Kd.R_drew)); exact HL.out)) (by decide) hg); have n1_ := Aside0.mk (hb); have n2_ := Aside0.mk (ho); clear HB; clear HL; clear HT; have HB := n1_; have HT := n0_; have HL := n2_; clear n0_ n1_ n2_; clear ho hb hg hat))
            go_step3
            refine .inl ⟨rfl, 3 * (l0.length - i) + 0, by have := HNe.out; omega, ?_⟩
            rw [HJ0.out]
            refine ⟨i, acc ++ [tokOf acc run], (List.take 0 run), _, _, _, _, _, _, _, _, _, _, _, _, _, _, _, _, _, _, _, _, _, _, _, _, _, _, _, _, _, _, _, _, _, _, _, _, _, _, _, _, _, _, _, _, _, _, _, _, _, _, _, rfl, hi, ⟨by rw [if_neg hlt]⟩, ⟨HCut.out⟩, ⟨by have := HA.out; have := HNe.out; simp only [List.length_append, List.length_singleton]; omega⟩, ⟨by have := HU.out; have := HNe.out; (try simp only [List.length_take]); omega⟩, ⟨?_⟩, ⟨?_⟩, ⟨?_⟩⟩
            · rw [htok]; exact (by (with_reducible repeat (first | apply Kd.R_alloc | apply Kd.R_drewN | apply Kd.R_drew)); exact HL.out)
            · exact (by (with_reducible repeat (first | apply Kd.R_alloc | apply Kd.R_drewN | apply Kd.R_drew)); exact HT.out)
            · exact (by repeat (first | (with_reducible first | exact HB.out | apply below_alloc | apply pw_below_drewN | apply below_drew1) | exact HB.out))
          · have hd64 : decide (64 < (run.length : Int)) = false := by simp; omega
            have htok : tokOf acc run = ⟨(acc.length : Int), strOfNums run⟩ := by unfold tokOf; rw [if_neg (by omega)]
            have hcv : ∀ m, (convert 22 9 (.slice A4 run.length c4)).run Try.prog (W.drewN m) = .ok (.string (strOfNums run)) (W.drewN m) := fun m => Kd.C_string Try.underlying22 Try.underlying5 Try.underlying9 (Kd.R_reads' (Kd.R_drewN HR.out m)).2.2
            have hcv0 : (convert 22 9 (.slice A4 run.length c4)).run Try.prog W = .ok (.string (strOfNums run)) W := Kd.C_string Try.underlying22 Try.underlying5 Try.underlying9 (Kd.R_reads' HR.out).2.2
            have HLa : Aside0 ((acc.length + 1) * 24 ≤ 140737488355328) := ⟨by have := HA.out; have := HLn.out; omega⟩
            go_wp2_with (first | ((with_reducible refine gate_builtin (b := .append) (xs := #[.tmp 46, .tmp 52]) rfl ?_); at_builtin; refine Kd.R_append k31 (w0 := w) w.heap.size rfl (.tmp 46) (.tmp 52) 26 31 (.agg #[(.int .i64 0), (.string ⟨#[]⟩)]) 24 rfl Try.underlying26 info31 rfl (by decide) (by omega) (.slice A3 acc.length c3) acc (⟨(acc.length : Int), strOfNums run⟩ : S31) [.int .i64 (acc.length : Int), .string (strOfNums run)] (fun _ => True) (fun _ => False) rfl (by first | (go_simp; done) | (go_simp; rfl)) ?aP (fun _ hk => hk.elim) ?aF ?aO ?aB ?aS ?aL ?_; (case aP => exact k31_mkM _ _ _ (⟨(acc.length : Int), strOfNums run⟩ : S31)); (case aB => exact (by repeat (first | (with_reducible first | exact HB.out | apply below_alloc | apply pw_below_drewN | apply below_drew1) | exact HB.out))); (case aF => exact (fun _ _ => trivial)); (case aO => exact (by (with_reducible repeat (first | apply Kd.R_alloc | apply Kd.R_drewN | apply Kd.R_drew)); exact HL.out)); (case aS => exact (below_size (by repeat (first | (with_reducible first | exact HB.out | apply below_alloc | apply pw_below_drewN | apply below_drew1) | exact HB.out)))); (case aL => have := HLa.out; omega); intro vv w9 ho hb hg hat; have n0_ := Aside0.mk (Kd.R_over' (by (with_reducible repeat (first | apply Kd.R_alloc | apply Kd.R_drewN | apply Kd.R_drew)); exact HR.out) (Kd.R_typed (by (with_reducible repeat (first | apply Kd.R_alloc | apply Kd.R_drewN | apply Kd.R_drew)); exact HL.out)) (by decide) hg); have n1_ := Aside0.mk (hb); have n2_ := Aside0.mk (ho); clear HB; clear HL; clear HR; have HB := n1_; have HR := n0_; have HL := n2_; clear n0_ n1_ n2_; clear ho hb hg hat))
            go_step3
            refine .inl ⟨rfl, 3 * (l0.length - i) + 0, by have := HNe.out; omega, ?_⟩
            rw [HJ0.out]
            refine ⟨i, acc ++ [tokOf acc run], run, _, _, _, _, _, _, _, _, _, _, _, _, _, _, _, _, _, _, _, _, _, _, _, _, _, _, _, _, _, _, _, _, _, _, _, _, _, _, _, _, _, _, _, _, _, _, _, _, _, _, _, rfl, hi, ⟨by rw [if_neg hlt]⟩, ⟨HCut.out⟩, ⟨by have := HA.out; have := HNe.out; simp only [List.length_append, List.length_singleton]; omega⟩, ⟨by have := HU.out; have := HNe.out; (try simp only [List.length_take]); omega⟩, ⟨?_⟩, ⟨?_⟩, ⟨?_⟩⟩
            · rw [htok]; exact (by (with_reducible repeat (first | apply Kd.R_alloc | apply Kd.R_drewN | apply Kd.R_drew)); exact HL.out)
            · exact (by (with_reducible repeat (first | apply Kd.R_alloc | apply Kd.R_drewN | apply Kd.R_drew)); exact HR.out)
            · exact (by repeat (first | (with_reducible first | exact HB.out | apply below_alloc | apply pw_below_drewN | apply below_drew1) | exact HB.out))
    · rw [if_neg hb8] at h; cases h
  · rw [if_neg hl] at h; cases h

/-! ### token_Is: function 16 -/
mutual
def token_Is.j0 : Nat → ByteArray → Bool → Option (Bool)
  | 0, _, _ => none
  | k + 1, x0, x12 => if x12 = true then (some false) else (token_Is.l0 k x0 (x0.size : Int) 0)
def token_Is.l0 : Nat → ByteArray → Int → Int → Option (Bool)
  | 0, _, _, _ => none
  | k + 1, x0, x14, x15 => if x15 < x14 then (if 0 ≤ x15 then (if x15 < (x0.size : Int) then ((token_in.f k (bt x0 x15)).bind fun t101 => (if t101 = true then ((token_lower.f (bt x0 x15)).bind fun t102 => (if t102 = (bt x0 x15) then (token_Is.l0 k x0 x14 (wrap64 (x15 + 1))) else (some false))) else (some false))) else (none)) else (none)) else (some true)
end
def token_Is.f (k : Nat) (a0 : ByteArray) : Option (Bool) := if (a0.size : Int) < 1 then (token_Is.j0 k a0 true) else (token_Is.j0 k a0 (decide ((a0.size : Int) > 64)))
theorem token_Is.mono_l : ∀ k, (∀ y0 y1, LeO (token_Is.j0 k y0 y1) (token_Is.j0 (k + 1) y0 y1)) ∧ (∀ y0 y1 y2, LeO (token_Is.l0 k y0 y1 y2) (token_Is.l0 (k + 1) y0 y1 y2))
  | 0 => ⟨fun _ _ r h => by simp [token_Is.j0] at h, fun _ _ _ r h => by simp [token_Is.l0] at h⟩
  | k + 1 => by
    obtain ⟨ih0, ih1⟩ := token_Is.mono_l k
    refine ⟨?_, ?_⟩
    · intro y0 y1
      unfold token_Is.j0
      repeat' first
      | (with_reducible exact ih0 _ _)
      | (with_reducible exact ih1 _ _ _)
      | (with_reducible exact token_in.mono _ _)
      | (with_reducible exact LeO.refl _)
      | (with_reducible exact LeO.none _)
      | (with_reducible refine LeO.ite ?_ ?_)
      | (with_reducible refine LeO.bind ?_ (fun _ => ?_))
      | exact ih0 _ _
      | exact ih1 _ _ _
      | exact token_in.mono _ _
      | exact LeO.none _
      | refine LeO.ite ?_ ?_
      | refine LeO.bind ?_ (fun _ => ?_)
    · intro y0 y1 y2
      unfold token_Is.l0
      repeat' first
      | (with_reducible exact ih0 _ _)
      | (with_reducible exact ih1 _ _ _)
      | (with_reducible exact token_in.mono _ _)
      | (with_reducible exact LeO.refl _)
      | (with_reducible exact LeO.none _)
      | (with_reducible refine LeO.ite ?_ ?_)
      | (with_reducible refine LeO.bind ?_ (fun _ => ?_))
      | exact ih0 _ _
      | exact ih1 _ _ _
      | exact token_in.mono _ _
      | exact LeO.none _
      | refine LeO.ite ?_ ?_
      | refine LeO.bind ?_ (fun _ => ?_)
theorem token_Is.mono : ∀ a0 k, LeO (token_Is.f k a0) (token_Is.f (k + 1) a0) := by
  intro a0 k
  obtain ⟨ih0, ih1⟩ := token_Is.mono_l k
  unfold token_Is.f
  repeat' first
      | (with_reducible exact ih0 _ _)
      | (with_reducible exact ih1 _ _ _)
      | (with_reducible exact token_in.mono _ _)
      | (with_reducible exact LeO.refl _)
      | (with_reducible exact LeO.none _)
      | (with_reducible refine LeO.ite ?_ ?_)
      | (with_reducible refine LeO.bind ?_ (fun _ => ?_))
      | exact ih0 _ _
      | exact ih1 _ _ _
      | exact token_in.mono _ _
      | exact LeO.none _
      | refine LeO.ite ?_ ?_
      | refine LeO.bind ?_ (fun _ => ?_)
set_option maxHeartbeats 8000000 in
set_option maxRecDepth 100000 in
theorem token_Is.calls (k : Nat) (a0 : ByteArray) (r : Bool) (w : World) (h : token_Is.f k a0 = some r) :
    Calls Try.prog 16 #[.string a0] w fun e w' => e = .returned (.bool r) ∧ Drawn0 w w' := by
  have H : (if (a0.size : Int) < 1 then (token_Is.j0 k a0 true) else (token_Is.j0 k a0 (decide ((a0.size : Int) > 64)))) = some r := h
  clear h
  have HC2 := Aside0.mk H
  clear H
  go_enter Try.func16, Try.ntmps16
  go_upto_region 1 with (fail)
  go_cut [12] (fun v12 wc => ∃ (kq : Nat) (x12_1 : Bool), v12 = .bool x12_1 ∧ Aside0 (token_Is.j0 kq a0 x12_1 = some r) ∧ Aside0 (kq ≤ k) ∧ Drawn0 w wc)
  case first =>
    have H := HC2.out
    clear HC2
    by_cases c3 : (a0.size : Int) < 1
    · rw [if_pos c3] at H
      have c3b0 : decide ((a0.size : Int) < 1) = true := decide_eq_true c3
      have c3b1 : decide (a0.size < 1) = true := decide_eq_true (by omega)
      clear c3
      (first | rw [c3b0] | (simp only [i64_w, i32_w]; rw [c3b0]) | skip)
      have H' := Aside0.mk H
      clear H
      go_wp2
      go_meet
      case rel => exact ⟨_, (true), (by first | rfl | (simp; done) | (simp [*]; done)), H', ⟨by first | omega | exact Nat.le_refl _⟩, by repeat (first | exact Drawn0.refl _ | apply Drawn0.step)⟩
    · rw [if_neg c3] at H
      have c3b0 : decide ((a0.size : Int) < 1) = false := decide_eq_false c3
      have c3b1 : decide (a0.size < 1) = false := decide_eq_false (by omega)
      clear c3
      (first | rw [c3b0] | (simp only [i64_w, i32_w]; rw [c3b0]) | skip)
      have H' := Aside0.mk H
      clear H
      go_wp2
      go_meet
      case rel => exact ⟨_, (decide ((a0.size : Int) > 64)), (by first | rfl | (simp; done) | (simp [*]; done)), H', ⟨by first | omega | exact Nat.le_refl _⟩, by repeat (first | exact Drawn0.refl _ | apply Drawn0.step)⟩
  case rest =>
    clear HC2
    try clear c1
    try clear p2
    try clear c3
    try clear c3b0
    try clear c3b1
    obtain ⟨kq, x12_1, rfl, HA, HJ1, ⟨mc1, rfl⟩⟩ := hcut
    cases kq with
    | zero => exact absurd HA.out (by simp [token_Is.j0])
    | succ kj1 =>
      have H := HA.out
      clear HA
      simp only [token_Is.j0] at H
      by_cases c4 : x12_1 = true
      · subst c4
        have H1 : (some false) = some r := by rw [if_pos rfl] at H; exact H
        clear H
        have H := H1
        clear H1
        obtain rfl := Option.some.inj H
        go_wp2
        go_ret
        exact ⟨by first | rfl | (simp; done) | (simp [*]; done), by repeat (first | exact Drawn0.refl _ | apply Drawn0.step)⟩
      · replace c4 := Bool.eq_false_iff.mpr c4
        subst c4
        have H1 : (token_Is.l0 kj1 a0 (a0.size : Int) 0) = some r := by rw [if_neg (show ¬ (false = true) by decide)] at H; exact H
        clear H
        have H := H1
        clear H1
        have H' := Aside0.mk H
        clear H
        go_wp2
        go_loopg [15] kj1 (fun kq v15 w' => ∃ (x15_2 : Int), v15 = .int .i64 x15_2 ∧ Aside0 (token_Is.l0 kq a0 (a0.size : Int) x15_2 = some r) ∧ Aside0 (kq ≤ kj1) ∧ Drawn0 w w')
        case atStart => exact ⟨(0), (by first | rfl | (simp; done) | (simp [*]; done)), H', ⟨Nat.le_refl _⟩, by repeat (first | exact Drawn0.refl _ | apply Drawn0.step)⟩
        case round =>
          clear H'
          try clear c1
          try clear p2
          try clear c3
          try clear c3b0
          try clear c3b1
          try clear c4
          try clear p2
          obtain ⟨x15_2, rfl, HA, HK2, ⟨m2, rfl⟩⟩ := hrel
          cases gk with
          | zero => exact absurd HA.out (by simp [token_Is.l0])
          | succ k2 =>
            have H := HA.out
            clear HA
            simp only [token_Is.l0] at H
            by_cases c5 : x15_2 < (a0.size : Int)
            · rw [if_pos c5] at H
              have c5b0 : decide (x15_2 < (a0.size : Int)) = true := decide_eq_true c5
              clear c5
              by_cases c6 : 0 ≤ x15_2
              · rw [if_pos c6] at H
                have c6b0 : decide (0 ≤ x15_2) = true := decide_eq_true c6
                clear c6
                by_cases c7 : x15_2 < (a0.size : Int)
                · rw [if_pos c7] at H
                  have c7b0 : decide (x15_2 < (a0.size : Int)) = true := decide_eq_true c7
                  clear c7
                  replace H := Option.bind_eq_some_iff.mp H
                  obtain ⟨t101, A90, H⟩ := H
                  replace H : (if t101 = true then ((token_lower.f (bt a0 x15_2)).bind fun t102 => (if t102 = (bt a0 x15_2) then (token_Is.l0 k2 a0 (a0.size : Int) (wrap64 (x15_2 + 1))) else (some false))) else (some false)) = some r := H
                  have A9 := Aside0.mk A90
                  clear A90
                  by_cases c10 : t101 = true
                  · subst c10
                    have H1 : ((token_lower.f (bt a0 x15_2)).bind fun t102 => (if t102 = (bt a0 x15_2) then (token_Is.l0 k2 a0 (a0.size : Int) (wrap64 (x15_2 + 1))) else (some false))) = some r := by rw [if_pos rfl] at H; exact H
                    clear H
                    have H := H1
                    clear H1
                    replace H := Option.bind_eq_some_iff.mp H
                    obtain ⟨t102, A110, H⟩ := H
                    replace H : (if t102 = (bt a0 x15_2) then (token_Is.l0 k2 a0 (a0.size : Int) (wrap64 (x15_2 + 1))) else (some false)) = some r := H
                    have A11 := Aside0.mk A110
                    clear A110
                    by_cases c12 : t102 = (bt a0 x15_2)
                    · rw [if_pos c12] at H
                      have c12b0 : (t102 == (bt a0 x15_2)) = true := beq_iff_eq.mpr c12
                      have c12b1 : (t102 != (bt a0 x15_2)) = false := bne_eq_false_iff_eq.mpr c12
                      clear c12
                      have H' := Aside0.mk H
                      clear H
                      have p8 : 0 ≤ (x15_2 : Int) := of_decide_eq_true (by first | (with_reducible assumption) | assumption)
                      have q8 : x15_2 < (a0.size : Int) := of_decide_eq_true (by first | (with_reducible assumption) | assumption)
                      have hx8 := bt_at a0 x15_2
                      replace p8 := eq_true p8
                      replace q8 := eq_true q8
                      go_wp2_with (first | ((with_reducible refine gate_callee (f := 22) rfl ?_); refine goesL_ (some 22) rfl rfl Try.func22 (by kernel_rfl) rfl #[.int .u8 (bt a0 x15_2)] rfl (by (try simp only [List.map_toArray, List.map_cons, List.map_nil]); first | done | rfl | (simp only [List.length_drop, List.length_take]; rfl)) ?_; (with_reducible refine (token_in.calls k2 (bt a0 x15_2) true _ A9.out).mono ?_); rintro e w' ⟨rfl, ⟨nd, rfl⟩⟩; refine ⟨_, rfl, ?_⟩) | (go_at_call 23; (with_reducible refine (token_lower.calls (bt a0 x15_2) t102 _ A11.out).mono ?_); rintro e w' ⟨rfl, ⟨nd, rfl⟩⟩))
                      go_roundg k2
                      case measure => have := HJ1.out; have := HK2.out; omega
                      case rel => exact ⟨(wrap64 (x15_2 + 1)), (by first | rfl | (simp; done) | (simp [*]; done)), H', ⟨by have := HJ1.out; have := HK2.out; omega⟩, by repeat (first | exact Drawn0.refl _ | apply Drawn0.step)⟩
                    · rw [if_neg c12] at H
                      have c12b0 : (t102 == (bt a0 x15_2)) = false := beq_eq_false_iff_ne.mpr c12
                      have c12b1 : (t102 != (bt a0 x15_2)) = true := bne_iff_ne.mpr c12
                      obtain rfl := Option.some.inj H
                      have p8 : 0 ≤ (x15_2 : Int) := of_decide_eq_true (by first | (with_reducible assumption) | assumption)
                      have q8 : x15_2 < (a0.size : Int) := of_decide_eq_true (by first | (with_reducible assumption) | assumption)
                      have hx8 := bt_at a0 x15_2
                      replace p8 := eq_true p8
                      replace q8 := eq_true q8
                      go_wp2_with (first | ((with_reducible refine gate_callee (f := 22) rfl ?_); refine goesL_ (some 22) rfl rfl Try.func22 (by kernel_rfl) rfl #[.int .u8 (bt a0 x15_2)] rfl (by (try simp only [List.map_toArray, List.map_cons, List.map_nil]); first | done | rfl | (simp only [List.length_drop, List.length_take]; rfl)) ?_; (with_reducible refine (token_in.calls k2 (bt a0 x15_2) true _ A9.out).mono ?_); rintro e w' ⟨rfl, ⟨nd, rfl⟩⟩; refine ⟨_, rfl, ?_⟩) | (go_at_call 23; (with_reducible refine (token_lower.calls (bt a0 x15_2) t102 _ A11.out).mono ?_); rintro e w' ⟨rfl, ⟨nd, rfl⟩⟩))
                      go_ret
                      exact ⟨by first | rfl | (simp; done) | (simp [*]; done), by repeat (first | exact Drawn0.refl _ | apply Drawn0.step)⟩
                  · replace c10 := Bool.eq_false_iff.mpr c10
                    subst c10
                    have H1 : (some false) = some r := by rw [if_neg (show ¬ (false = true) by decide)] at H; exact H
                    clear H
                    have H := H1
                    clear H1
                    obtain rfl := Option.some.inj H
                    have p8 : 0 ≤ (x15_2 : Int) := of_decide_eq_true (by first | (with_reducible assumption) | assumption)
                    have q8 : x15_2 < (a0.size : Int) := of_decide_eq_true (by first | (with_reducible assumption) | assumption)
                    have hx8 := bt_at a0 x15_2
                    replace p8 := eq_true p8
                    replace q8 := eq_true q8
                    go_wp2_with (first | ((with_reducible refine gate_callee (f := 22) rfl ?_); refine goesL_ (some 22) rfl rfl Try.func22 (by kernel_rfl) rfl #[.int .u8 (bt a0 x15_2)] rfl (by (try simp only [List.map_toArray, List.map_cons, List.map_nil]); first | done | rfl | (simp only [List.length_drop, List.length_take]; rfl)) ?_; (with_reducible refine (token_in.calls k2 (bt a0 x15_2) false _ A9.out).mono ?_); rintro e w' ⟨rfl, ⟨nd, rfl⟩⟩; refine ⟨_, rfl, ?_⟩))
                    go_ret
                    exact ⟨by first | rfl | (simp; done) | (simp [*]; done), by repeat (first | exact Drawn0.refl _ | apply Drawn0.step)⟩
                · rw [if_neg c7] at H
                  exact absurd H (by simp)
              · rw [if_neg c6] at H
                exact absurd H (by simp)
            · rw [if_neg c5] at H
              have c5b0 : decide (x15_2 < (a0.size : Int)) = false := decide_eq_false c5
              clear c5
              obtain rfl := Option.some.inj H
              go_wp2
              go_ret
              exact ⟨by first | rfl | (simp; done) | (simp [*]; done), by repeat (first | exact Drawn0.refl _ | apply Drawn0.step)⟩

/-! ### dragnetlaw07_alive: function 9 -/
def dragnetlaw07_alive.f (k : Nat)  : Option (Bool) := (token_Cut.f (([71, 69, 84, 32, 47, 97] : List Int))).bind fun t107 => (if (t107.length : Int) = 2 then (if 0 < (t107.length : Int) then (if ((rd_T31 t107 0).f1).toList = ([103, 101, 116] : List UInt8) then (if 1 < (t107.length : Int) then (if (((rd_T31 t107 1).f0) == 1 && ((((rd_T31 t107 1).f1).toList) == ([97] : List UInt8))) = true then ((token_Is.f k (⟨#[103, 101, 116]⟩ : ByteArray)).bind fun t112 => (if t112 = true then ((token_Is.f k (⟨#[71, 101, 116]⟩ : ByteArray)).bind fun t113 => (some (!t113))) else (some false))) else (some false)) else (none)) else (some false)) else (none)) else (some false))
theorem dragnetlaw07_alive.mono : ∀ k, LeO (dragnetlaw07_alive.f k ) (dragnetlaw07_alive.f (k + 1) ) := by
  intro  k
  unfold dragnetlaw07_alive.f
  repeat' first
      | (with_reducible exact token_Is.mono _ _)
      | (with_reducible exact LeO.refl _)
      | (with_reducible exact LeO.none _)
      | (with_reducible refine LeO.ite ?_ ?_)
      | (with_reducible refine LeO.bind ?_ (fun _ => ?_))
      | exact token_Is.mono _ _
      | exact LeO.none _
      | refine LeO.ite ?_ ?_
      | refine LeO.bind ?_ (fun _ => ?_)
set_option maxHeartbeats 8000000 in
set_option maxRecDepth 100000 in
theorem dragnetlaw07_alive.calls (k : Nat)  (r : Bool) (w : World) (h : dragnetlaw07_alive.f k  = some r) :
    Calls Try.prog 9 #[] w fun e w' => e = .returned (.bool r) ∧ Below w.heap.size w w' := by
  have hu31 := Try.underlying31
  have HB := Aside0.mk (Below.refl w.heap.size w)
  have H : ((token_Cut.f (([71, 69, 84, 32, 47, 97] : List Int))).bind fun t107 => (if (t107.length : Int) = 2 then (if 0 < (t107.length : Int) then (if ((rd_T31 t107 0).f1).toList = ([103, 101, 116] : List UInt8) then (if 1 < (t107.length : Int) then (if (((rd_T31 t107 1).f0) == 1 && ((((rd_T31 t107 1).f1).toList) == ([97] : List UInt8))) = true then ((token_Is.f k (⟨#[103, 101, 116]⟩ : ByteArray)).bind fun t112 => (if t112 = true then ((token_Is.f k (⟨#[71, 101, 116]⟩ : ByteArray)).bind fun t113 => (some (!t113))) else (some false))) else (some false)) else (none)) else (some false)) else (none)) else (some false))) = some r := h
  clear h
  obtain ⟨y103, hy103⟩ : ∃ y_ : List Int, y_ = (([71, 69, 84, 32, 47, 97] : List Int)) := ⟨_, rfl⟩
  replace H : ((token_Cut.f (([71, 69, 84, 32, 47, 97] : List Int))).bind fun t107 => (if (t107.length : Int) = 2 then (if 0 < (t107.length : Int) then (if ((rd_T31 t107 0).f1).toList = ([103, 101, 116] : List UInt8) then (if 1 < (t107.length : Int) then (if (((rd_T31 t107 1).f0) == 1 && ((((rd_T31 t107 1).f1).toList) == ([97] : List UInt8))) = true then ((token_Is.f k (⟨#[103, 101, 116]⟩ : ByteArray)).bind fun t112 => (if t112 = true then ((token_Is.f k (⟨#[71, 101, 116]⟩ : ByteArray)).bind fun t113 => (some (!t113))) else (some false))) else (some false)) else (none)) else (some false)) else (none)) else (some false))) = some r := by first | (rw [hy103]; with_reducible exact H) | (have H2_ := (Option.bind_some _ _).symm.trans H; rw [hy103]; with_reducible exact H2_) | (have H2_ := (Option.bind_some _ _).symm.trans H; with_reducible exact H2_) | with_reducible exact H | (rw [hy103]; exact H) | exact H
  have Ny103 := Aside0.mk hy103
  clear hy103
  obtain ⟨y103, hy103⟩ : ∃ y_ : List Int, y_ = (([71, 69, 84, 32, 47, 97] : List Int)) := ⟨_, rfl⟩
  replace H : ((token_Cut.f y103).bind fun t107 => (if (t107.length : Int) = 2 then (if 0 < (t107.length : Int) then (if ((rd_T31 t107 0).f1).toList = ([103, 101, 116] : List UInt8) then (if 1 < (t107.length : Int) then (if (((rd_T31 t107 1).f0) == 1 && ((((rd_T31 t107 1).f1).toList) == ([97] : List UInt8))) = true then ((token_Is.f k (⟨#[103, 101, 116]⟩ : ByteArray)).bind fun t112 => (if t112 = true then ((token_Is.f k (⟨#[71, 101, 116]⟩ : ByteArray)).bind fun t113 => (some (!t113))) else (some false))) else (some false)) else (none)) else (some false)) else (none)) else (some false))) = some r := by first | (rw [hy103]; with_reducible exact H) | (have H2_ := (Option.bind_some _ _).symm.trans H; rw [hy103]; with_reducible exact H2_) | (have H2_ := (Option.bind_some _ _).symm.trans H; with_reducible exact H2_) | with_reducible exact H | (rw [hy103]; exact H) | exact H
  have Ny103 := Aside0.mk hy103
  clear hy103
  replace H := Option.bind_eq_some_iff.mp H
  obtain ⟨t107, A10, H⟩ := H
  replace H : (if (t107.length : Int) = 2 then (if 0 < (t107.length : Int) then (if ((rd_T31 t107 0).f1).toList = ([103, 101, 116] : List UInt8) then (if 1 < (t107.length : Int) then (if (((rd_T31 t107 1).f0) == 1 && ((((rd_T31 t107 1).f1).toList) == ([97] : List UInt8))) = true then ((token_Is.f k (⟨#[103, 101, 116]⟩ : ByteArray)).bind fun t112 => (if t112 = true then ((token_Is.f k (⟨#[71, 101, 116]⟩ : ByteArray)).bind fun t113 => (some (!t113))) else (some false))) else (some false)) else (none)) else (some false)) else (none)) else (some false)) = some r := H
  have A1 := Aside0.mk A10
  clear A10
  by_cases c2 : (t107.length : Int) = 2
  · rw [if_pos c2] at H
    have c2b0 : ((t107.length : Int) == 2) = true := beq_iff_eq.mpr c2
    have c2b1 : ((t107.length : Int) != 2) = false := bne_eq_false_iff_eq.mpr c2
    clear c2
    by_cases c3 : 0 < (t107.length : Int)
    · rw [if_pos c3] at H
      have c3b0 : decide (0 < (t107.length : Int)) = true := decide_eq_true c3
      have c3b1 : decide (0 < t107.length) = true := decide_eq_true (by omega)
      clear c3
      by_cases c4 : ((rd_T31 t107 0).f1).toList = ([103, 101, 116] : List UInt8)
      · rw [if_pos c4] at H
        have c4b0 : (((rd_T31 t107 0).f1).toList == ([103, 101, 116] : List UInt8)) = true := beq_iff_eq.mpr c4
        have c4b1 : (((rd_T31 t107 0).f1).toList != ([103, 101, 116] : List UInt8)) = false := bne_eq_false_iff_eq.mpr c4
        clear c4
        by_cases c5 : 1 < (t107.length : Int)
        · rw [if_pos c5] at H
          have c5b0 : decide (1 < (t107.length : Int)) = true := decide_eq_true c5
          have c5b1 : decide (1 < t107.length) = true := decide_eq_true (by omega)
          clear c5
          by_cases c6 : (((rd_T31 t107 1).f0) == 1 && ((((rd_T31 t107 1).f1).toList) == ([97] : List UInt8))) = true
          · rw [if_pos c6] at H
            have c6b0 : (((rd_T31 t107 1).f0) == 1 && ((((rd_T31 t107 1).f1).toList) == ([97] : List UInt8))) = true := c6
            (try (have c6b1 : decide (((rd_T31 t107 1).f0) = 1 && ((((rd_T31 t107 1).f1).toList) == ([97] : List UInt8))) = true := by simpa using c6))
            (try (have c6b2 : (((rd_T31 t107 1).f0) == 1 && ((((rd_T31 t107 1).f1).toList) == ([97] : List UInt8))) = true := by simpa using c6))
            clear c6
            replace H := Option.bind_eq_some_iff.mp H
            obtain ⟨t112, A70, H⟩ := H
            replace H : (if t112 = true then ((token_Is.f k (⟨#[71, 101, 116]⟩ : ByteArray)).bind fun t113 => (some (!t113))) else (some false)) = some r := H
            have A7 := Aside0.mk A70
            clear A70
            by_cases c8 : t112 = true
            · subst c8
              have H1 : ((token_Is.f k (⟨#[71, 101, 116]⟩ : ByteArray)).bind fun t113 => (some (!t113))) = some r := by rw [if_pos rfl] at H; exact H
              clear H
              have H := H1
              clear H1
              replace H := Option.bind_eq_some_iff.mp H
              obtain ⟨t113, A90, H⟩ := H
              replace H : (some (!t113)) = some r := H
              have A9 := Aside0.mk A90
              clear A90
              obtain rfl := Option.some.inj H
              go_enter Try.func9, Try.ntmps9
              go_wp2_with (first | ((with_reducible refine gate_dst (N := 2) rfl ?_); refine Kd.R_lit (Kd.int .u8) _ 5 ?hg (N := 2) ?hd (xs := ([71, 69, 84, 32, 47, 97] : List Int)) (inner := [.int .u8 71, .int .u8 69, .int .u8 84, .int .u8 32, .int .u8 47, .int .u8 97]) (ok := fun _ => True) (okp := fun _ => True) ?hr ?hp (fun _ hk => hk) trivial (Below.refl _ _) (Nat.le_refl _) (by simp) ?_; (case hd => rfl); (case hg => rfl); (case hr => first | (go_simp; done) | (go_simp; rfl)); (case hp => exact (Reps.one (show Kd.M (Kd.int .u8) _ _ _ 71 [.int .u8 71] from rfl) (Reps.one (show Kd.M (Kd.int .u8) _ _ _ 69 [.int .u8 69] from rfl) (Reps.one (show Kd.M (Kd.int .u8) _ _ _ 84 [.int .u8 84] from rfl) (Reps.one (show Kd.M (Kd.int .u8) _ _ _ 32 [.int .u8 32] from rfl) (Reps.one (show Kd.M (Kd.int .u8) _ _ _ 47 [.int .u8 47] from rfl) (Reps.one (show Kd.M (Kd.int .u8) _ _ _ 97 [.int .u8 97] from rfl) (Reps.none _ _)))))))); intro v104 w10 ho11 hb hg_ hnew_; clear hg_ hnew_; (first | rw [← Ny103.out] at ho11 | (simp only [Int.reduceToNat] at ho11; rw [← Ny103.out] at ho11)); have n0_ := Aside0.mk (Kd.R_lower ho11 (below_size (by repeat (first | (with_reducible first | exact HB.out | apply below_alloc | apply pw_below_drewN | apply below_drew1) | exact HB.out)))); have n1_ := Aside0.mk (below_step (by repeat (first | (with_reducible first | exact HB.out | apply below_alloc | apply pw_below_drewN | apply below_drew1) | exact HB.out)) hb); clear HB; have HO105 := n0_; have HB := n1_; clear n0_ n1_; clear hb ho11; obtain ⟨Ao12, co12, eo12⟩ := Kd.R_slice HO105.out; subst eo12) | ((with_reducible refine gate_dst (N := 3) rfl ?_); refine Kd.mark_event rfl (N := 3) rfl 22 5 (.tmp 2) rfl Try.underlying22 Try.underlying5 Ao12 co12 y103 (by first | rfl | (go_simp; rfl)) _ (by first | decide | (rw [Ny103.out]; decide)) (by (with_reducible repeat (first | apply Kd.R_alloc | apply Kd.R_drewN | apply Kd.R_drew)); exact HO105.out) (by repeat (first | (with_reducible first | exact HB.out | apply below_alloc | apply pw_below_drewN | apply below_drew1) | exact HB.out)) ?_; intro w13 hcc_ hC_ hb; have n0_ := Aside0.mk (hb); have n1_ := Aside0.mk (hC_); have n2_ := Aside0.mk (hcc_); clear HB; have HB := n0_; have HR106 := n1_; have HC106 := n2_; clear n0_ n1_ n2_; clear hb hC_ hcc_) | ((with_reducible refine gate_callee (f := 12) rfl ?_); refine goesL_ (some 4) rfl rfl Try.func12 (by kernel_rfl) rfl #[.slice Ao12 y103.length co12] rfl (by (try simp only [List.map_toArray, List.map_cons, List.map_nil]); first | done | rfl | (simp only [List.length_drop, List.length_take]; rfl)) ?_; (with_reducible refine (token_Cut.calls _ _ y103 t107 _ ?side1 ?side2 A1.out).mono ?_); (case side1 => repeat (first | exact (by repeat (first | (with_reducible exact HR106.out) | (with_reducible refine Kd.C_alloc ?_ _) | (with_reducible refine Kd.C_drewN ?_ _) | (with_reducible refine Kd.C_drew ?_) | exact HR106.out)) | (with_reducible refine Kd.C_alloc ?_ _) | (with_reducible refine Kd.C_drewN ?_ _) | (with_reducible refine Kd.C_drew ?_))); (case side2 => exact HC106.out); rintro e w14 ⟨v108, rfl, ho0, hb⟩; refine ⟨_, rfl, ?_⟩; have n0_ := Aside0.mk (Kd.R_lower ho0 (below_size (by repeat (first | (with_reducible first | exact HB.out | apply below_alloc | apply pw_below_drewN | apply below_drew1) | exact HB.out)))); have n1_ := Aside0.mk (Kd.C_below (by repeat (first | (with_reducible exact HR106.out) | (with_reducible refine Kd.C_alloc ?_ _) | (with_reducible refine Kd.C_drewN ?_ _) | (with_reducible refine Kd.C_drew ?_) | exact HR106.out)) hb); have n2_ := Aside0.mk (below_step (by repeat (first | (with_reducible first | exact HB.out | apply below_alloc | apply pw_below_drewN | apply below_drew1) | exact HB.out)) hb); clear HR106; clear HB; have HO109 := n0_; have HR106 := n1_; have HB := n2_; clear n0_ n1_ n2_; (try clear hb); (try clear hb2); (try clear hk); (try clear hi); (try clear ho0); obtain ⟨Ao15, co15, eo15⟩ := Kd.R_slice HO109.out; subst eo15; have p110 : 0 ≤ (0 : Int) := (by omega); have q110 : 0 < (t107.length : Int) := of_decide_eq_true (by first | (with_reducible assumption) | assumption); obtain ⟨ad110, e110, hx110_0, hx110_1⟩ := at_T31 (Kd.R_reads' HO109.out).2.2 0 p110 q110; cases e110; have qi110 : (0 < t107.length) = True := eq_true (by omega); (try rw [show ((0 : Int)).toNat = 0 from rfl] at hx110_0); (try rw [show 0 * 2 = 0 from rfl] at hx110_0); (try rw [Addr.add_zero'] at hx110_0); (try rw [show ((0 : Int)).toNat = 0 from rfl] at hx110_1); (try rw [show 0 * 2 = 0 from rfl] at hx110_1); (try rw [Addr.add_zero'] at hx110_1); replace p110 := eq_true p110; replace q110 := eq_true q110; have p111 : 0 ≤ (1 : Int) := (by omega); have q111 : 1 < (t107.length : Int) := of_decide_eq_true (by first | (with_reducible assumption) | assumption); obtain ⟨ad111, e111, hx111_0, hx111_1⟩ := at_T31 (Kd.R_reads' HO109.out).2.2 1 p111 q111; obtain rfl : ad110 = ad111 := (by injection e111); (try simp only [show (1 : Int).toNat = 1 from rfl, Nat.reduceMul, Nat.reduceEqDiff, Go.Addr.add, ↓reduceIte] at hx111_0); (try simp only [show (1 : Int).toNat = 1 from rfl, Nat.reduceMul, Nat.reduceEqDiff, Go.Addr.add, ↓reduceIte] at hx111_1); have qi111 : (1 < t107.length) = True := eq_true (by omega); (try rw [show ((1 : Int)).toNat = 1 from rfl] at hx111_0); (try rw [show 1 * 2 = 2 from rfl] at hx111_0); (try rw [show ((1 : Int)).toNat = 1 from rfl] at hx111_1); (try rw [show 1 * 2 = 2 from rfl] at hx111_1); replace p111 := eq_true p111; replace q111 := eq_true q111) | (go_at_call 16; (with_reducible refine (token_Is.calls k (⟨#[103, 101, 116]⟩ : ByteArray) true _ A7.out).mono ?_); rintro e w' ⟨rfl, ⟨nd, rfl⟩⟩) | (go_at_call 16; (with_reducible refine (token_Is.calls k (⟨#[71, 101, 116]⟩ : ByteArray) t113 _ A9.out).mono ?_); rintro e w' ⟨rfl, ⟨nd, rfl⟩⟩))
              go_ret
              exact ⟨by first | rfl | (simp [errW_none, errW_some] <;> rfl) | (simp [*, errW_none, errW_some] <;> rfl), by repeat (first | (with_reducible first | exact HB.out | apply below_alloc | apply pw_below_drewN | apply below_drew1) | exact HB.out)⟩
            · replace c8 := Bool.eq_false_iff.mpr c8
              subst c8
              have H1 : (some false) = some r := by rw [if_neg (show ¬ (false = true) by decide)] at H; exact H
              clear H
              have H := H1
              clear H1
              obtain rfl := Option.some.inj H
              go_enter Try.func9, Try.ntmps9
              go_wp2_with (first | ((with_reducible refine gate_dst (N := 2) rfl ?_); refine Kd.R_lit (Kd.int .u8) _ 5 ?hg (N := 2) ?hd (xs := ([71, 69, 84, 32, 47, 97] : List Int)) (inner := [.int .u8 71, .int .u8 69, .int .u8 84, .int .u8 32, .int .u8 47, .int .u8 97]) (ok := fun _ => True) (okp := fun _ => True) ?hr ?hp (fun _ hk => hk) trivial (Below.refl _ _) (Nat.le_refl _) (by simp) ?_; (case hd => rfl); (case hg => rfl); (case hr => first | (go_simp; done) | (go_simp; rfl)); (case hp => exact (Reps.one (show Kd.M (Kd.int .u8) _ _ _ 71 [.int .u8 71] from rfl) (Reps.one (show Kd.M (Kd.int .u8) _ _ _ 69 [.int .u8 69] from rfl) (Reps.one (show Kd.M (Kd.int .u8) _ _ _ 84 [.int .u8 84] from rfl) (Reps.one (show Kd.M (Kd.int .u8) _ _ _ 32 [.int .u8 32] from rfl) (Reps.one (show Kd.M (Kd.int .u8) _ _ _ 47 [.int .u8 47] from rfl) (Reps.one (show Kd.M (Kd.int .u8) _ _ _ 97 [.int .u8 97] from rfl) (Reps.none _ _)))))))); intro v104 w16 ho17 hb hg_ hnew_; clear hg_ hnew_; (first | rw [← Ny103.out] at ho17 | (simp only [Int.reduceToNat] at ho17; rw [← Ny103.out] at ho17)); have n0_ := Aside0.mk (Kd.R_lower ho17 (below_size (by repeat (first | (with_reducible first | exact HB.out | apply below_alloc | apply pw_below_drewN | apply below_drew1) | exact HB.out)))); have n1_ := Aside0.mk (below_step (by repeat (first | (with_reducible first | exact HB.out | apply below_alloc | apply pw_below_drewN | apply below_drew1) | exact HB.out)) hb); clear HB; have HO105 := n0_; have HB := n1_; clear n0_ n1_; clear hb ho17; obtain ⟨Ao18, co18, eo18⟩ := Kd.R_slice HO105.out; subst eo18) | ((with_reducible refine gate_dst (N := 3) rfl ?_); refine Kd.mark_event rfl (N := 3) rfl 22 5 (.tmp 2) rfl Try.underlying22 Try.underlying5 Ao18 co18 y103 (by first | rfl | (go_simp; rfl)) _ (by first | decide | (rw [Ny103.out]; decide)) (by (with_reducible repeat (first | apply Kd.R_alloc | apply Kd.R_drewN | apply Kd.R_drew)); exact HO105.out) (by repeat (first | (with_reducible first | exact HB.out | apply below_alloc | apply pw_below_drewN | apply below_drew1) | exact HB.out)) ?_; intro w19 hcc_ hC_ hb; have n0_ := Aside0.mk (hb); have n1_ := Aside0.mk (hC_); have n2_ := Aside0.mk (hcc_); clear HB; have HB := n0_; have HR106 := n1_; have HC106 := n2_; clear n0_ n1_ n2_; clear hb hC_ hcc_) | ((with_reducible refine gate_callee (f := 12) rfl ?_); refine goesL_ (some 4) rfl rfl Try.func12 (by kernel_rfl) rfl #[.slice Ao18 y103.length co18] rfl (by (try simp only [List.map_toArray, List.map_cons, List.map_nil]); first | done | rfl | (simp only [List.length_drop, List.length_take]; rfl)) ?_; (with_reducible refine (token_Cut.calls _ _ y103 t107 _ ?side1 ?side2 A1.out).mono ?_); (case side1 => repeat (first | exact (by repeat (first | (with_reducible exact HR106.out) | (with_reducible refine Kd.C_alloc ?_ _) | (with_reducible refine Kd.C_drewN ?_ _) | (with_reducible refine Kd.C_drew ?_) | exact HR106.out)) | (with_reducible refine Kd.C_alloc ?_ _) | (with_reducible refine Kd.C_drewN ?_ _) | (with_reducible refine Kd.C_drew ?_))); (case side2 => exact HC106.out); rintro e w20 ⟨v108, rfl, ho0, hb⟩; refine ⟨_, rfl, ?_⟩; have n0_ := Aside0.mk (Kd.R_lower ho0 (below_size (by repeat (first | (with_reducible first | exact HB.out | apply below_alloc | apply pw_below_drewN | apply below_drew1) | exact HB.out)))); have n1_ := Aside0.mk (Kd.C_below (by repeat (first | (with_reducible exact HR106.out) | (with_reducible refine Kd.C_alloc ?_ _) | (with_reducible refine Kd.C_drewN ?_ _) | (with_reducible refine Kd.C_drew ?_) | exact HR106.out)) hb); have n2_ := Aside0.mk (below_step (by repeat (first | (with_reducible first | exact HB.out | apply below_alloc | apply pw_below_drewN | apply below_drew1) | exact HB.out)) hb); clear HR106; clear HB; have HO109 := n0_; have HR106 := n1_; have HB := n2_; clear n0_ n1_ n2_; (try clear hb); (try clear hb2); (try clear hk); (try clear hi); (try clear ho0); obtain ⟨Ao21, co21, eo21⟩ := Kd.R_slice HO109.out; subst eo21; have p110 : 0 ≤ (0 : Int) := (by omega); have q110 : 0 < (t107.length : Int) := of_decide_eq_true (by first | (with_reducible assumption) | assumption); obtain ⟨ad110, e110, hx110_0, hx110_1⟩ := at_T31 (Kd.R_reads' HO109.out).2.2 0 p110 q110; cases e110; have qi110 : (0 < t107.length) = True := eq_true (by omega); (try rw [show ((0 : Int)).toNat = 0 from rfl] at hx110_0); (try rw [show 0 * 2 = 0 from rfl] at hx110_0); (try rw [Addr.add_zero'] at hx110_0); (try rw [show ((0 : Int)).toNat = 0 from rfl] at hx110_1); (try rw [show 0 * 2 = 0 from rfl] at hx110_1); (try rw [Addr.add_zero'] at hx110_1); replace p110 := eq_true p110; replace q110 := eq_true q110; have p111 : 0 ≤ (1 : Int) := (by omega); have q111 : 1 < (t107.length : Int) := of_decide_eq_true (by first | (with_reducible assumption) | assumption); obtain ⟨ad111, e111, hx111_0, hx111_1⟩ := at_T31 (Kd.R_reads' HO109.out).2.2 1 p111 q111; obtain rfl : ad110 = ad111 := (by injection e111); (try simp only [show (1 : Int).toNat = 1 from rfl, Nat.reduceMul, Nat.reduceEqDiff, Go.Addr.add, ↓reduceIte] at hx111_0); (try simp only [show (1 : Int).toNat = 1 from rfl, Nat.reduceMul, Nat.reduceEqDiff, Go.Addr.add, ↓reduceIte] at hx111_1); have qi111 : (1 < t107.length) = True := eq_true (by omega); (try rw [show ((1 : Int)).toNat = 1 from rfl] at hx111_0); (try rw [show 1 * 2 = 2 from rfl] at hx111_0); (try rw [show ((1 : Int)).toNat = 1 from rfl] at hx111_1); (try rw [show 1 * 2 = 2 from rfl] at hx111_1); replace p111 := eq_true p111; replace q111 := eq_true q111) | (go_at_call 16; (with_reducible refine (token_Is.calls k (⟨#[103, 101, 116]⟩ : ByteArray) false _ A7.out).mono ?_); rintro e w' ⟨rfl, ⟨nd, rfl⟩⟩))
              go_ret
              exact ⟨by first | rfl | (simp [errW_none, errW_some] <;> rfl) | (simp [*, errW_none, errW_some] <;> rfl), by repeat (first | (with_reducible first | exact HB.out | apply below_alloc | apply pw_below_drewN | apply below_drew1) | exact HB.out)⟩
          · rw [if_neg c6] at H
            have c6b0 : (((rd_T31 t107 1).f0) == 1 && ((((rd_T31 t107 1).f1).toList) == ([97] : List UInt8))) = false := by simpa using c6
            (try (have c6b1 : decide (((rd_T31 t107 1).f0) = 1 && ((((rd_T31 t107 1).f1).toList) == ([97] : List UInt8))) = false := by simpa using c6))
            (try (have c6b2 : (((rd_T31 t107 1).f0) == 1 && ((((rd_T31 t107 1).f1).toList) == ([97] : List UInt8))) = false := by simpa using c6))
            (try (have c6b3 : ¬ (((rd_T31 t107 1).f0) = 1 && ((((rd_T31 t107 1).f1).toList) == ([97] : List UInt8))) := by simpa using c6))
            clear c6
            obtain rfl := Option.some.inj H
            go_enter Try.func9, Try.ntmps9
            go_wp2_with (first | ((with_reducible refine gate_dst (N := 2) rfl ?_); refine Kd.R_lit (Kd.int .u8) _ 5 ?hg (N := 2) ?hd (xs := ([71, 69, 84, 32, 47, 97] : List Int)) (inner := [.int .u8 71, .int .u8 69, .int .u8 84, .int .u8 32, .int .u8 47, .int .u8 97]) (ok := fun _ => True) (okp := fun _ => True) ?hr ?hp (fun _ hk => hk) trivial (Below.refl _ _) (Nat.le_refl _) (by simp) ?_; (case hd => rfl); (case hg => rfl); (case hr => first | (go_simp; done) | (go_simp; rfl)); (case hp => exact (Reps.one (show Kd.M (Kd.int .u8) _ _ _ 71 [.int .u8 71] from rfl) (Reps.one (show Kd.M (Kd.int .u8) _ _ _ 69 [.int .u8 69] from rfl) (Reps.one (show Kd.M (Kd.int .u8) _ _ _ 84 [.int .u8 84] from rfl) (Reps.one (show Kd.M (Kd.int .u8) _ _ _ 32 [.int .u8 32] from rfl) (Reps.one (show Kd.M (Kd.int .u8) _ _ _ 47 [.int .u8 47] from rfl) (Reps.one (show Kd.M (Kd.int .u8) _ _ _ 97 [.int .u8 97] from rfl) (Reps.none _ _)))))))); intro v104 w22 ho23 hb hg_ hnew_; clear hg_ hnew_; (first | rw [← Ny103.out] at ho23 | (simp only [Int.reduceToNat] at ho23; rw [← Ny103.out] at ho23)); have n0_ := Aside0.mk (Kd.R_lower ho23 (below_size (by repeat (first | (with_reducible first | exact HB.out | apply below_alloc | apply pw_below_drewN | apply below_drew1) | exact HB.out)))); have n1_ := Aside0.mk (below_step (by repeat (first | (with_reducible first | exact HB.out | apply below_alloc | apply pw_below_drewN | apply below_drew1) | exact HB.out)) hb); clear HB; have HO105 := n0_; have HB := n1_; clear n0_ n1_; clear hb ho23; obtain ⟨Ao24, co24, eo24⟩ := Kd.R_slice HO105.out; subst eo24) | ((with_reducible refine gate_dst (N := 3) rfl ?_); refine Kd.mark_event rfl (N := 3) rfl 22 5 (.tmp 2) rfl Try.underlying22 Try.underlying5 Ao24 co24 y103 (by first | rfl | (go_simp; rfl)) _ (by first | decide | (rw [Ny103.out]; decide)) (by (with_reducible repeat (first | apply Kd.R_alloc | apply Kd.R_drewN | apply Kd.R_drew)); exact HO105.out) (by repeat (first | (with_reducible first | exact HB.out | apply below_alloc | apply pw_below_drewN | apply below_drew1) | exact HB.out)) ?_; intro w25 hcc_ hC_ hb; have n0_ := Aside0.mk (hb); have n1_ := Aside0.mk (hC_); have n2_ := Aside0.mk (hcc_); clear HB; have HB := n0_; have HR106 := n1_; have HC106 := n2_; clear n0_ n1_ n2_; clear hb hC_ hcc_) | ((with_reducible refine gate_callee (f := 12) rfl ?_); refine goesL_ (some 4) rfl rfl Try.func12 (by kernel_rfl) rfl #[.slice Ao24 y103.length co24] rfl (by (try simp only [List.map_toArray, List.map_cons, List.map_nil]); first | done | rfl | (simp only [List.length_drop, List.length_take]; rfl)) ?_; (with_reducible refine (token_Cut.calls _ _ y103 t107 _ ?side1 ?side2 A1.out).mono ?_); (case side1 => repeat (first | exact (by repeat (first | (with_reducible exact HR106.out) | (with_reducible refine Kd.C_alloc ?_ _) | (with_reducible refine Kd.C_drewN ?_ _) | (with_reducible refine Kd.C_drew ?_) | exact HR106.out)) | (with_reducible refine Kd.C_alloc ?_ _) | (with_reducible refine Kd.C_drewN ?_ _) | (with_reducible refine Kd.C_drew ?_))); (case side2 => exact HC106.out); rintro e w26 ⟨v108, rfl, ho0, hb⟩; refine ⟨_, rfl, ?_⟩; have n0_ := Aside0.mk (Kd.R_lower ho0 (below_size (by repeat (first | (with_reducible first | exact HB.out | apply below_alloc | apply pw_below_drewN | apply below_drew1) | exact HB.out)))); have n1_ := Aside0.mk (Kd.C_below (by repeat (first | (with_reducible exact HR106.out) | (with_reducible refine Kd.C_alloc ?_ _) | (with_reducible refine Kd.C_drewN ?_ _) | (with_reducible refine Kd.C_drew ?_) | exact HR106.out)) hb); have n2_ := Aside0.mk (below_step (by repeat (first | (with_reducible first | exact HB.out | apply below_alloc | apply pw_below_drewN | apply below_drew1) | exact HB.out)) hb); clear HR106; clear HB; have HO109 := n0_; have HR106 := n1_; have HB := n2_; clear n0_ n1_ n2_; (try clear hb); (try clear hb2); (try clear hk); (try clear hi); (try clear ho0); obtain ⟨Ao27, co27, eo27⟩ := Kd.R_slice HO109.out; subst eo27; have p110 : 0 ≤ (0 : Int) := (by omega); have q110 : 0 < (t107.length : Int) := of_decide_eq_true (by first | (with_reducible assumption) | assumption); obtain ⟨ad110, e110, hx110_0, hx110_1⟩ := at_T31 (Kd.R_reads' HO109.out).2.2 0 p110 q110; cases e110; have qi110 : (0 < t107.length) = True := eq_true (by omega); (try rw [show ((0 : Int)).toNat = 0 from rfl] at hx110_0); (try rw [show 0 * 2 = 0 from rfl] at hx110_0); (try rw [Addr.add_zero'] at hx110_0); (try rw [show ((0 : Int)).toNat = 0 from rfl] at hx110_1); (try rw [show 0 * 2 = 0 from rfl] at hx110_1); (try rw [Addr.add_zero'] at hx110_1); replace p110 := eq_true p110; replace q110 := eq_true q110; have p111 : 0 ≤ (1 : Int) := (by omega); have q111 : 1 < (t107.length : Int) := of_decide_eq_true (by first | (with_reducible assumption) | assumption); obtain ⟨ad111, e111, hx111_0, hx111_1⟩ := at_T31 (Kd.R_reads' HO109.out).2.2 1 p111 q111; obtain rfl : ad110 = ad111 := (by injection e111); (try simp only [show (1 : Int).toNat = 1 from rfl, Nat.reduceMul, Nat.reduceEqDiff, Go.Addr.add, ↓reduceIte] at hx111_0); (try simp only [show (1 : Int).toNat = 1 from rfl, Nat.reduceMul, Nat.reduceEqDiff, Go.Addr.add, ↓reduceIte] at hx111_1); have qi111 : (1 < t107.length) = True := eq_true (by omega); (try rw [show ((1 : Int)).toNat = 1 from rfl] at hx111_0); (try rw [show 1 * 2 = 2 from rfl] at hx111_0); (try rw [show ((1 : Int)).toNat = 1 from rfl] at hx111_1); (try rw [show 1 * 2 = 2 from rfl] at hx111_1); replace p111 := eq_true p111; replace q111 := eq_true q111))
            go_ret
            exact ⟨by first | rfl | (simp [errW_none, errW_some] <;> rfl) | (simp [*, errW_none, errW_some] <;> rfl), by repeat (first | (with_reducible first | exact HB.out | apply below_alloc | apply pw_below_drewN | apply below_drew1) | exact HB.out)⟩
        · rw [if_neg c5] at H
          exact absurd H (by simp)
      · rw [if_neg c4] at H
        have c4b0 : (((rd_T31 t107 0).f1).toList == ([103, 101, 116] : List UInt8)) = false := beq_eq_false_iff_ne.mpr c4
        have c4b1 : (((rd_T31 t107 0).f1).toList != ([103, 101, 116] : List UInt8)) = true := bne_iff_ne.mpr c4
        obtain rfl := Option.some.inj H
        go_enter Try.func9, Try.ntmps9
        go_wp2_with (first | ((with_reducible refine gate_dst (N := 2) rfl ?_); refine Kd.R_lit (Kd.int .u8) _ 5 ?hg (N := 2) ?hd (xs := ([71, 69, 84, 32, 47, 97] : List Int)) (inner := [.int .u8 71, .int .u8 69, .int .u8 84, .int .u8 32, .int .u8 47, .int .u8 97]) (ok := fun _ => True) (okp := fun _ => True) ?hr ?hp (fun _ hk => hk) trivial (Below.refl _ _) (Nat.le_refl _) (by simp) ?_; (case hd => rfl); (case hg => rfl); (case hr => first | (go_simp; done) | (go_simp; rfl)); (case hp => exact (Reps.one (show Kd.M (Kd.int .u8) _ _ _ 71 [.int .u8 71] from rfl) (Reps.one (show Kd.M (Kd.int .u8) _ _ _ 69 [.int .u8 69] from rfl) (Reps.one (show Kd.M (Kd.int .u8) _ _ _ 84 [.int .u8 84] from rfl) (Reps.one (show Kd.M (Kd.int .u8) _ _ _ 32 [.int .u8 32] from rfl) (Reps.one (show Kd.M (Kd.int .u8) _ _ _ 47 [.int .u8 47] from rfl) (Reps.one (show Kd.M (Kd.int .u8) _ _ _ 97 [.int .u8 97] from rfl) (Reps.none _ _)))))))); intro v104 w28 ho29 hb hg_ hnew_; clear hg_ hnew_; (first | rw [← Ny103.out] at ho29 | (simp only [Int.reduceToNat] at ho29; rw [← Ny103.out] at ho29)); have n0_ := Aside0.mk (Kd.R_lower ho29 (below_size (by repeat (first | (with_reducible first | exact HB.out | apply below_alloc | apply pw_below_drewN | apply below_drew1) | exact HB.out)))); have n1_ := Aside0.mk (below_step (by repeat (first | (with_reducible first | exact HB.out | apply below_alloc | apply pw_below_drewN | apply below_drew1) | exact HB.out)) hb); clear HB; have HO105 := n0_; have HB := n1_; clear n0_ n1_; clear hb ho29; obtain ⟨Ao30, co30, eo30⟩ := Kd.R_slice HO105.out; subst eo30) | ((with_reducible refine gate_dst (N := 3) rfl ?_); refine Kd.mark_event rfl (N := 3) rfl 22 5 (.tmp 2) rfl Try.underlying22 Try.underlying5 Ao30 co30 y103 (by first | rfl | (go_simp; rfl)) _ (by first | decide | (rw [Ny103.out]; decide)) (by (with_reducible repeat (first | apply Kd.R_alloc | apply Kd.R_drewN | apply Kd.R_drew)); exact HO105.out) (by repeat (first | (with_reducible first | exact HB.out | apply below_alloc | apply pw_below_drewN | apply below_drew1) | exact HB.out)) ?_; intro w31 hcc_ hC_ hb; have n0_ := Aside0.mk (hb); have n1_ := Aside0.mk (hC_); have n2_ := Aside0.mk (hcc_); clear HB; have HB := n0_; have HR106 := n1_; have HC106 := n2_; clear n0_ n1_ n2_; clear hb hC_ hcc_) | ((with_reducible refine gate_callee (f := 12) rfl ?_); refine goesL_ (some 4) rfl rfl Try.func12 (by kernel_rfl) rfl #[.slice Ao30 y103.length co30] rfl (by (try simp only [List.map_toArray, List.map_cons, List.map_nil]); first | done | rfl | (simp only [List.length_drop, List.length_take]; rfl)) ?_; (with_reducible refine (token_Cut.calls _ _ y103 t107 _ ?side1 ?side2 A1.out).mono ?_); (case side1 => repeat (first | exact (by repeat (first | (with_reducible exact HR106.out) | (with_reducible refine Kd.C_alloc ?_ _) | (with_reducible refine Kd.C_drewN ?_ _) | (with_reducible refine Kd.C_drew ?_) | exact HR106.out)) | (with_reducible refine Kd.C_alloc ?_ _) | (with_reducible refine Kd.C_drewN ?_ _) | (with_reducible refine Kd.C_drew ?_))); (case side2 => exact HC106.out); rintro e w32 ⟨v108, rfl, ho0, hb⟩; refine ⟨_, rfl, ?_⟩; have n0_ := Aside0.mk (Kd.R_lower ho0 (below_size (by repeat (first | (with_reducible first | exact HB.out | apply below_alloc | apply pw_below_drewN | apply below_drew1) | exact HB.out)))); have n1_ := Aside0.mk (Kd.C_below (by repeat (first | (with_reducible exact HR106.out) | (with_reducible refine Kd.C_alloc ?_ _) | (with_reducible refine Kd.C_drewN ?_ _) | (with_reducible refine Kd.C_drew ?_) | exact HR106.out)) hb); have n2_ := Aside0.mk (below_step (by repeat (first | (with_reducible first | exact HB.out | apply below_alloc | apply pw_below_drewN | apply below_drew1) | exact HB.out)) hb); clear HR106; clear HB; have HO109 := n0_; have HR106 := n1_; have HB := n2_; clear n0_ n1_ n2_; (try clear hb); (try clear hb2); (try clear hk); (try clear hi); (try clear ho0); obtain ⟨Ao33, co33, eo33⟩ := Kd.R_slice HO109.out; subst eo33; have p110 : 0 ≤ (0 : Int) := (by omega); have q110 : 0 < (t107.length : Int) := of_decide_eq_true (by first | (with_reducible assumption) | assumption); obtain ⟨ad110, e110, hx110_0, hx110_1⟩ := at_T31 (Kd.R_reads' HO109.out).2.2 0 p110 q110; cases e110; have qi110 : (0 < t107.length) = True := eq_true (by omega); (try rw [show ((0 : Int)).toNat = 0 from rfl] at hx110_0); (try rw [show 0 * 2 = 0 from rfl] at hx110_0); (try rw [Addr.add_zero'] at hx110_0); (try rw [show ((0 : Int)).toNat = 0 from rfl] at hx110_1); (try rw [show 0 * 2 = 0 from rfl] at hx110_1); (try rw [Addr.add_zero'] at hx110_1); replace p110 := eq_true p110; replace q110 := eq_true q110))
        go_ret
        exact ⟨by first | rfl | (simp [errW_none, errW_some] <;> rfl) | (simp [*, errW_none, errW_some] <;> rfl), by repeat (first | (with_reducible first | exact HB.out | apply below_alloc | apply pw_below_drewN | apply below_drew1) | exact HB.out)⟩
    · rw [if_neg c3] at H
      exact absurd H (by simp)
  · rw [if_neg c2] at H
    have c2b0 : ((t107.length : Int) == 2) = false := beq_eq_false_iff_ne.mpr c2
    have c2b1 : ((t107.length : Int) != 2) = true := bne_iff_ne.mpr c2
    obtain rfl := Option.some.inj H
    go_enter Try.func9, Try.ntmps9
    go_wp2_with (first | ((with_reducible refine gate_dst (N := 2) rfl ?_); refine Kd.R_lit (Kd.int .u8) _ 5 ?hg (N := 2) ?hd (xs := ([71, 69, 84, 32, 47, 97] : List Int)) (inner := [.int .u8 71, .int .u8 69, .int .u8 84, .int .u8 32, .int .u8 47, .int .u8 97]) (ok := fun _ => True) (okp := fun _ => True) ?hr ?hp (fun _ hk => hk) trivial (Below.refl _ _) (Nat.le_refl _) (by simp) ?_; (case hd => rfl); (case hg => rfl); (case hr => first | (go_simp; done) | (go_simp; rfl)); (case hp => exact (Reps.one (show Kd.M (Kd.int .u8) _ _ _ 71 [.int .u8 71] from rfl) (Reps.one (show Kd.M (Kd.int .u8) _ _ _ 69 [.int .u8 69] from rfl) (Reps.one (show Kd.M (Kd.int .u8) _ _ _ 84 [.int .u8 84] from rfl) (Reps.one (show Kd.M (Kd.int .u8) _ _ _ 32 [.int .u8 32] from rfl) (Reps.one (show Kd.M (Kd.int .u8) _ _ _ 47 [.int .u8 47] from rfl) (Reps.one (show Kd.M (Kd.int .u8) _ _ _ 97 [.int .u8 97] from rfl) (Reps.none _ _)))))))); intro v104 w34 ho35 hb hg_ hnew_; clear hg_ hnew_; (first | rw [← Ny103.out] at ho35 | (simp only [Int.reduceToNat] at ho35; rw [← Ny103.out] at ho35)); have n0_ := Aside0.mk (Kd.R_lower ho35 (below_size (by repeat (first | (with_reducible first | exact HB.out | apply below_alloc | apply pw_below_drewN | apply below_drew1) | exact HB.out)))); have n1_ := Aside0.mk (below_step (by repeat (first | (with_reducible first | exact HB.out | apply below_alloc | apply pw_below_drewN | apply below_drew1) | exact HB.out)) hb); clear HB; have HO105 := n0_; have HB := n1_; clear n0_ n1_; clear hb ho35; obtain ⟨Ao36, co36, eo36⟩ := Kd.R_slice HO105.out; subst eo36) | ((with_reducible refine gate_dst (N := 3) rfl ?_); refine Kd.mark_event rfl (N := 3) rfl 22 5 (.tmp 2) rfl Try.underlying22 Try.underlying5 Ao36 co36 y103 (by first | rfl | (go_simp; rfl)) _ (by first | decide | (rw [Ny103.out]; decide)) (by (with_reducible repeat (first | apply Kd.R_alloc | apply Kd.R_drewN | apply Kd.R_drew)); exact HO105.out) (by repeat (first | (with_reducible first | exact HB.out | apply below_alloc | apply pw_below_drewN | apply below_drew1) | exact HB.out)) ?_; intro w37 hcc_ hC_ hb; have n0_ := Aside0.mk (hb); have n1_ := Aside0.mk (hC_); have n2_ := Aside0.mk (hcc_); clear HB; have HB := n0_; have HR106 := n1_; have HC106 := n2_; clear n0_ n1_ n2_; clear hb hC_ hcc_) | ((with_reducible refine gate_callee (f := 12) rfl ?_); refine goesL_ (some 4) rfl rfl Try.func12 (by kernel_rfl) rfl #[.slice Ao36 y103.length co36] rfl (by (try simp only [List.map_toArray, List.map_cons, List.map_nil]); first | done | rfl | (simp only [List.length_drop, List.length_take]; rfl)) ?_; (with_reducible refine (token_Cut.calls _ _ y103 t107 _ ?side1 ?side2 A1.out).mono ?_); (case side1 => repeat (first | exact (by repeat (first | (with_reducible exact HR106.out) | (with_reducible refine Kd.C_alloc ?_ _) | (with_reducible refine Kd.C_drewN ?_ _) | (with_reducible refine Kd.C_drew ?_) | exact HR106.out)) | (with_reducible refine Kd.C_alloc ?_ _) | (with_reducible refine Kd.C_drewN ?_ _) | (with_reducible refine Kd.C_drew ?_))); (case side2 => exact HC106.out); rintro e w38 ⟨v108, rfl, ho0, hb⟩; refine ⟨_, rfl, ?_⟩; have n0_ := Aside0.mk (Kd.R_lower ho0 (below_size (by repeat (first | (with_reducible first | exact HB.out | apply below_alloc | apply pw_below_drewN | apply below_drew1) | exact HB.out)))); have n1_ := Aside0.mk (Kd.C_below (by repeat (first | (with_reducible exact HR106.out) | (with_reducible refine Kd.C_alloc ?_ _) | (with_reducible refine Kd.C_drewN ?_ _) | (with_reducible refine Kd.C_drew ?_) | exact HR106.out)) hb); have n2_ := Aside0.mk (below_step (by repeat (first | (with_reducible first | exact HB.out | apply below_alloc | apply pw_below_drewN | apply below_drew1) | exact HB.out)) hb); clear HR106; clear HB; have HO109 := n0_; have HR106 := n1_; have HB := n2_; clear n0_ n1_ n2_; (try clear hb); (try clear hb2); (try clear hk); (try clear hi); (try clear ho0); obtain ⟨Ao39, co39, eo39⟩ := Kd.R_slice HO109.out; subst eo39))
    go_ret
    exact ⟨by first | rfl | (simp [errW_none, errW_some] <;> rfl) | (simp [*, errW_none, errW_some] <;> rfl), by repeat (first | (with_reducible first | exact HB.out | apply below_alloc | apply pw_below_drewN | apply below_drew1) | exact HB.out)⟩

/-! ### dragnetref01_Copy: function 10 -/
def dragnetref01_Copy.f (l0 : List Int) : Option (List Int) := (some (([] : List Int) : List Int)).bind fun y114 => (if y114.length + l0.length < 140737488355328 then (some (y114 ++ l0)) else (none))
set_option maxHeartbeats 8000000 in
set_option maxRecDepth 100000 in
theorem dragnetref01_Copy.calls (A0 : Option Addr) (c0 : Nat) (l0 : List Int) (r : List Int) (w : World) (hr0 : Kd.C (Kd.int .u8) w A0 l0.length l0) (hc0 : l0.length ≤ c0) (h : dragnetref01_Copy.f l0 = some r) :
    Calls Try.prog 10 #[.slice A0 l0.length c0] w fun e w' => ∃ v0_ : Value, e = .returned (v0_) ∧ Kd.R (Kd.int .u8) 5 w' w.heap.size (fun _ => True) v0_ r ∧ Below w.heap.size w w' := by
  have HR0 := Aside0.mk hr0
  have HC0 := Aside0.mk hc0
  clear hr0 hc0
  have HB := Aside0.mk (Below.refl w.heap.size w)
  have H : ((some (([] : List Int) : List Int)).bind fun y114 => (if y114.length + l0.length < 140737488355328 then (some (y114 ++ l0)) else (none))) = some r := h
  clear h
  obtain ⟨y114, hy114⟩ : ∃ y_ : List Int, y_ = (([] : List Int)) := ⟨_, rfl⟩
  replace H : (if y114.length + l0.length < 140737488355328 then (some (y114 ++ l0)) else (none)) = some r := by first | (rw [hy114]; with_reducible exact H) | (have H2_ := (Option.bind_some _ _).symm.trans H; rw [hy114]; with_reducible exact H2_) | (have H2_ := (Option.bind_some _ _).symm.trans H; with_reducible exact H2_) | with_reducible exact H | (rw [hy114]; exact H) | exact H
  have Ny114 := Aside0.mk hy114
  clear hy114
  by_cases c2 : y114.length + l0.length < 140737488355328
  · rw [if_pos c2] at H
    have LMc2 := Aside0.mk c2
    clear c2
    obtain ⟨y117, hy117⟩ : ∃ y_ : List Int, y_ = (y114 ++ l0) := ⟨_, rfl⟩
    replace H : (some y117) = some r := by first | (rw [hy117]; with_reducible exact H) | (have H2_ := (Option.bind_some _ _).symm.trans H; rw [hy117]; with_reducible exact H2_) | (have H2_ := (Option.bind_some _ _).symm.trans H; with_reducible exact H2_) | with_reducible exact H | (rw [hy117]; exact H) | exact H
    have Ny117 := Aside0.mk hy117
    clear hy117
    obtain rfl := Option.some.inj H
    go_enter Try.func10, Try.ntmps10
    go_wp2_with (first | ((with_reducible refine gate_dst (N := 3) rfl ?_); refine Kd.R_lit (Kd.int .u8) _ 5 ?hg (N := 3) ?hd (xs := ([] : List Int)) (inner := []) (ok := fun _ => True) (okp := fun _ => True) ?hr ?hp (fun _ hk => hk) trivial (Below.refl _ _) (Nat.le_refl _) (by simp) ?_; (case hd => rfl); (case hg => rfl); (case hr => first | (go_simp; done) | (go_simp; rfl)); (case hp => exact (Reps.none _ _)); intro v115 w3 ho4 hb hg_ hnew_; clear hg_ hnew_; (first | rw [← Ny114.out] at ho4 | (simp only [Int.reduceToNat] at ho4; rw [← Ny114.out] at ho4)); have n0_ := Aside0.mk (Kd.R_lower ho4 (below_size (by repeat (first | (with_reducible first | exact HB.out | apply below_alloc | apply pw_below_drewN | apply below_drew1) | exact HB.out)))); have n1_ := Aside0.mk (below_step (by repeat (first | (with_reducible first | exact HB.out | apply below_alloc | apply pw_below_drewN | apply below_drew1) | exact HB.out)) hb); clear HB; have HO116 := n0_; have HB := n1_; clear n0_ n1_; clear hb ho4) | ((with_reducible refine gate_builtin (b := .append) (xs := #[.tmp 3, .tmp 4]) rfl ?_); at_builtin; refine Kd.R_append_rows (Kd.int .u8) (w0 := w) w.heap.size rfl (.tmp 3) (.tmp 4) 22 5 (.int .u8 0) 1 rfl Try.underlying22 info5 rfl (by decide) (by omega) v115 y114 l0 _ _ _ (fun _ => True) (fun _ => False) rfl rfl ?aO ?aR (fun _ _ h => h) (fun _ h => h.elim) ?aF ?aB ?aS ?aL ?_; (case aR => repeat (first | exact (Kd.C_below HR0.out HB.out) | (with_reducible refine Kd.C_alloc ?_ _) | (with_reducible refine Kd.C_drewN ?_ _) | (with_reducible refine Kd.C_drew ?_))); (case aB => exact (by repeat (first | (with_reducible first | exact HB.out | apply below_alloc | apply pw_below_drewN | apply below_drew1) | exact HB.out))); (case aF => exact (fun _ _ => trivial)); (case aO => exact (by (with_reducible repeat (first | apply Kd.R_alloc | apply Kd.R_drewN | apply Kd.R_drew)); exact HO116.out)); (case aS => exact (below_size (by repeat (first | (with_reducible first | exact HB.out | apply below_alloc | apply pw_below_drewN | apply below_drew1) | exact HB.out)))); (case aL => have := LMc2.out; omega); intro v118 w5 ho hb hg hat; rw [← Ny117.out] at ho; have n0_ := Aside0.mk (hb); have n1_ := Aside0.mk (ho); clear HB; clear HO116; have HB := n0_; have HO119 := n1_; clear n0_ n1_; clear ho hb hg hat))
    go_ret
    exact ⟨_, by first | rfl | (simp [errW_none, errW_some] <;> rfl) | (simp [*, errW_none, errW_some] <;> rfl), by (with_reducible repeat (first | apply Kd.R_alloc | apply Kd.R_drewN | apply Kd.R_drew)); exact HO119.out, by repeat (first | (with_reducible first | exact HB.out | apply below_alloc | apply pw_below_drewN | apply below_drew1) | exact HB.out)⟩
  · rw [if_neg c2] at H
    exact absurd H (by simp)

end Go.Proofs.Ytlmegmjdjdmmgaa.P
