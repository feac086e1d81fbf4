/- Words and proofs that UpPostSkips leans on; put together by wip/tools/shake.py. -/
import Derived.Test.YtooeclfeallkkaaZUpPostSkips7
import Derived.Test.YtooeclfeallkkaaZUpPostSkips13
import Derived.Test.YtooeclfeallkkaaZUpPostSkips14
import Derived.Test.YtooeclfeallkkaaZUpPostSkips15
section
namespace Go.Proofs.Ytooeclfeallkkaa.P
open Go.RowKit Go.Proofs.YtooeclfeallkkaaW.PrintWords Go.Proofs.YtooeclfeallkkaaW.PrintLast Go.Proofs.YtooeclfeallkkaaW.PrintMore
attribute [local go_sem] max2_int min2_int max_two min_two max_three min_three max_four min_four
set_option linter.unusedVariables false
set_option linter.unusedSimpArgs false
def dragnetref13_rises.l0 : Nat → List Int → Int → Int → Option (Bool)
 | 0, _, _, _ => none
 | k + 1, x0, x1, x5 => if x5 < (x0.length : Int) then (if 0 ≤ x5 then (if (rd x0 x5) < 0 then (some false) else (if (rd x0 x5) > x1 then (some false) else (if x5 > 0 then (if 0 ≤ (wrap64 (x5 - 1)) then (if (wrap64 (x5 - 1)) < (x0.length : Int) then (if (rd x0 (wrap64 (x5 - 1))) ≥ (rd x0 x5) then (some false) else (dragnetref13_rises.l0 k x0 x1 (wrap64 (x5 + 1)))) else (none)) else (none)) else (dragnetref13_rises.l0 k x0 x1 (wrap64 (x5 + 1)))))) else (none)) else (some true)
def dragnetref13_rises.f (k : Nat) (l0 : List Int) (a1 : Int) : Option (Bool) := dragnetref13_rises.l0 k l0 a1 0
theorem dragnetref13_rises.mono_l : ∀ k, (∀ y0 y1 y2, LeO (dragnetref13_rises.l0 k y0 y1 y2) (dragnetref13_rises.l0 (k + 1) y0 y1 y2))
 | 0 => fun _ _ _ r h => by simp [dragnetref13_rises.l0] at h
 | k + 1 => by
  have ih0 := dragnetref13_rises.mono_l k
  ·intro y0 y1 y2
   unfold dragnetref13_rises.l0
   repeat' first
   | (with_reducible exact ih0 _ _ _)
   | (with_reducible exact LeO.refl _)
   | (with_reducible exact LeO.none _)
   | (with_reducible refine LeO.ite ?_ ?_)
   | (with_reducible refine LeO.bind ?_ (fun _ => ?_))
theorem dragnetref13_rises.mono : ∀ a0 a1 k, LeO (dragnetref13_rises.f k a0 a1) (dragnetref13_rises.f (k + 1) a0 a1) := by
 intro a0 a1 k
 have ih0 := dragnetref13_rises.mono_l k
 unfold dragnetref13_rises.f
 repeat' first
   | (with_reducible exact ih0 _ _ _)
   | (with_reducible exact LeO.refl _)
   | (with_reducible exact LeO.none _)
   | (with_reducible refine LeO.ite ?_ ?_)
   | (with_reducible refine LeO.bind ?_ (fun _ => ?_))
set_option maxHeartbeats 8000000 in
set_option maxRecDepth 100000 in
theorem dragnetref13_rises.calls (k : Nat) (A0 : Option Addr) (c0 : Nat) (l0 : List Int) (a1 : Int) (r : Bool) (w : World) (hr0 : Kd.C (Kd.int .i64) w A0 l0.length l0) (hc0 : l0.length ≤ c0) (h : dragnetref13_rises.f k l0 a1 = some r) :
  Calls Try.prog 29 #[.slice A0 l0.length c0, .int .i64 a1] w fun e w' => e = .returned (.bool r) ∧ Drawn0 w w' := by
 have HR0 := Aside0.mk hr0
 have HC0 := Aside0.mk hc0
 clear hr0 hc0
 have H : (dragnetref13_rises.l0 k l0 a1 0) = some r := h
 clear h
 have H' := Aside0.mk H
 clear H
 go_enter Try.func29, Try.ntmps29
 go_wp2
 go_loopg [5] k (fun kq v5 w' => ∃ (x5_1 : Int), v5 = .int .i64 x5_1 ∧ Aside0 (dragnetref13_rises.l0 kq l0 a1 x5_1 = some r) ∧ Aside0 (kq ≤ k) ∧ Drawn0 w w')
 case atStart => exact ⟨(0), (by first | rfl | (simp; done) | (simp [*]; done)), H', ⟨Nat.le_refl _⟩, by repeat (first | exact Drawn0.refl _ | apply Drawn0.step)⟩
 case round =>
  clear H'
  obtain ⟨x5_1, rfl, HA, HK1, ⟨m1, rfl⟩⟩ := hrel
  cases gk with
  | zero => exact absurd HA.out (by simp [dragnetref13_rises.l0])
  | succ k1 =>
   have H := HA.out
   clear HA
   simp only [dragnetref13_rises.l0] at H
   by_cases c3 : x5_1 < (l0.length : Int)
   rotate_left
   ·rw [if_neg c3] at H
    have c3b0 : decide (x5_1 < (l0.length : Int)) = false := decide_eq_false c3
    clear c3
    obtain rfl := Option.some.inj H
    go_wp2
    go_ret
    exact ⟨by first | rfl | (simp; done) | (simp [*]; done), by repeat (first | exact Drawn0.refl _ | apply Drawn0.step)⟩
   rw [if_pos c3] at H
   have c3b0 : decide (x5_1 < (l0.length : Int)) = true := decide_eq_true c3
   clear c3
   by_cases c4 : 0 ≤ x5_1
   rotate_left
   ·rw [if_neg c4] at H
    exact absurd H (by simp)
   rw [if_pos c4] at H
   have c4b0 : decide (0 ≤ x5_1) = true := decide_eq_true c4
   clear c4
   by_cases c5 : (rd l0 x5_1) < 0
   ·rw [if_pos c5] at H
    have c5b0 : decide ((rd l0 x5_1) < 0) = true := decide_eq_true c5
    clear c5
    obtain rfl := Option.some.inj H
    have p362 : 0 ≤ (x5_1 : Int) := od_
    have q362 : x5_1 < (l0.length : Int) := od_
    obtain ⟨ad362, e362, hx362_0⟩ := Kd.at_int HR0.out x5_1 p362 q362
    cases e362
    replace p362 := eq_true p362
    replace q362 := eq_true q362
    go_wp2
    repeat (go_quiet (fail); try go_wp2)
    go_ret
    exact ⟨by first | rfl | (simp; done) | (simp [*]; done), by repeat (first | exact Drawn0.refl _ | apply Drawn0.step)⟩
   ·rw [if_neg c5] at H
    have c5b0 : decide ((rd l0 x5_1) < 0) = false := decide_eq_false c5
    clear c5
    by_cases c6 : (rd l0 x5_1) > a1
    ·rw [if_pos c6] at H
     have c6b0 : decide (a1 < (rd l0 x5_1)) = true := decide_eq_true c6
     clear c6
     obtain rfl := Option.some.inj H
     have p362 : 0 ≤ (x5_1 : Int) := od_
     have q362 : x5_1 < (l0.length : Int) := od_
     obtain ⟨ad362, e362, hx362_0⟩ := Kd.at_int HR0.out x5_1 p362 q362
     cases e362
     replace p362 := eq_true p362
     replace q362 := eq_true q362
     have p363 : 0 ≤ (x5_1 : Int) := od_
     have q363 : x5_1 < (l0.length : Int) := od_
     obtain ⟨ad363, e363, hx363_0⟩ := Kd.at_int HR0.out x5_1 p363 q363
     obtain rfl : ad362 = ad363 := (by injection e363)
     replace p363 := eq_true p363
     replace q363 := eq_true q363
     go_wp2
     repeat (go_quiet (fail); try go_wp2)
     go_ret
     exact ⟨by first | rfl | (simp; done) | (simp [*]; done), by repeat (first | exact Drawn0.refl _ | apply Drawn0.step)⟩
    ·rw [if_neg c6] at H
     have c6b0 : decide (a1 < (rd l0 x5_1)) = false := decide_eq_false c6
     clear c6
     by_cases c7 : x5_1 > 0
     rotate_left
     ·rw [if_neg c7] at H
      have c7b0 : decide (0 < x5_1) = false := decide_eq_false c7
      clear c7
      have H' := Aside0.mk H
      clear H
      have p362 : 0 ≤ (x5_1 : Int) := od_
      have q362 : x5_1 < (l0.length : Int) := od_
      obtain ⟨ad362, e362, hx362_0⟩ := Kd.at_int HR0.out x5_1 p362 q362
      cases e362
      replace p362 := eq_true p362
      replace q362 := eq_true q362
      have p363 : 0 ≤ (x5_1 : Int) := od_
      have q363 : x5_1 < (l0.length : Int) := od_
      obtain ⟨ad363, e363, hx363_0⟩ := Kd.at_int HR0.out x5_1 p363 q363
      obtain rfl : ad362 = ad363 := (by injection e363)
      replace p363 := eq_true p363
      replace q363 := eq_true q363
      go_wp2
      repeat (go_quiet (fail); try go_wp2)
      go_roundg k1
      case measure => have := HK1.out; omega
      case rel => exact ⟨(wrap64 (x5_1 + 1)), (by first | rfl | (simp; done) | (simp [*]; done)), H', ⟨by have := HK1.out; omega⟩, by repeat (first | exact Drawn0.refl _ | apply Drawn0.step)⟩
     rw [if_pos c7] at H
     have c7b0 : decide (0 < x5_1) = true := decide_eq_true c7
     clear c7
     obtain ⟨ji8, hji8⟩ : ∃ j_ : Int, (wrap64 (x5_1 - 1)) = j_ := ⟨_, rfl⟩
     replace H : (if 0 ≤ (ji8) then (if (ji8) < (l0.length : Int) then (if (rd l0 (ji8)) ≥ (rd l0 x5_1) then (some false) else (dragnetref13_rises.l0 k1 l0 a1 (wrap64 (x5_1 + 1)))) else (none)) else (none)) = some r := by first | (rw [hji8] at H; exact H) | (simp only [hji8] at H ⊢; exact H)
     have hji8w : (IntKind.i64.wrap (x5_1 - 1)) = ji8 := (i64_w _).trans hji8
     by_cases c9 : 0 ≤ (ji8)
     rotate_left
     ·rw [if_neg c9] at H
      exact absurd H (by simp)
     rw [if_pos c9] at H
     have c9b0 : decide (0 ≤ (ji8)) = true := decide_eq_true c9
     clear c9
     by_cases c10 : (ji8) < (l0.length : Int)
     rotate_left
     ·rw [if_neg c10] at H
      exact absurd H (by simp)
     rw [if_pos c10] at H
     have c10b0 : decide ((ji8) < (l0.length : Int)) = true := decide_eq_true c10
     clear c10
     by_cases c11 : (rd l0 (ji8)) ≥ (rd l0 x5_1)
     ·rw [if_pos c11] at H
      have c11b0 : decide ((rd l0 x5_1) ≤ (rd l0 (ji8))) = true := decide_eq_true c11
      clear c11
      obtain rfl := Option.some.inj H
      have p362 : 0 ≤ (x5_1 : Int) := od_
      have q362 : x5_1 < (l0.length : Int) := od_
      obtain ⟨ad362, e362, hx362_0⟩ := Kd.at_int HR0.out x5_1 p362 q362
      cases e362
      replace p362 := eq_true p362
      replace q362 := eq_true q362
      have p363 : 0 ≤ (x5_1 : Int) := od_
      have q363 : x5_1 < (l0.length : Int) := od_
      obtain ⟨ad363, e363, hx363_0⟩ := Kd.at_int HR0.out x5_1 p363 q363
      obtain rfl : ad362 = ad363 := (by injection e363)
      replace p363 := eq_true p363
      replace q363 := eq_true q363
      have p364 : 0 ≤ ((ji8) : Int) := od_
      have q364 : (ji8) < (l0.length : Int) := od_
      obtain ⟨ad364, e364, hx364_0⟩ := Kd.at_int HR0.out (ji8) p364 q364
      obtain rfl : ad362 = ad364 := (by injection e364)
      replace p364 := eq_true p364
      replace q364 := eq_true q364
      have p365 : 0 ≤ (x5_1 : Int) := od_
      have q365 : x5_1 < (l0.length : Int) := od_
      obtain ⟨ad365, e365, hx365_0⟩ := Kd.at_int HR0.out x5_1 p365 q365
      obtain rfl : ad362 = ad365 := (by injection e365)
      replace p365 := eq_true p365
      replace q365 := eq_true q365
      go_wp2
      repeat (go_quiet (fail); try go_wp2)
      go_ret
      exact ⟨by first | rfl | (simp; done) | (simp only [← hji8] <;> (first | rfl | simp)) | (simp [*]; done), by repeat (first | exact Drawn0.refl _ | apply Drawn0.step)⟩
     ·rw [if_neg c11] at H
      have c11b0 : decide ((rd l0 x5_1) ≤ (rd l0 (ji8))) = false := decide_eq_false c11
      clear c11
      have H' := Aside0.mk H
      clear H
      have p362 : 0 ≤ (x5_1 : Int) := od_
      have q362 : x5_1 < (l0.length : Int) := od_
      obtain ⟨ad362, e362, hx362_0⟩ := Kd.at_int HR0.out x5_1 p362 q362
      cases e362
      replace p362 := eq_true p362
      replace q362 := eq_true q362
      have p363 : 0 ≤ (x5_1 : Int) := od_
      have q363 : x5_1 < (l0.length : Int) := od_
      obtain ⟨ad363, e363, hx363_0⟩ := Kd.at_int HR0.out x5_1 p363 q363
      obtain rfl : ad362 = ad363 := (by injection e363)
      replace p363 := eq_true p363
      replace q363 := eq_true q363
      have p364 : 0 ≤ ((ji8) : Int) := od_
      have q364 : (ji8) < (l0.length : Int) := od_
      obtain ⟨ad364, e364, hx364_0⟩ := Kd.at_int HR0.out (ji8) p364 q364
      obtain rfl : ad362 = ad364 := (by injection e364)
      replace p364 := eq_true p364
      replace q364 := eq_true q364
      have p365 : 0 ≤ (x5_1 : Int) := od_
      have q365 : x5_1 < (l0.length : Int) := od_
      obtain ⟨ad365, e365, hx365_0⟩ := Kd.at_int HR0.out x5_1 p365 q365
      obtain rfl : ad362 = ad365 := (by injection e365)
      replace p365 := eq_true p365
      replace q365 := eq_true q365
      go_wp2
      repeat (go_quiet (fail); try go_wp2)
      subst hji8
      go_roundg k1
      case measure => have := HK1.out; omega
      case rel => exact ⟨(wrap64 (x5_1 + 1)), (by first | rfl | (simp; done) | (simp [*]; done)), H', ⟨by have := HK1.out; omega⟩, by repeat (first | exact Drawn0.refl _ | apply Drawn0.step)⟩
def dragnetref13_Docs.l0 : Nat → List (S37) → List Int → Int → Option (List Int)
 | 0, _, _, _ => none
 | k + 1, x0, x3, x4 => if x4 < (x0.length : Int) then (if 0 ≤ x4 then (if x3.length < 17592186044416 then (dragnetref13_Docs.l0 k x0 (x3 ++ [(rd_T37 x0 x4).f0]) (wrap64 (x4 + 1))) else (none)) else (none)) else (some x3)
def dragnetref13_Docs.f (k : Nat) (l0 : List (S37)) : Option (List Int) := dragnetref13_Docs.l0 k l0 ([] : List Int) 0
theorem dragnetref13_Docs.mono_l : ∀ k, (∀ y0 y1 y2, LeO (dragnetref13_Docs.l0 k y0 y1 y2) (dragnetref13_Docs.l0 (k + 1) y0 y1 y2))
 | 0 => fun _ _ _ r h => by simp [dragnetref13_Docs.l0] at h
 | k + 1 => by
  have ih0 := dragnetref13_Docs.mono_l k
  ·intro y0 y1 y2
   unfold dragnetref13_Docs.l0
   repeat' first
   | (with_reducible exact ih0 _ _ _)
   | (with_reducible exact LeO.refl _)
   | (with_reducible exact LeO.none _)
   | (with_reducible refine LeO.ite ?_ ?_)
   | (with_reducible refine LeO.bind ?_ (fun _ => ?_))
theorem dragnetref13_Docs.mono : ∀ a0 k, LeO (dragnetref13_Docs.f k a0) (dragnetref13_Docs.f (k + 1) a0) := by
 intro a0 k
 have ih0 := dragnetref13_Docs.mono_l k
 unfold dragnetref13_Docs.f
 repeat' first
   | (with_reducible exact ih0 _ _ _)
   | (with_reducible exact LeO.refl _)
   | (with_reducible exact LeO.none _)
   | (with_reducible refine LeO.ite ?_ ?_)
   | (with_reducible refine LeO.bind ?_ (fun _ => ?_))
set_option maxHeartbeats 8000000 in
set_option maxRecDepth 100000 in
theorem dragnetref13_Docs.calls (k : Nat) (A0 : Option Addr) (c0 : Nat) (l0 : List (S37)) (r : List Int) (w : World) (hr0 : Kd.C k37 w A0 l0.length l0) (hc0 : l0.length ≤ c0) (h : dragnetref13_Docs.f k l0 = some r) :
  Calls Try.prog 30 #[.slice A0 l0.length c0] w fun e w' => ∃ v0_ : Value, e = .returned (v0_) ∧ Kd.R (Kd.int .i64) 3 w' w.heap.size (fun _ => True) v0_ r ∧ Below w.heap.size w w' := by
 have HR0 := Aside0.mk hr0
 have HC0 := Aside0.mk hc0
 clear hr0 hc0
 have HB := Aside0.mk (Below.refl w.heap.size w)
 have H : (dragnetref13_Docs.l0 k l0 ([] : List Int) 0) = some r := h
 clear h
 have H' := Aside0.mk H
 clear H
 go_enter Try.func30, Try.ntmps30
 go_wp2
 go_loopg [3, 4] k (fun kq v3 v4 w' => ∃ (x3_1 : List Int) (x4_1 : Int), v4 = .int .i64 x4_1 ∧ Aside0 (dragnetref13_Docs.l0 kq l0 x3_1 x4_1 = some r) ∧ Aside0 (kq ≤ k) ∧ Aside0 (Kd.R (Kd.int .i64) 3 w' w.heap.size (fun _ => True) v3 x3_1) ∧ Aside0 (Below w.heap.size w w'))
 case atStart => exact ⟨(([] : List Int)), (0), (by first | rfl | (simp; done) | (simp [*]; done)), H', ⟨Nat.le_refl _⟩, ⟨ni_⟩, ⟨bw_⟩⟩
 case round =>
  clear H'
  obtain ⟨x3_1, x4_1, rfl, HA, HK1, HO_3, HB⟩ := hrel
  cases gk with
  | zero => exact absurd HA.out (by simp [dragnetref13_Docs.l0])
  | succ k1 =>
   have H := HA.out
   clear HA
   simp only [dragnetref13_Docs.l0] at H
   by_cases c2 : x4_1 < (l0.length : Int)
   rotate_left
   ·rw [if_neg c2] at H
    have c2b0 : decide (x4_1 < (l0.length : Int)) = false := decide_eq_false c2
    clear c2
    obtain rfl := Option.some.inj H
    go_wp2
    go_ret
    exact ⟨_, rf_, by (with_reducible repeat (first | apply Kd.rA_ | apply Kd.rN_ | apply Kd.rD_)); exact HO_3.out, bw_⟩
   rw [if_pos c2] at H
   have c2b0 : decide (x4_1 < (l0.length : Int)) = true := decide_eq_true c2
   clear c2
   by_cases c3 : 0 ≤ x4_1
   rotate_left
   ·rw [if_neg c3] at H
    exact absurd H (by simp)
   rw [if_pos c3] at H
   have c3b0 : decide (0 ≤ x4_1) = true := decide_eq_true c3
   clear c3
   by_cases c4 : x3_1.length < 17592186044416
   rotate_left
   ·rw [if_neg c4] at H
    exact absurd H (by simp)
   rw [if_pos c4] at H
   have LMc4 := Aside0.mk c4
   clear c4
   obtain ⟨y367, hy367⟩ : ∃ y_ : List Int, y_ = (x3_1 ++ [(rd_T37 l0 x4_1).f0]) := ⟨_, rfl⟩
   replace H : (dragnetref13_Docs.l0 k1 l0 y367 (wrap64 (x4_1 + 1))) = some r := by first | (rw [hy367]; with_reducible exact H) | (have H2_ := (Option.bind_some _ _).symm.trans H; rw [hy367]; with_reducible exact H2_) | (have H2_ := (Option.bind_some _ _).symm.trans H; with_reducible exact H2_) | with_reducible exact H | (rw [hy367]; exact H) | exact H
   have Ny367 := Aside0.mk hy367
   clear hy367
   have H' := Aside0.mk H
   clear H
   have p366 : 0 ≤ (x4_1 : Int) := od_
   have q366 : x4_1 < (l0.length : Int) := od_
   obtain ⟨ad366, A366_1, c366_1, e366, hx366_0, hx366_1, hl366_1, hi366_1⟩ := at_T37 HR0.out x4_1 p366 q366
   cases e366
   replace hx366_0 := (HB.out.cell (World.block_lt_of_cell? w _ hx366_0)).trans hx366_0
   replace hx366_1 := (HB.out.cell (World.block_lt_of_cell? w _ hx366_1)).trans hx366_1
   have HR366_1 := Aside0.mk hi366_1
   have HC366_1 := Aside0.mk hl366_1
   clear hi366_1 hl366_1
   replace p366 := eq_true p366
   replace q366 := eq_true q366
   go_wp2_with (first | ((with_reducible refine gate_builtin (b := .append) (xs := #[.tmp 11, .tmp 17]) rfl ?_); at_builtin; refine Kd.R_append (Kd.int .i64) (w0 := w) w.heap.size rfl (.tmp 11) (.tmp 17) 35 3 (.int .i64 0) 8 rfl Try.underlying35 info3 rfl (by decide) (by omega) u3 x3_1 ((rd_T37 l0 x4_1).f0) [.int .i64 ((rd_T37 l0 x4_1).f0)] (fun _ => True) (fun _ => False) rfl rfl ?aP (fun _ hk => hk.elim) ?aF ?aO ?aB ?aS ?aL ?_; (case aP => exact rfl); (case aB => exact bw_); (case aF => exact (fun _ _ => trivial)); (case aO => exact (Kd.ru_ HO_3.out)); (case aS => exact (pbS_ bw_)); (case aL => have := LMc4.out; omega); intro v368 w5 ho hb hg hat; rw [← Ny367.out] at ho; have n0_ := Aside0.mk (hb); have n1_ := Aside0.mk (ho); clear HB; clear HO_3; have HB := n0_; have HO369 := n1_; clear n0_ n1_; clear ho hb hg hat))
   go_roundg k1
   case measure => have := HK1.out; omega
   case rel => exact ⟨(y367), (wrap64 (x4_1 + 1)), (by first | rfl | (simp; done) | (simp [*]; done)), H', ⟨by have := HK1.out; omega⟩, ⟨Kd.ru_ HO369.out⟩, ⟨bw_⟩⟩
def dragnetref13_Formed.l0 : Nat → List (S37) → Int → Option (Bool)
 | 0, _, _ => none
 | k + 1, x0, x3 => if x3 < (x0.length : Int) then (if 0 ≤ x3 then (if (((rd_T37 x0 x3).f1).length : Int) = 0 then (some false) else ((dragnetref13_rises.f k ((rd_T37 x0 x3).f1) 2147483647).bind fun t372 => (if t372 = true then (dragnetref13_Formed.l0 k x0 (wrap64 (x3 + 1))) else (some false)))) else (none)) else ((dragnetref13_Docs.f k x0).bind fun t373 => ((dragnetref13_rises.f k t373 4095).bind fun t376 => (some t376)))
def dragnetref13_Formed.f (k : Nat) (l0 : List (S37)) : Option (Bool) := dragnetref13_Formed.l0 k l0 0
theorem dragnetref13_Formed.mono_l : ∀ k, (∀ y0 y1, LeO (dragnetref13_Formed.l0 k y0 y1) (dragnetref13_Formed.l0 (k + 1) y0 y1))
 | 0 => fun _ _ r h => by simp [dragnetref13_Formed.l0] at h
 | k + 1 => by
  have ih0 := dragnetref13_Formed.mono_l k
  ·intro y0 y1
   unfold dragnetref13_Formed.l0
   repeat' first
   | (with_reducible exact ih0 _ _)
   | (with_reducible exact dragnetref13_Docs.mono _ _)
   | (with_reducible exact dragnetref13_rises.mono _ _ _)
   | (with_reducible exact LeO.refl _)
   | (with_reducible exact LeO.none _)
   | (with_reducible refine LeO.ite ?_ ?_)
   | (with_reducible refine LeO.bind ?_ (fun _ => ?_))
theorem dragnetref13_Formed.mono : ∀ a0 k, LeO (dragnetref13_Formed.f k a0) (dragnetref13_Formed.f (k + 1) a0) := by
 intro a0 k
 have ih0 := dragnetref13_Formed.mono_l k
 unfold dragnetref13_Formed.f
 repeat' first
   | (with_reducible exact ih0 _ _)
   | (with_reducible exact dragnetref13_Docs.mono _ _)
   | (with_reducible exact dragnetref13_rises.mono _ _ _)
   | (with_reducible exact LeO.refl _)
   | (with_reducible exact LeO.none _)
   | (with_reducible refine LeO.ite ?_ ?_)
   | (with_reducible refine LeO.bind ?_ (fun _ => ?_))
set_option maxHeartbeats 8000000 in
set_option maxRecDepth 100000 in
theorem dragnetref13_Formed.calls (k : Nat) (A0 : Option Addr) (c0 : Nat) (l0 : List (S37)) (r : Bool) (w : World) (hr0 : Kd.C k37 w A0 l0.length l0) (hc0 : l0.length ≤ c0) (h : dragnetref13_Formed.f k l0 = some r) :
  Calls Try.prog 17 #[.slice A0 l0.length c0] w fun e w' => e = .returned (.bool r) ∧ Below w.heap.size w w' := by
 have HR0 := Aside0.mk hr0
 have HC0 := Aside0.mk hc0
 clear hr0 hc0
 have HB := Aside0.mk (Below.refl w.heap.size w)
 have H : (dragnetref13_Formed.l0 k l0 0) = some r := h
 clear h
 have H' := Aside0.mk H
 clear H
 go_enter Try.func17, Try.ntmps17
 go_wp2
 go_loopg [3] k (fun kq v3 w' => ∃ (x3_1 : Int), v3 = .int .i64 x3_1 ∧ Aside0 (dragnetref13_Formed.l0 kq l0 x3_1 = some r) ∧ Aside0 (kq ≤ k) ∧ Aside0 (Below w.heap.size w w'))
 case atStart => exact ⟨(0), (by first | rfl | (simp; done) | (simp [*]; done)), H', ⟨Nat.le_refl _⟩, ⟨bw_⟩⟩
 case round =>
  clear H'
  obtain ⟨x3_1, rfl, HA, HK1, HB⟩ := hrel
  cases gk with
  | zero => exact absurd HA.out (by simp [dragnetref13_Formed.l0])
  | succ k1 =>
   have H := HA.out
   clear HA
   simp only [dragnetref13_Formed.l0] at H
   by_cases c2 : x3_1 < (l0.length : Int)
   rotate_left
   ·rw [if_neg c2] at H
    have c2b0 : decide (x3_1 < (l0.length : Int)) = false := decide_eq_false c2
    clear c2
    replace H := Option.bind_eq_some_iff.mp H
    obtain ⟨t373, A70, H⟩ := H
    replace H : ((dragnetref13_rises.f k1 t373 4095).bind fun t376 => (some t376)) = some r := H
    have A7 := Aside0.mk A70
    clear A70
    replace H := Option.bind_eq_some_iff.mp H
    obtain ⟨t376, A80, H⟩ := H
    replace H : (some t376) = some r := H
    have A8 := Aside0.mk A80
    clear A80
    obtain rfl := Option.some.inj H
    go_wp2_with (first | ((with_reducible refine gaC_ (f := 30) rfl ?_); refine goesL_ (some 27) rfl rfl Try.func30 (by kernel_rfl) rfl #[.slice A0 l0.length c0] rfl (by (try simp only [List.map_toArray, List.map_cons, List.map_nil]); first | done | rfl | (simp only [List.length_drop, List.length_take]; rfl)) ?_; (with_reducible refine (dragnetref13_Docs.calls k1 _ _ l0 t373 _ ?side1 ?side2 A7.out).mono ?_); (case side1 => exact Kd.cu_ (Kd.C_below HR0.out HB.out)); (case side2 => exact HC0.out); rintro e w9 ⟨v374, rfl, ho0, hb⟩; refine ⟨_, rfl, ?_⟩; have HO375 := Aside0.mk (Kd.R_lower ho0 (pbS_ bw_)); replace HB := Aside0.mk (below_step bw_ hb); (try clear hb); (try clear hb2); (try clear hk); (try clear hi); (try clear ho0); obtain ⟨Ao10, co10, eo10⟩ := Kd.R_slice HO375.out; subst eo10) | ((with_reducible refine gaC_ (f := 29) rfl ?_); refine goesL_ (some 28) rfl rfl Try.func29 (by kernel_rfl) rfl #[.slice Ao10 t373.length co10, .int .i64 4095] rfl (by (try simp only [List.map_toArray, List.map_cons, List.map_nil]); first | done | rfl | (simp only [List.length_drop, List.length_take]; rfl)) ?_; (with_reducible refine (dragnetref13_rises.calls k1 _ _ t373 4095 t376 _ ?side1 ?side2 A8.out).mono ?_); (case side1 => exact Kd.cu_ (Kd.R_reads' HO375.out).2.2); (case side2 => exact (Kd.R_reads' HO375.out).2.1); rintro e w' ⟨rfl, ⟨nd, rfl⟩⟩; refine ⟨_, rfl, ?_⟩))
    go_ret
    exact ⟨rf_, bw_⟩
   rw [if_pos c2] at H
   have c2b0 : decide (x3_1 < (l0.length : Int)) = true := decide_eq_true c2
   clear c2
   by_cases c3 : 0 ≤ x3_1
   rotate_left
   ·rw [if_neg c3] at H
    exact absurd H (by simp)
   rw [if_pos c3] at H
   have c3b0 : decide (0 ≤ x3_1) = true := decide_eq_true c3
   clear c3
   by_cases c4 : (((rd_T37 l0 x3_1).f1).length : Int) = 0
   ·rw [if_pos c4] at H
    have c4b0 : ((((rd_T37 l0 x3_1).f1).length : Int) == 0) = true := beq_iff_eq.mpr c4
    have c4b1 : ((((rd_T37 l0 x3_1).f1).length : Int) != 0) = false := bne_eq_false_iff_eq.mpr c4
    clear c4
    obtain rfl := Option.some.inj H
    have p370 : 0 ≤ (x3_1 : Int) := od_
    have q370 : x3_1 < (l0.length : Int) := od_
    obtain ⟨ad370, A370_1, c370_1, e370, hx370_0, hx370_1, hl370_1, hi370_1⟩ := at_T37 HR0.out x3_1 p370 q370
    cases e370
    replace hx370_0 := (HB.out.cell (World.block_lt_of_cell? w _ hx370_0)).trans hx370_0
    replace hx370_1 := (HB.out.cell (World.block_lt_of_cell? w _ hx370_1)).trans hx370_1
    have HR370_1 := Aside0.mk hi370_1
    have HC370_1 := Aside0.mk hl370_1
    clear hi370_1 hl370_1
    replace p370 := eq_true p370
    replace q370 := eq_true q370
    go_wp2
    go_ret
    exact ⟨rf_, bw_⟩
   ·rw [if_neg c4] at H
    have c4b0 : ((((rd_T37 l0 x3_1).f1).length : Int) == 0) = false := beq_eq_false_iff_ne.mpr c4
    have c4b1 : ((((rd_T37 l0 x3_1).f1).length : Int) != 0) = true := bne_iff_ne.mpr c4
    have c4b2 : ¬ (((rd_T37 l0 x3_1).f1) = []) := fun h_ => c4 (by rw [h_]; rfl)
    replace H := Option.bind_eq_some_iff.mp H
    obtain ⟨t372, A50, H⟩ := H
    replace H : (if t372 = true then (dragnetref13_Formed.l0 k1 l0 (wrap64 (x3_1 + 1))) else (some false)) = some r := H
    have A5 := Aside0.mk A50
    clear A50
    by_cases c6 : t372 = true
    rotate_left
    ·replace c6 := Bool.eq_false_iff.mpr c6
     subst c6
     have H1 : (some false) = some r := by rw [if_neg (show ¬ (false = true) by decide)] at H; exact H
     clear H
     have H := H1
     clear H1
     obtain rfl := Option.some.inj H
     have p370 : 0 ≤ (x3_1 : Int) := od_
     have q370 : x3_1 < (l0.length : Int) := od_
     obtain ⟨ad370, A370_1, c370_1, e370, hx370_0, hx370_1, hl370_1, hi370_1⟩ := at_T37 HR0.out x3_1 p370 q370
     cases e370
     replace hx370_0 := (HB.out.cell (World.block_lt_of_cell? w _ hx370_0)).trans hx370_0
     replace hx370_1 := (HB.out.cell (World.block_lt_of_cell? w _ hx370_1)).trans hx370_1
     have HR370_1 := Aside0.mk hi370_1
     have HC370_1 := Aside0.mk hl370_1
     clear hi370_1 hl370_1
     replace p370 := eq_true p370
     replace q370 := eq_true q370
     have p371 : 0 ≤ (x3_1 : Int) := od_
     have q371 : x3_1 < (l0.length : Int) := od_
     obtain ⟨ad371, A371_1, c371_1, e371, hx371_0, hx371_1, hl371_1, hi371_1⟩ := at_T37 HR0.out x3_1 p371 q371
     obtain rfl : ad370 = ad371 := (by injection e371)
     replace hx371_0 := (HB.out.cell (World.block_lt_of_cell? w _ hx371_0)).trans hx371_0
     replace hx371_1 := (HB.out.cell (World.block_lt_of_cell? w _ hx371_1)).trans hx371_1
     have HR371_1 := Aside0.mk hi371_1
     have HC371_1 := Aside0.mk hl371_1
     clear hi371_1 hl371_1
     replace p371 := eq_true p371
     replace q371 := eq_true q371
     have ea_ := Option.some.inj (hx370_1.symm.trans hx371_1)
     injection ea_ with ea_ en_ ec_
     subst ea_
     subst ec_
     clear en_
     go_wp2_with (first | (go_at_call 29; (with_reducible refine (dragnetref13_rises.calls k1 _ _ ((rd_T37 l0 x3_1).f1) 2147483647 false _ ?side1 ?side2 A5.out).mono ?_); (case side1 => exact Kd.cu_ (Kd.C_below HR371_1.out HB.out)); (case side2 => exact HC371_1.out); rintro e w' ⟨rfl, ⟨nd, rfl⟩⟩))
     go_ret
     exact ⟨rf_, bw_⟩
    subst c6
    have H1 : (dragnetref13_Formed.l0 k1 l0 (wrap64 (x3_1 + 1))) = some r := by rw [if_pos rfl] at H; exact H
    clear H
    have H := H1
    clear H1
    have H' := Aside0.mk H
    clear H
    have p370 : 0 ≤ (x3_1 : Int) := od_
    have q370 : x3_1 < (l0.length : Int) := od_
    obtain ⟨ad370, A370_1, c370_1, e370, hx370_0, hx370_1, hl370_1, hi370_1⟩ := at_T37 HR0.out x3_1 p370 q370
    cases e370
    replace hx370_0 := (HB.out.cell (World.block_lt_of_cell? w _ hx370_0)).trans hx370_0
    replace hx370_1 := (HB.out.cell (World.block_lt_of_cell? w _ hx370_1)).trans hx370_1
    have HR370_1 := Aside0.mk hi370_1
    have HC370_1 := Aside0.mk hl370_1
    clear hi370_1 hl370_1
    replace p370 := eq_true p370
    replace q370 := eq_true q370
    have p371 : 0 ≤ (x3_1 : Int) := od_
    have q371 : x3_1 < (l0.length : Int) := od_
    obtain ⟨ad371, A371_1, c371_1, e371, hx371_0, hx371_1, hl371_1, hi371_1⟩ := at_T37 HR0.out x3_1 p371 q371
    obtain rfl : ad370 = ad371 := (by injection e371)
    replace hx371_0 := (HB.out.cell (World.block_lt_of_cell? w _ hx371_0)).trans hx371_0
    replace hx371_1 := (HB.out.cell (World.block_lt_of_cell? w _ hx371_1)).trans hx371_1
    have HR371_1 := Aside0.mk hi371_1
    have HC371_1 := Aside0.mk hl371_1
    clear hi371_1 hl371_1
    replace p371 := eq_true p371
    replace q371 := eq_true q371
    have ea_ := Option.some.inj (hx370_1.symm.trans hx371_1)
    injection ea_ with ea_ en_ ec_
    subst ea_
    subst ec_
    clear en_
    go_wp2_with (first | (go_at_call 29; (with_reducible refine (dragnetref13_rises.calls k1 _ _ ((rd_T37 l0 x3_1).f1) 2147483647 true _ ?side1 ?side2 A5.out).mono ?_); (case side1 => exact Kd.cu_ (Kd.C_below HR371_1.out HB.out)); (case side2 => exact HC371_1.out); rintro e w' ⟨rfl, ⟨nd, rfl⟩⟩))
    go_roundg k1
    case measure => have := HK1.out; omega
    case rel => exact ⟨(wrap64 (x3_1 + 1)), (by first | rfl | (simp; done) | (simp [*]; done)), H', ⟨by have := HK1.out; omega⟩, ⟨bw_⟩⟩
mutual
noncomputable def dragnetlaw13_PostSkips.j0 : Nat → List (S37) → Int → List Int → Bool → Option (Bool)
 | 0, _, _, _, _ => none
 | k + 1, x0, x1, x2, x21 => if x21 = true then (some true) else ((post_Put.f k ([] : List Int) x0).bind fun bt712 => (if bt712.2 = 0 then ((dragnetref01_Copy.f bt712.1).bind fun t716 => (if t716.length + x2.length < 140737488355328 then ((post_Seek.f k (t716 ++ x2) x1).bind fun bt722 => (dragnetlaw13_PostSkips.l0 k x0 x1 bt722.2.2.1 bt722.2.2.2 0 bt722.1 bt722.2.1)) else (none))) else (some false)))
noncomputable def dragnetlaw13_PostSkips.l0 : Nat → List (S37) → Int → Int → Int → Int → Int → List Int → Option (Bool)
 | 0, _, _, _, _, _, _, _ => none
 | k + 1, x0, x1, x10, x11, x12, x729000, x729001 => if x12 < (x0.length : Int) then (if 0 ≤ x12 then (if ((rd_T37 x0 x12).f0) ≥ x1 then (if x11 = 0 then (if x10 = 1 then ((dragnetref13_SamePost.f k x729000 x729001 ((rd_T37 x0 x12).f0) ((rd_T37 x0 x12).f1)).bind fun t731 => (some t731)) else (some false)) else (some false)) else (dragnetlaw13_PostSkips.l0 k x0 x1 x10 x11 (wrap64 (x12 + 1)) x729000 x729001)) else (none)) else (if x11 = 8 then (if x10 = 0 then (some ((x729001.length : Int) == 0)) else (some false)) else (some false))
end
noncomputable def dragnetlaw13_PostSkips.f (k : Nat) (l0 : List (S37)) (a1 : Int) (l2 : List Int) : Option (Bool) := (dragnetlaw13_alive.f k).bind fun t709 => (if t709 = true then ((dragnetlaw13_great.f k l0).bind fun t710 => (if t710 = true then (dragnetlaw13_PostSkips.j0 k l0 a1 l2 true) else ((dragnetref13_Formed.f k l0).bind fun t711 => (dragnetlaw13_PostSkips.j0 k l0 a1 l2 (!t711))))) else (some false))
theorem dragnetlaw13_PostSkips.mono_l : ∀ k, (∀ y0 y1 y2 y3, LeO (dragnetlaw13_PostSkips.j0 k y0 y1 y2 y3) (dragnetlaw13_PostSkips.j0 (k + 1) y0 y1 y2 y3)) ∧ (∀ y0 y1 y2 y3 y4 y5 y6, LeO (dragnetlaw13_PostSkips.l0 k y0 y1 y2 y3 y4 y5 y6) (dragnetlaw13_PostSkips.l0 (k + 1) y0 y1 y2 y3 y4 y5 y6))
 | 0 => ⟨fun _ _ _ _ r h => by simp [dragnetlaw13_PostSkips.j0] at h, fun _ _ _ _ _ _ _ r h => by simp [dragnetlaw13_PostSkips.l0] at h⟩
 | k + 1 => by
  obtain ⟨ih0, ih1⟩ := dragnetlaw13_PostSkips.mono_l k
  refine ⟨?_, ?_⟩
  ·intro y0 y1 y2 y3
   unfold dragnetlaw13_PostSkips.j0
   repeat' first
   | (with_reducible exact ih0 _ _ _ _)
   | (with_reducible exact ih1 _ _ _ _ _ _ _)
   | (with_reducible exact dragnetlaw13_alive.mono _)
   | (with_reducible exact dragnetlaw13_great.mono _ _)
   | (with_reducible exact dragnetref13_Formed.mono _ _)
   | (with_reducible exact dragnetref13_SamePost.mono _ _ _ _ _)
   | (with_reducible exact post_Put.mono _ _ _)
   | (with_reducible exact post_Seek.mono _ _ _)
   | (with_reducible exact LeO.refl _)
   | (with_reducible exact LeO.none _)
   | (with_reducible refine LeO.ite ?_ ?_)
   | (with_reducible refine LeO.bind ?_ (fun _ => ?_))
  ·intro y0 y1 y2 y3 y4 y5 y6
   unfold dragnetlaw13_PostSkips.l0
   repeat' first
   | (with_reducible exact ih0 _ _ _ _)
   | (with_reducible exact ih1 _ _ _ _ _ _ _)
   | (with_reducible exact dragnetlaw13_alive.mono _)
   | (with_reducible exact dragnetlaw13_great.mono _ _)
   | (with_reducible exact dragnetref13_Formed.mono _ _)
   | (with_reducible exact dragnetref13_SamePost.mono _ _ _ _ _)
   | (with_reducible exact post_Put.mono _ _ _)
   | (with_reducible exact post_Seek.mono _ _ _)
   | (with_reducible exact LeO.refl _)
   | (with_reducible exact LeO.none _)
   | (with_reducible refine LeO.ite ?_ ?_)
   | (with_reducible refine LeO.bind ?_ (fun _ => ?_))
theorem dragnetlaw13_PostSkips.mono : ∀ a0 a1 a2 k, LeO (dragnetlaw13_PostSkips.f k a0 a1 a2) (dragnetlaw13_PostSkips.f (k + 1) a0 a1 a2) := by
 intro a0 a1 a2 k
 obtain ⟨ih0, ih1⟩ := dragnetlaw13_PostSkips.mono_l k
 unfold dragnetlaw13_PostSkips.f
 repeat' first
   | (with_reducible exact ih0 _ _ _ _)
   | (with_reducible exact ih1 _ _ _ _ _ _ _)
   | (with_reducible exact dragnetlaw13_alive.mono _)
   | (with_reducible exact dragnetlaw13_great.mono _ _)
   | (with_reducible exact dragnetref13_Formed.mono _ _)
   | (with_reducible exact dragnetref13_SamePost.mono _ _ _ _ _)
   | (with_reducible exact post_Put.mono _ _ _)
   | (with_reducible exact post_Seek.mono _ _ _)
   | (with_reducible exact LeO.refl _)
   | (with_reducible exact LeO.none _)
   | (with_reducible refine LeO.ite ?_ ?_)
   | (with_reducible refine LeO.bind ?_ (fun _ => ?_))
def dragnetlaw13_PostSkips.T13 : Bool × List (List Nat × List Nat) := (true, [([], []), ([0], [0]), ([1], [1]), ([2], [2]), ([3, 2], [2, 3]), ([2, 4], [2, 4]), ([5, 2], [5]), ([6], [6]), ([6], [6]), ([6], [6]), ([8, 9, 6], [6, 8, 9]), ([10, 6], [6, 10]), ([7, 11, 6, 6], [6, 7, 11]), ([6, 12], [6, 12]), ([13, 12, 0, 1, 2, 3, 4, 5, 6, 7, 8, 9, 10, 11, 12, 13], [13])])
def dragnetlaw13_PostSkips.B13 : List Nat := [0, 1, 3, 7, 15, 31, 63, 127, 127, 127, 895, 1919, 4095, 8191, 16383]
theorem dragnetlaw13_PostSkips.tab13 : rtab .any (opsOf Try.f5 13) = dragnetlaw13_PostSkips.T13 := by kernel_rfl
theorem dragnetlaw13_PostSkips.bits13 : waitsOk dragnetlaw13_PostSkips.T13.2 dragnetlaw13_PostSkips.B13 = true := by kernel_rfl
set_option maxHeartbeats 8000000 in
set_option maxRecDepth 100000 in
theorem dragnetlaw13_PostSkips.calls (k : Nat) (A0 : Option Addr) (c0 : Nat) (l0 : List (S37)) (a1 : Int) (A2 : Option Addr) (c2 : Nat) (l2 : List Int) (r : Bool) (w : World) (hr0 : Kd.C k37 w A0 l0.length l0) (hc0 : l0.length ≤ c0) (hr2 : Kd.C (Kd.int .u8) w A2 l2.length l2) (hc2 : l2.length ≤ c2) (h : dragnetlaw13_PostSkips.f k l0 a1 l2 = some r) (hr_ : Aside0 (r = true)) :
  Calls Try.prog 5 #[.slice A0 l0.length c0, .int .i64 a1, .slice A2 l2.length c2] w fun e w' => e = .returned (.bool r) ∧ Below w.heap.size w w' := by
 have hu37 := Try.underlying37
 have HR0 := Aside0.mk hr0
 have HC0 := Aside0.mk hc0
 clear hr0 hc0
 have HR2 := Aside0.mk hr2
 have HC2 := Aside0.mk hc2
 clear hr2 hc2
 have HB := Aside0.mk (Below.refl w.heap.size w)
 have H : ((dragnetlaw13_alive.f k).bind fun t709 => (if t709 = true then ((dragnetlaw13_great.f k l0).bind fun t710 => (if t710 = true then (dragnetlaw13_PostSkips.j0 k l0 a1 l2 true) else ((dragnetref13_Formed.f k l0).bind fun t711 => (dragnetlaw13_PostSkips.j0 k l0 a1 l2 (!t711))))) else (some false))) = some r := h
 clear h
 replace H := Option.bind_eq_some_iff.mp H
 obtain ⟨t709, A40, H⟩ := H
 replace H : (if t709 = true then ((dragnetlaw13_great.f k l0).bind fun t710 => (if t710 = true then (dragnetlaw13_PostSkips.j0 k l0 a1 l2 true) else ((dragnetref13_Formed.f k l0).bind fun t711 => (dragnetlaw13_PostSkips.j0 k l0 a1 l2 (!t711))))) else (some false)) = some r := H
 have A4 := Aside0.mk A40
 clear A40
 by_cases c5 : t709 = true
 rotate_left
 ·replace c5 := Bool.eq_false_iff.mpr c5
  subst c5
  have H1 : (some false) = some r := by rw [if_neg (show ¬ (false = true) by decide)] at H; exact H
  clear H
  have H := H1
  clear H1
  obtain rfl := Option.some.inj H
  cases hr_.out
 subst c5
 have H1 : ((dragnetlaw13_great.f k l0).bind fun t710 => (if t710 = true then (dragnetlaw13_PostSkips.j0 k l0 a1 l2 true) else ((dragnetref13_Formed.f k l0).bind fun t711 => (dragnetlaw13_PostSkips.j0 k l0 a1 l2 (!t711))))) = some r := by rw [if_pos rfl] at H; exact H
 clear H
 have H := H1
 clear H1
 have HC6 := Aside0.mk H
 clear H
 go_enter Try.func5, Try.ntmps5
 go_upto_region 3 with (first | ((with_reducible refine gaC_ (f := 9) rfl ?_); refine goesL_ (some 13) rfl rfl Try.func9 (by kernel_rfl) rfl #[] rfl (by (try simp only [List.map_toArray, List.map_cons, List.map_nil]); first | done | rfl | (simp only [List.length_drop, List.length_take]; rfl)) ?_; (with_reducible refine (dragnetlaw13_alive.calls k  true _ A4.out ⟨rfl⟩).mono ?_); rintro e w7 ⟨rfl, hb⟩; refine ⟨_, rfl, ?_⟩; replace HB := Aside0.mk (below_step bw_ hb); (try clear hb); (try clear hb2); (try clear hk); (try clear hi)))
 go_cut [21] (fun v21 wc => ∃ (kq : Nat) (x21_5 : Bool), v21 = .bool x21_5 ∧ Aside0 (dragnetlaw13_PostSkips.j0 kq l0 a1 l2 x21_5 = some r) ∧ Aside0 (kq ≤ k) ∧ Aside0 (Below w.heap.size w wc))
 case first =>
  have H := HC6.out
  clear HC6
  replace H := Option.bind_eq_some_iff.mp H
  obtain ⟨t710, A80, H⟩ := H
  replace H : (if t710 = true then (dragnetlaw13_PostSkips.j0 k l0 a1 l2 true) else ((dragnetref13_Formed.f k l0).bind fun t711 => (dragnetlaw13_PostSkips.j0 k l0 a1 l2 (!t711)))) = some r := H
  have A8 := Aside0.mk A80
  clear A80
  by_cases c9 : t710 = true
  ·subst c9
   have H1 : (dragnetlaw13_PostSkips.j0 k l0 a1 l2 true) = some r := by rw [if_pos rfl] at H; exact H
   clear H
   have H := H1
   clear H1
   have H' := Aside0.mk H
   clear H
   go_wp2_with (first | ((with_reducible refine gaC_ (f := 10) rfl ?_); refine goesL_ (some 16) rfl rfl Try.func10 (by kernel_rfl) rfl #[.slice A0 l0.length c0] rfl (by (try simp only [List.map_toArray, List.map_cons, List.map_nil]); first | done | rfl | (simp only [List.length_drop, List.length_take]; rfl)) ?_; (with_reducible refine (dragnetlaw13_great.calls k _ _ l0 true _ ?side1 ?side2 A8.out).mono ?_); (case side1 => exact Kd.cu_ (Kd.C_below HR0.out HB.out)); (case side2 => exact HC0.out); rintro e w' ⟨rfl, ⟨nd, rfl⟩⟩; refine ⟨_, rfl, ?_⟩))
   go_meet
   case rel => exact ⟨_, (true), (by first | rfl | (simp; done) | (simp [*]; done)), H', ⟨by first | omega | exact Nat.le_refl _⟩, ⟨bw_⟩⟩
  ·replace c9 := Bool.eq_false_iff.mpr c9
   subst c9
   have H1 : ((dragnetref13_Formed.f k l0).bind fun t711 => (dragnetlaw13_PostSkips.j0 k l0 a1 l2 (!t711))) = some r := by rw [if_neg (show ¬ (false = true) by decide)] at H; exact H
   clear H
   have H := H1
   clear H1
   replace H := Option.bind_eq_some_iff.mp H
   obtain ⟨t711, A100, H⟩ := H
   replace H : (dragnetlaw13_PostSkips.j0 k l0 a1 l2 (!t711)) = some r := H
   have A10 := Aside0.mk A100
   clear A100
   have H' := Aside0.mk H
   clear H
   go_wp2_with (first | ((with_reducible refine gaC_ (f := 10) rfl ?_); refine goesL_ (some 16) rfl rfl Try.func10 (by kernel_rfl) rfl #[.slice A0 l0.length c0] rfl (by (try simp only [List.map_toArray, List.map_cons, List.map_nil]); first | done | rfl | (simp only [List.length_drop, List.length_take]; rfl)) ?_; (with_reducible refine (dragnetlaw13_great.calls k _ _ l0 false _ ?side1 ?side2 A8.out).mono ?_); (case side1 => exact Kd.cu_ (Kd.C_below HR0.out HB.out)); (case side2 => exact HC0.out); rintro e w' ⟨rfl, ⟨nd, rfl⟩⟩; refine ⟨_, rfl, ?_⟩) | (go_at_call 17; (with_reducible refine (dragnetref13_Formed.calls k _ _ l0 t711 _ ?side1 ?side2 A10.out).mono ?_); (case side1 => exact Kd.cu_ (Kd.C_below HR0.out bw_)); (case side2 => exact HC0.out); rintro e w11 ⟨rfl, hb⟩; replace HB := Aside0.mk (below_step bw_ hb); (try clear hb); (try clear hb2); (try clear hk); (try clear hi)))
   go_meet
   case rel => exact ⟨_, (!t711), (by first | rfl | (simp; done) | (simp [*]; done)), H', ⟨by first | omega | exact Nat.le_refl _⟩, ⟨bw_⟩⟩
 case rest =>
  clear HC6
  obtain ⟨kq, x21_5, rfl, HA, HJ5, HB⟩ := hcut
  cases kq with
  | zero => exact absurd HA.out (by simp [dragnetlaw13_PostSkips.j0])
  | succ kj5 =>
   have H := HA.out
   clear HA
   simp only [dragnetlaw13_PostSkips.j0] at H
   by_cases c12 : x21_5 = true
   ·subst c12
    have H1 : (some true) = some r := by rw [if_pos rfl] at H; exact H
    clear H
    have H := H1
    clear H1
    obtain rfl := Option.some.inj H
    go_wp2
    go_ret
    exact ⟨rf_, bw_⟩
   ·replace c12 := Bool.eq_false_iff.mpr c12
    subst c12
    have H1 : ((post_Put.f kj5 ([] : List Int) l0).bind fun bt712 => (if bt712.2 = 0 then ((dragnetref01_Copy.f bt712.1).bind fun t716 => (if t716.length + l2.length < 140737488355328 then ((post_Seek.f kj5 (t716 ++ l2) a1).bind fun bt722 => (dragnetlaw13_PostSkips.l0 kj5 l0 a1 bt722.2.2.1 bt722.2.2.2 0 bt722.1 bt722.2.1)) else (none))) else (some false))) = some r := by rw [if_neg (show ¬ (false = true) by decide)] at H; exact H
    clear H
    have H := H1
    clear H1
    replace H := Option.bind_eq_some_iff.mp H
    obtain ⟨⟨t712, t713⟩, A130, H⟩ := H
    replace H : (if t713 = 0 then ((dragnetref01_Copy.f t712).bind fun t716 => (if t716.length + l2.length < 140737488355328 then ((post_Seek.f kj5 (t716 ++ l2) a1).bind fun bt722 => (dragnetlaw13_PostSkips.l0 kj5 l0 a1 bt722.2.2.1 bt722.2.2.2 0 bt722.1 bt722.2.1)) else (none))) else (some false)) = some r := H
    have A13 := Aside0.mk A130
    clear A130
    by_cases c14 : t713 = 0
    rotate_left
    ·rw [if_neg c14] at H
     have c14b0 : (t713 == 0) = false := beq_eq_false_iff_ne.mpr c14
     have c14b1 : (t713 != 0) = true := bne_iff_ne.mpr c14
     obtain rfl := Option.some.inj H
     cases hr_.out
    rw [if_pos c14] at H
    have c14b0 : (t713 == 0) = true := beq_iff_eq.mpr c14
    have c14b1 : (t713 != 0) = false := bne_eq_false_iff_eq.mpr c14
    clear c14
    replace H := Option.bind_eq_some_iff.mp H
    obtain ⟨t716, A150, H⟩ := H
    replace H : (if t716.length + l2.length < 140737488355328 then ((post_Seek.f kj5 (t716 ++ l2) a1).bind fun bt722 => (dragnetlaw13_PostSkips.l0 kj5 l0 a1 bt722.2.2.1 bt722.2.2.2 0 bt722.1 bt722.2.1)) else (none)) = some r := H
    have A15 := Aside0.mk A150
    clear A150
    by_cases c16 : t716.length + l2.length < 140737488355328
    rotate_left
    ·rw [if_neg c16] at H
     exact absurd H (by simp)
    rw [if_pos c16] at H
    have LMc16 := Aside0.mk c16
    clear c16
    obtain ⟨y719, hy719⟩ : ∃ y_ : List Int, y_ = (t716 ++ l2) := ⟨_, rfl⟩
    replace H : ((post_Seek.f kj5 y719 a1).bind fun bt722 => (dragnetlaw13_PostSkips.l0 kj5 l0 a1 bt722.2.2.1 bt722.2.2.2 0 bt722.1 bt722.2.1)) = some r := by first | (rw [hy719]; with_reducible exact H) | (have H2_ := (Option.bind_some _ _).symm.trans H; rw [hy719]; with_reducible exact H2_) | (have H2_ := (Option.bind_some _ _).symm.trans H; with_reducible exact H2_) | with_reducible exact H | (rw [hy719]; exact H) | exact H
    have Ny719 := Aside0.mk hy719
    clear hy719
    replace H := Option.bind_eq_some_iff.mp H
    obtain ⟨⟨t722, t723, t726, t727⟩, A170, H⟩ := H
    replace H : (dragnetlaw13_PostSkips.l0 kj5 l0 a1 t726 t727 0 t722 t723) = some r := H
    have A17 := Aside0.mk A170
    clear A170
    have H' := Aside0.mk H
    clear H
    go_wp2_with (first | ((with_reducible refine gaC_ (f := 13) rfl ?_); refine goesL_ (some 24) rfl rfl Try.func13 (by kernel_rfl) rfl #[.slice none 0 0, .slice A0 l0.length c0] rfl (by (try simp only [List.map_toArray, List.map_cons, List.map_nil]); first | done | rfl | (simp only [List.length_drop, List.length_take]; rfl)) ?_; (refine (post_Put.calls kj5 _ _ ([] : List Int) _ _ l0 t712 t713 _ ?side1 ?side2 ?side3 ?side4 A13.out).mono ?_); (case side1 => exact Kd.C_nil _ _); (case side2 => exact Nat.le_refl _); (case side3 => exact Kd.cu_ (Kd.C_below HR0.out HB.out)); (case side4 => exact HC0.out); rintro e w18 ⟨v714, rfl, ho0, hb⟩; refine ⟨_, rfl, ?_⟩; have HO715 := Aside0.mk (Kd.R_lower ho0 (pbS_ bw_)); replace HB := Aside0.mk (below_step bw_ hb); (try clear hb); (try clear hb2); (try clear hk); (try clear hi); (try clear ho0); obtain ⟨Ao19, co19, eo19⟩ := Kd.R_slice HO715.out; subst eo19) | ((with_reducible refine gaC_ (f := 11) rfl ?_); refine goesL_ (some 31) rfl rfl Try.func11 (by kernel_rfl) rfl #[.slice Ao19 t712.length co19] rfl (by (try simp only [List.map_toArray, List.map_cons, List.map_nil]); first | done | rfl | (simp only [List.length_drop, List.length_take]; rfl)) ?_; (with_reducible refine (dragnetref01_Copy.calls _ _ t712 t716 _ ?side1 ?side2 A15.out).mono ?_); (case side1 => exact Kd.cu_ (Kd.R_reads' HO715.out).2.2); (case side2 => exact (Kd.R_reads' HO715.out).2.1); rintro e w20 ⟨v717, rfl, ho0, hb⟩; refine ⟨_, rfl, ?_⟩; have n0_ := Aside0.mk (Kd.R_elder' (Kd.ru_ HO715.out) (Kd.R_base ho0) hb); have n1_ := Aside0.mk (Kd.R_lower (Kd.R_new' ho0 (Kd.R_lt (Kd.ru_ HO715.out))) (pbS_ bw_)); have n2_ := Aside0.mk (below_step bw_ hb); clear HO715; clear HB; have HO715 := n0_; have HO718 := n1_; have HB := n2_; clear n0_ n1_ n2_; (try clear hb); (try clear hb2); (try clear hk); (try clear hi); (try clear ho0)) | ((with_reducible refine gate_builtin (b := .append) (xs := #[.tmp 31, .tmp 32]) rfl ?_); (try (refine gate_guard (by rfl) ?_; dsimp only)); at_builtin; refine Kd.R_append_rows (Kd.int .u8) (w0 := w) w.heap.size rfl (.tmp 31) (.tmp 32) 22 5 (.int .u8 0) 1 rfl Try.underlying22 info5 rfl (by decide) (by omega) v717 t716 l2 _ _ _ (fun k_ => some k_ ≠ (.slice Ao19 t712.length co19 : Value).ownBlock) (fun _ => False) rfl rfl ?aO ?aR (fun _ _ h => h) (fun _ h => h.elim) ?aF ?aB ?aS ?aL ?_; (case aR => exact Kd.cu_ (Kd.C_below HR2.out HB.out)); (case aB => exact bw_); (case aF => exact (fun k_ hk => Kd.fresh' (Kd.R_lt (Kd.ru_ HO715.out)) k_ hk)); (case aO => exact (by (with_reducible repeat (first | apply Kd.rA_ | apply Kd.rN_ | apply Kd.rD_)); exact Kd.R_mono HO718.out (fun _ hk => hk.2))); (case aS => exact (pbS_ bw_)); (case aL => have := LMc16.out; omega); intro v720 w21 ho hb hg hat; rw [← Ny719.out] at ho; have n0_ := Aside0.mk (Kd.R_after (ok := (fun _ => True)) (Kd.ru_ HO715.out) hg hat); have n1_ := Aside0.mk (hb); have n2_ := Aside0.mk (ho); clear HO715; clear HB; clear HO718; have HO715 := n0_; have HB := n1_; have HO721 := n2_; clear n0_ n1_ n2_; clear ho hb hg hat; obtain ⟨Ao22, co22, eo22⟩ := Kd.R_slice HO721.out; subst eo22) | ((with_reducible refine gaC_ (f := 19) rfl ?_); refine goesL_ (some 35) rfl rfl Try.func19 (by kernel_rfl) rfl #[.slice Ao22 y719.length co22, .int .i64 a1] rfl (by (try simp only [List.map_toArray, List.map_cons, List.map_nil]); first | done | rfl | (simp only [List.length_drop, List.length_take]; rfl)) ?_; (with_reducible refine (post_Seek.calls kj5 _ _ y719 a1 t722 t723 t726 t727 _ ?side1 ?side2 A17.out).mono ?_); (case side1 => exact Kd.cu_ (Kd.R_reads' HO721.out).2.2); (case side2 => exact (Kd.R_reads' HO721.out).2.1); rintro e w23 ⟨v724, rfl, ho0, hb⟩; refine ⟨_, rfl, ?_⟩; replace HO715 := Aside0.mk (Kd.R_below (Kd.ru_ HO715.out) hb); replace HO721 := Aside0.mk (Kd.R_below (Kd.ru_ HO721.out) hb); have HO725 := Aside0.mk (Kd.R_lower ho0 (pbS_ bw_)); replace HB := Aside0.mk (below_step bw_ hb); (try clear hb); (try clear hb2); (try clear hk); (try clear hi); (try clear ho0)) | ((with_reducible refine gate_dst (N := 9) rfl ?_); (try (refine gate_guard (by rfl) ?_; dsimp only)); refine box_event ?hg (N := 9) ?hd (cs := #[.int .i64 0, .slice none 0 0]) (t := 37) ?hr ?_; (case hd => rfl); (case hg => rfl); (case hr => first | (go_simp; done) | (go_simp; rfl)); intro gb728 hg w24 hbox hb; have n0_ := Aside0.mk (Kd.R_below (Kd.ru_ HO715.out) hb); have n1_ := Aside0.mk (Kd.R_below (Kd.ru_ HO721.out) hb); have n2_ := Aside0.mk (Kd.R_below (Kd.ru_ HO725.out) hb); have n3_ := Aside0.mk (below_step bw_ hb); have n4_ := Aside0.mk (hbox); have n5_ := Aside0.mk ((by rw [hg]; exact (pbS_ bw_) : w.heap.size ≤ gb728)); have n6_ := Aside0.mk ((by rw [hg]; exact (pbS_ bw_) : w.heap.size ≤ gb728)); clear HO715; clear HO721; clear HO725; clear HB; have HO715 := n0_; have HO721 := n1_; have HO725 := n2_; have HB := n3_; have BK728 := n4_; have GW728 := n5_; have GE728 := n6_; clear n0_ n1_ n2_ n3_ n4_ n5_ n6_; clear hb hbox hg; have hcz25_0 : w24.cell? ⟨gb728, 0, none⟩ = some (.int .i64 0) := (blk_cell BK728.out 0).trans rfl; have hcz25_1 : w24.cell? ⟨gb728, 1, none⟩ = some (.slice none 0 0) := (blk_cell BK728.out 1).trans rfl; have hfz25_0 := blk_frozen BK728.out 0; have hfz25_1 := blk_frozen BK728.out 1; obtain ⟨Ao26, co26, eo26⟩ := Kd.R_slice HO725.out; subst eo26))
    go_loopg [12] kj5 (fun kq v12 w' => ∃ (x12_2 : Int), v12 = .int .i64 x12_2 ∧ Aside0 (dragnetlaw13_PostSkips.l0 kq l0 a1 t726 t727 x12_2 t722 t723 = some r) ∧ Aside0 (kq ≤ kj5) ∧ Aside0 (Kd.R (Kd.int .i64) 3 w' w.heap.size (fun _ => True) (.slice Ao26 t723.length co26) t723) ∧ Aside0 (w'.heap[gb728]? = some (.cells #[.int .i64 t722, (.slice Ao26 t723.length co26)] 37 (0, 0))) ∧ Aside0 (Below w.heap.size w w'))
    case atStart => exact ⟨(0), (by first | rfl | (simp; done) | (simp [*]; done)), H', ⟨Nat.le_refl _⟩, ⟨by (with_reducible repeat (first | apply Kd.rA_ | apply Kd.rN_ | apply Kd.rD_)); exact Kd.R_mono (Kd.R_far (p := ⟨gb728, 1, none⟩) (Kd.R_far (p := ⟨gb728, 0, none⟩) (Kd.R_types HO725.out BK728.out (by decide)) (fun _ hk => hk.2) (.int .i64 t722)) (fun _ hk => hk.2) (.slice Ao26 t723.length co26)) (fun _ hk => trivial)⟩, ⟨by (with_reducible repeat (first | refine blk_drewN ?_ _ | refine blk_drew ?_ | refine blk_alloc ?_ _)); refine blk_put (cs := #[.int .i64 t722, .slice none 0 0]) ?_ 1 _ rfl; (with_reducible repeat (first | refine blk_drewN ?_ _ | refine blk_drew ?_ | refine blk_alloc ?_ _)); refine blk_put (cs := #[.int .i64 0, .slice none 0 0]) ?_ 0 _ rfl; (with_reducible repeat (first | refine blk_drewN ?_ _ | refine blk_drew ?_ | refine blk_alloc ?_ _)); exact BK728.out⟩, ⟨by repeat (first | (with_reducible first | exact HB.out | apply pbA_ | apply pbN_ | apply pb1_ | refine below_set ?_ GE728.out) | exact HB.out)⟩⟩
    case round =>
     clear H'
     clear c14b0 c14b1
     clear hcz25_0 hcz25_1 hfz25_0 hfz25_1
     obtain ⟨x12_2, rfl, HA, HK2, HO_729001, BK728, HB⟩ := hrel
     cases gk with
     | zero => exact absurd HA.out (by simp [dragnetlaw13_PostSkips.l0])
     | succ k2 =>
      have H := HA.out
      clear HA
      simp only [dragnetlaw13_PostSkips.l0] at H
      by_cases c27 : x12_2 < (l0.length : Int)
      rotate_left
      ·rw [if_neg c27] at H
       have c27b0 : decide (x12_2 < (l0.length : Int)) = false := decide_eq_false c27
       clear c27
       by_cases c37 : t727 = 8
       rotate_left
       ·rw [if_neg c37] at H
        have c37b0 : (t727 == 8) = false := beq_eq_false_iff_ne.mpr c37
        have c37b1 : (t727 != 8) = true := bne_iff_ne.mpr c37
        obtain rfl := Option.some.inj H
        cases hr_.out
       rw [if_pos c37] at H
       have c37b0 : (t727 == 8) = true := beq_iff_eq.mpr c37
       have c37b1 : (t727 != 8) = false := bne_eq_false_iff_eq.mpr c37
       clear c37
       by_cases c38 : t726 = 0
       rotate_left
       ·rw [if_neg c38] at H
        have c38b0 : (t726 == 0) = false := beq_eq_false_iff_ne.mpr c38
        have c38b1 : (t726 != 0) = true := bne_iff_ne.mpr c38
        obtain rfl := Option.some.inj H
        cases hr_.out
       rw [if_pos c38] at H
       have c38b0 : (t726 == 0) = true := beq_iff_eq.mpr c38
       have c38b1 : (t726 != 0) = false := bne_eq_false_iff_eq.mpr c38
       clear c38
       obtain rfl := Option.some.inj H
       have hcz39_0 : wr.cell? ⟨gb728, 0, none⟩ = some (.int .i64 t722) := (blk_cell BK728.out 0).trans rfl
       have hcz39_1 : wr.cell? ⟨gb728, 1, none⟩ = some (.slice Ao26 t723.length co26) := (blk_cell BK728.out 1).trans rfl
       have hfz39_0 := blk_frozen BK728.out 0
       have hfz39_1 := blk_frozen BK728.out 1
       go_wp2
       go_ret
       exact ⟨rf_, by repeat (first | (with_reducible first | exact HB.out | apply pbA_ | apply pbN_ | apply pb1_ | refine below_set ?_ GE728.out) | exact HB.out)⟩
      rw [if_pos c27] at H
      have c27b0 : decide (x12_2 < (l0.length : Int)) = true := decide_eq_true c27
      clear c27
      by_cases c28 : 0 ≤ x12_2
      rotate_left
      ·rw [if_neg c28] at H
       exact absurd H (by simp)
      rw [if_pos c28] at H
      have c28b0 : decide (0 ≤ x12_2) = true := decide_eq_true c28
      clear c28
      by_cases c29 : ((rd_T37 l0 x12_2).f0) ≥ a1
      rotate_left
      ·rw [if_neg c29] at H
       have c29b0 : decide (a1 ≤ ((rd_T37 l0 x12_2).f0)) = false := decide_eq_false c29
       clear c29
       have H' := Aside0.mk H
       clear H
       have p729 : 0 ≤ (x12_2 : Int) := od_
       have q729 : x12_2 < (l0.length : Int) := od_
       obtain ⟨ad729, A729_1, c729_1, e729, hx729_0, hx729_1, hl729_1, hi729_1⟩ := at_T37 HR0.out x12_2 p729 q729
       cases e729
       replace hx729_0 := (HB.out.cell (World.block_lt_of_cell? w _ hx729_0)).trans hx729_0
       replace hx729_1 := (HB.out.cell (World.block_lt_of_cell? w _ hx729_1)).trans hx729_1
       have HR729_1 := Aside0.mk hi729_1
       have HC729_1 := Aside0.mk hl729_1
       clear hi729_1 hl729_1
       replace p729 := eq_true p729
       replace q729 := eq_true q729
       go_wp2
       go_roundg k2
       case measure => have := HJ5.out; have := HK2.out; omega
       case rel => exact ⟨(wrap64 (x12_2 + 1)), (by first | rfl | (simp; done) | (simp [*]; done)), H', ⟨by have := HJ5.out; have := HK2.out; omega⟩, ⟨Kd.ru_ HO_729001.out⟩, ⟨by (with_reducible repeat (first | refine blk_drewN ?_ _ | refine blk_drew ?_ | refine blk_alloc ?_ _)); exact BK728.out⟩, ⟨by repeat (first | (with_reducible first | exact HB.out | apply pbA_ | apply pbN_ | apply pb1_ | refine below_set ?_ GE728.out) | exact HB.out)⟩⟩
      rw [if_pos c29] at H
      have c29b0 : decide (a1 ≤ ((rd_T37 l0 x12_2).f0)) = true := decide_eq_true c29
      clear c29
      by_cases c30 : t727 = 0
      rotate_left
      ·rw [if_neg c30] at H
       have c30b0 : (t727 == 0) = false := beq_eq_false_iff_ne.mpr c30
       have c30b1 : (t727 != 0) = true := bne_iff_ne.mpr c30
       obtain rfl := Option.some.inj H
       cases hr_.out
      rw [if_pos c30] at H
      have c30b0 : (t727 == 0) = true := beq_iff_eq.mpr c30
      have c30b1 : (t727 != 0) = false := bne_eq_false_iff_eq.mpr c30
      clear c30
      by_cases c31 : t726 = 1
      rotate_left
      ·rw [if_neg c31] at H
       have c31b0 : (t726 == 1) = false := beq_eq_false_iff_ne.mpr c31
       have c31b1 : (t726 != 1) = true := bne_iff_ne.mpr c31
       obtain rfl := Option.some.inj H
       cases hr_.out
      rw [if_pos c31] at H
      have c31b0 : (t726 == 1) = true := beq_iff_eq.mpr c31
      have c31b1 : (t726 != 1) = false := bne_eq_false_iff_eq.mpr c31
      clear c31
      replace H := Option.bind_eq_some_iff.mp H
      obtain ⟨t731, A320, H⟩ := H
      replace H : (some t731) = some r := H
      have A32 := Aside0.mk A320
      clear A320
      obtain rfl := Option.some.inj H
      have p729 : 0 ≤ (x12_2 : Int) := od_
      have q729 : x12_2 < (l0.length : Int) := od_
      obtain ⟨ad729, A729_1, c729_1, e729, hx729_0, hx729_1, hl729_1, hi729_1⟩ := at_T37 HR0.out x12_2 p729 q729
      cases e729
      replace hx729_0 := (HB.out.cell (World.block_lt_of_cell? w _ hx729_0)).trans hx729_0
      replace hx729_1 := (HB.out.cell (World.block_lt_of_cell? w _ hx729_1)).trans hx729_1
      have HR729_1 := Aside0.mk hi729_1
      have HC729_1 := Aside0.mk hl729_1
      clear hi729_1 hl729_1
      replace p729 := eq_true p729
      replace q729 := eq_true q729
      try go_wp2
      have n0_ := Aside0.mk (Kd.rD_ HO_729001.out)
      have n1_ := Aside0.mk (blk_drew BK728.out)
      have n2_ := Aside0.mk (pb1_ HB.out)
      clear HO_729001
      clear BK728
      clear HB
      have HO_729001 := n0_
      have BK728 := n1_
      have HB := n2_
      clear n0_ n1_ n2_
      have p730 : 0 ≤ (x12_2 : Int) := od_
      have q730 : x12_2 < (l0.length : Int) := od_
      obtain ⟨ad730, A730_1, c730_1, e730, hx730_0, hx730_1, hl730_1, hi730_1⟩ := at_T37 HR0.out x12_2 p730 q730
      have hw730_1 := hx730_1
      have hw730_0 := hx730_0
      obtain rfl : ad729 = ad730 := (by injection e730)
      replace hx730_0 := (HB.out.cell (World.block_lt_of_cell? w _ hx730_0)).trans hx730_0
      replace hx730_1 := (HB.out.cell (World.block_lt_of_cell? w _ hx730_1)).trans hx730_1
      have HR730_1 := Aside0.mk hi730_1
      have HC730_1 := Aside0.mk hl730_1
      clear hi730_1 hl730_1
      replace p730 := eq_true p730
      replace q730 := eq_true q730
      refine start_ (n := 15) (S := fun w' => w'.cell? ⟨gb728, 0, none⟩ = some (.int .i64 t722) ∧ w'.cell? ⟨gb728, 1, none⟩ = some (.slice Ao26 t723.length co26) ∧ w'.cell? (ad729.add ((x12_2).toNat * 2)) = some (.int .i64 ((rd_T37 l0 x12_2).f0)) ∧ w'.cell? ⟨(ad729.add ((x12_2).toNat * 2)).block, (ad729.add ((x12_2).toNat * 2)).off + 1, none⟩ = some (.slice A730_1 ((rd_T37 l0 x12_2).f1).length c730_1)) (ds := []) #[false, false, false, false, false, false, false, false, false, false, false, false, false, false, false] (by kernel_rfl) rfl rfl ⟨(blk_cell BK728.out 0).trans rfl, (blk_cell BK728.out 1).trans rfl, ((HB.out.cell (World.block_lt_of_cell? w _ hw730_0)).trans hw730_0), ((HB.out.cell (World.block_lt_of_cell? w _ hw730_1)).trans hw730_1)⟩ (fun hHeld => ?_); refine with_tabW dragnetlaw13_PostSkips.tab13 dragnetlaw13_PostSkips.bits13 (fun HT_ HW_ => ?_)
      generalize wr.drew = w33 at HO_729001 BK728 HB HR730_1 hx730_0 hx730_1 hHeld ⊢
      refine pu_ (i := 0) (N := some 52) HT_ #[true, false, false, false, false, false, false, false, false, false, false, false, false, false, false] ?_
      refine pu_ (i := 1) (N := some 53) HT_ #[true, true, false, false, false, false, false, false, false, false, false, false, false, false, false] ?_
      refine pu_ (i := 2) (N := some 54) HT_ #[true, true, true, false, false, false, false, false, false, false, false, false, false, false, false] ?_
      refine pu_ (i := 3) (N := some 55) HT_ #[true, true, true, true, false, false, false, false, false, false, false, false, false, false, false] ?_
      refine pu_ (i := 4) (N := some 56) HT_ #[true, true, true, true, true, false, false, false, false, false, false, false, false, false, false] ?_
      refine pu_ (i := 5) (N := some 57) HT_ #[true, true, true, true, true, true, false, false, false, false, false, false, false, false, false] ?_
      refine pu_ (i := 6) (N := some 58) HT_ #[true, true, true, true, true, true, true, false, false, false, false, false, false, false, false] ?_
      refine pu_ (i := 8) (N := some 60) HT_ #[true, true, true, true, true, true, true, false, true, false, false, false, false, false, false] ?_
      refine pu_ (i := 9) (N := some 61) HT_ #[true, true, true, true, true, true, true, false, true, true, false, false, false, false, false] ?_
      refine pu_ (i := 10) (N := some 62) HT_ #[true, true, true, true, true, true, true, false, true, true, true, false, false, false, false] ?_
      refine ta_ (i := 7) (N := some 59) HT_ HW_ #[true, true, true, true, true, true, true, true, true, true, true, false, false, false, false] hHeld ?_
      refine ta_ (i := 11) (N := some 63) HT_ HW_ #[true, true, true, true, true, true, true, true, true, true, true, true, false, false, false] hHeld ?_
      refine one_ (i := 12) (N := some 64) #[tT,tT,tT,tT,tT,tT,tT,tT,tT,tT,tT,tT,tT,fF,fF] rfl rfl (one_of HT_.out (by kernel_rfl)) (by decide) (fun K hK => ?_)
      refine goes_ Try.func21 (by kernel_rfl) rfl #[.agg #[.int .i64 t722, .slice Ao26 t723.length co26], .agg #[.int .i64 ((rd_T37 l0 x12_2).f0), .slice A730_1 ((rd_T37 l0 x12_2).f1).length c730_1]] (by rfl) rfl rfl (by (try simp only [List.map_toArray, List.map_cons, List.map_nil]); first | done | rfl | (simp only [List.length_drop, List.length_take]; rfl)) ?_
      with_reducible refine (dragnetref13_SamePost.calls k2 t722 _ _ t723 ((rd_T37 l0 x12_2).f0) _ _ ((rd_T37 l0 x12_2).f1) t731 _ ?side1 ?side2 ?side3 ?side4 A32.out).mono ?_
      (case side1 => exact Kd.cu_ (Kd.R_reads' HO_729001.out).2.2)
      (case side2 => exact (Kd.R_reads' HO_729001.out).2.1)
      (case side3 => exact Kd.cu_ (Kd.C_below HR730_1.out HB.out))
      (case side4 => exact HC730_1.out)
      rintro e w34 ⟨rfl, hb⟩
      refine ⟨_, rfl, ?_⟩
      have n0_ := Aside0.mk (Kd.R_below (Kd.ru_ HO_729001.out) hb)
      have n1_ := Aside0.mk (blk_below (g := gb728) (o := .cells #[.int .i64 t722, .slice Ao26 t723.length co26] 37 (0, 0)) (by (with_reducible repeat (first | refine blk_drewN ?_ _ | refine blk_drew ?_ | refine blk_alloc ?_ _)); exact BK728.out) hb)
      have n2_ := Aside0.mk (below_step (by repeat (first | (with_reducible first | exact HB.out | apply pbA_ | apply pbN_ | apply pb1_ | refine below_set ?_ GE728.out) | exact HB.out)) hb)
      clear HO_729001
      clear BK728
      clear HB
      have HO_729001 := n0_
      have BK728 := n1_
      have HB := n2_
      clear n0_ n1_ n2_
      clear hb
      refine hK.out _ _ ⟨(blk_cell BK728.out 0).trans rfl, (blk_cell BK728.out 1).trans rfl, ((HB.out.cell (World.block_lt_of_cell? w _ hw730_0)).trans hw730_0), ((HB.out.cell (World.block_lt_of_cell? w _ hw730_1)).trans hw730_1)⟩ (fun hHeld => ?_)
      clear hK K
      refine norm_ (a' := ?_) ?_ ?_
      rotate_left
      ·show Act.put _ (some 64) _ = _
       simp only [Act.put, List.setIfInBounds_toArray, List.set_cons_zero, List.set_cons_succ, i64_w, i32_w]
       rfl
      refine pu_ (i := 13) (N := some 65) HT_ #[true, true, true, true, true, true, true, true, true, true, true, true, true, true, false] ?_
      refine pu_ (i := 14) (N := some 6) HT_ #[true, true, true, true, true, true, true, true, true, true, true, true, true, true, true] ?_
      refine done_ (done_of HT_.out (by kernel_rfl)) ?_
      try go_wp2
      go_ret
      exact ⟨rf_, by repeat (first | (with_reducible first | exact HB.out | apply pbA_ | apply pbN_ | apply pb1_ | refine below_set ?_ GE728.out) | exact HB.out)⟩
end Go.Proofs.Ytooeclfeallkkaa.P
end
