/- Words and proofs that UpPostPuts leans on; put together by wip/tools/shake.py. -/
import Derived.Test.YtooeclfeallkkaaZUpPostPuts7
import Derived.Test.YtooeclfeallkkaaZUpPostPuts13
import Derived.Test.YtooeclfeallkkaaZUpPostPuts14
import Derived.Test.YtooeclfeallkkaaZUpPostPuts15
import Derived.Test.YtooeclfeallkkaaZUpPostPuts16
section
namespace Go.Proofs.Ytooeclfeallkkaa.P
open Go.RowKit Go.Proofs.YtooeclfeallkkaaW.PrintWords Go.Proofs.YtooeclfeallkkaaW.PrintLast Go.Proofs.YtooeclfeallkkaaW.PrintMore
attribute [local go_sem] max2_int min2_int max_two min_two max_three min_three max_four min_four
set_option linter.unusedVariables false
set_option linter.unusedSimpArgs false
noncomputable def dragnetref13_body.l0 : Nat → List (S37) → Int → List Int → List Int → Int → Option (List Int)
 | 0, _, _, _, _, _ => none
 | k + 1, x0, x1, x5, x6, x7 => if x7 < (x0.length : Int) then (if 0 ≤ x7 then (if x5.length < 17592186044416 then ((dragnetref13_gaps.f k ((rd_T37 x0 x7).f1) (-1)).bind fun t466 => (if x6.length + t466.length < 17592186044416 then (dragnetref13_body.l0 k x0 x1 (x5 ++ [IntKind.u64.wrap (wrap64 ((((rd_T37 x0 x7).f1).length : Int) - 1))]) (x6 ++ t466) (wrap64 (x7 + 1))) else (none))) else (none)) else (none)) else ((dragnetref13_Docs.f k x0).bind fun t472 => ((dragnetref13_gaps.f k t472 x1).bind fun t475 => ((dragnetref04_Block.f k t475).bind fun t478 => ((dragnetref04_Block.f k x5).bind fun t481 => (if t478.length + t481.length < 140737488355328 then ((some (t478 ++ t481 : List Int)).bind fun y484 => ((dragnetref04_List.f k x6).bind fun t487 => (if y484.length + t487.length < 140737488355328 then (some (y484 ++ t487)) else (none)))) else (none))))))
noncomputable def dragnetref13_body.f (k : Nat) (l0 : List (S37)) (a1 : Int) : Option (List Int) := dragnetref13_body.l0 k l0 a1 ([] : List Int) ([] : List Int) 0
theorem dragnetref13_body.mono_l : ∀ k, (∀ y0 y1 y2 y3 y4, LeO (dragnetref13_body.l0 k y0 y1 y2 y3 y4) (dragnetref13_body.l0 (k + 1) y0 y1 y2 y3 y4))
 | 0 => fun _ _ _ _ _ r h => by simp [dragnetref13_body.l0] at h
 | k + 1 => by
  have ih0 := dragnetref13_body.mono_l k
  ·intro y0 y1 y2 y3 y4
   unfold dragnetref13_body.l0
   repeat' first
   | (with_reducible exact ih0 _ _ _ _ _)
   | (with_reducible exact dragnetref04_Block.mono _ _)
   | (with_reducible exact dragnetref04_List.mono _ _)
   | (with_reducible exact dragnetref13_Docs.mono _ _)
   | (with_reducible exact dragnetref13_gaps.mono _ _ _)
   | (with_reducible exact LeO.refl _)
   | (with_reducible exact LeO.none _)
   | (with_reducible refine LeO.ite ?_ ?_)
   | (with_reducible refine LeO.bind ?_ (fun _ => ?_))
theorem dragnetref13_body.mono : ∀ a0 a1 k, LeO (dragnetref13_body.f k a0 a1) (dragnetref13_body.f (k + 1) a0 a1) := by
 intro a0 a1 k
 have ih0 := dragnetref13_body.mono_l k
 unfold dragnetref13_body.f
 repeat' first
   | (with_reducible exact ih0 _ _ _ _ _)
   | (with_reducible exact dragnetref04_Block.mono _ _)
   | (with_reducible exact dragnetref04_List.mono _ _)
   | (with_reducible exact dragnetref13_Docs.mono _ _)
   | (with_reducible exact dragnetref13_gaps.mono _ _ _)
   | (with_reducible exact LeO.refl _)
   | (with_reducible exact LeO.none _)
   | (with_reducible refine LeO.ite ?_ ?_)
   | (with_reducible refine LeO.bind ?_ (fun _ => ?_))
set_option maxHeartbeats 8000000 in
set_option maxRecDepth 100000 in
theorem dragnetref13_body.calls (k : Nat) (A0 : Option Addr) (c0 : Nat) (l0 : List (S37)) (a1 : Int) (r : List Int) (w : World) (hr0 : Kd.C k37 w A0 l0.length l0) (hc0 : l0.length ≤ c0) (h : dragnetref13_body.f k l0 a1 = some r) :
  Calls Try.prog 32 #[.slice A0 l0.length c0, .int .i64 a1] w fun e w' => ∃ v0_ : Value, e = .returned (v0_) ∧ Kd.R (Kd.int .u8) 5 w' w.heap.size (fun _ => True) v0_ r ∧ Below w.heap.size w w' := by
 have HR0 := Aside0.mk hr0
 have HC0 := Aside0.mk hc0
 clear hr0 hc0
 have HB := Aside0.mk (Below.refl w.heap.size w)
 have H : (dragnetref13_body.l0 k l0 a1 ([] : List Int) ([] : List Int) 0) = some r := h
 clear h
 have H' := Aside0.mk H
 clear H
 go_enter Try.func32, Try.ntmps32
 go_wp2
 go_loopg [5, 6, 7] k (fun kq v5 v6 v7 w' => ∃ (x5_1 : List Int) (x6_1 : List Int) (x7_1 : Int), v7 = .int .i64 x7_1 ∧ Aside0 (dragnetref13_body.l0 kq l0 a1 x5_1 x6_1 x7_1 = some r) ∧ Aside0 (kq ≤ k) ∧ Aside0 (Kd.R (Kd.int .u64) 48 w' w.heap.size (fun k_ => some k_ ≠ (v6 : Value).ownBlock) v5 x5_1) ∧ Aside0 (Kd.R (Kd.int .u64) 48 w' w.heap.size (fun k_ => some k_ ≠ (v5 : Value).ownBlock) v6 x6_1) ∧ Aside0 (Below w.heap.size w w'))
 case atStart => exact ⟨(([] : List Int)), (([] : List Int)), (0), (by first | rfl | (simp; done) | (simp [*]; done)), H', ⟨Nat.le_refl _⟩, ⟨ni_⟩, ⟨ni_⟩, ⟨bw_⟩⟩
 case round =>
  clear H'
  obtain ⟨x5_1, x6_1, x7_1, rfl, HA, HK1, HO_5, HO_6, HB⟩ := hrel
  cases gk with
  | zero => exact absurd HA.out (by simp [dragnetref13_body.l0])
  | succ k1 =>
   have H := HA.out
   clear HA
   simp only [dragnetref13_body.l0] at H
   by_cases c3 : x7_1 < (l0.length : Int)
   ·rw [if_pos c3] at H
    have c3b0 : decide (x7_1 < (l0.length : Int)) = true := decide_eq_true c3
    clear c3
    by_cases c4 : 0 ≤ x7_1
    rotate_left
    ·rw [if_neg c4] at H
     exact absurd H (by simp)
    rw [if_pos c4] at H
    have c4b0 : decide (0 ≤ x7_1) = true := decide_eq_true c4
    clear c4
    by_cases c5 : x5_1.length < 17592186044416
    rotate_left
    ·rw [if_neg c5] at H
     exact absurd H (by simp)
    rw [if_pos c5] at H
    have LMc5 := Aside0.mk c5
    clear c5
    obtain ⟨y462, hy462⟩ : ∃ y_ : List Int, y_ = (x5_1 ++ [IntKind.u64.wrap (wrap64 ((((rd_T37 l0 x7_1).f1).length : Int) - 1))]) := ⟨_, rfl⟩
    replace H : ((dragnetref13_gaps.f k1 ((rd_T37 l0 x7_1).f1) (-1)).bind fun t466 => (if x6_1.length + t466.length < 17592186044416 then (dragnetref13_body.l0 k1 l0 a1 y462 (x6_1 ++ t466) (wrap64 (x7_1 + 1))) else (none))) = some r := by first | (rw [hy462]; with_reducible exact H) | (have H2_ := (Option.bind_some _ _).symm.trans H; rw [hy462]; with_reducible exact H2_) | (have H2_ := (Option.bind_some _ _).symm.trans H; with_reducible exact H2_) | with_reducible exact H | (rw [hy462]; exact H) | exact H
    have Ny462 := Aside0.mk hy462
    clear hy462
    replace H := Option.bind_eq_some_iff.mp H
    obtain ⟨t466, A60, H⟩ := H
    replace H : (if x6_1.length + t466.length < 17592186044416 then (dragnetref13_body.l0 k1 l0 a1 y462 (x6_1 ++ t466) (wrap64 (x7_1 + 1))) else (none)) = some r := H
    have A6 := Aside0.mk A60
    clear A60
    by_cases c7 : x6_1.length + t466.length < 17592186044416
    rotate_left
    ·rw [if_neg c7] at H
     exact absurd H (by simp)
    rw [if_pos c7] at H
    have LMc7 := Aside0.mk c7
    clear c7
    obtain ⟨y469, hy469⟩ : ∃ y_ : List Int, y_ = (x6_1 ++ t466) := ⟨_, rfl⟩
    replace H : (dragnetref13_body.l0 k1 l0 a1 y462 y469 (wrap64 (x7_1 + 1))) = some r := by first | (rw [hy469]; with_reducible exact H) | (have H2_ := (Option.bind_some _ _).symm.trans H; rw [hy469]; with_reducible exact H2_) | (have H2_ := (Option.bind_some _ _).symm.trans H; with_reducible exact H2_) | with_reducible exact H | (rw [hy469]; exact H) | exact H
    have Ny469 := Aside0.mk hy469
    clear hy469
    have H' := Aside0.mk H
    clear H
    have p461 : 0 ≤ (x7_1 : Int) := od_
    have q461 : x7_1 < (l0.length : Int) := od_
    obtain ⟨ad461, A461_1, c461_1, e461, hx461_0, hx461_1, hl461_1, hi461_1⟩ := at_T37 HR0.out x7_1 p461 q461
    cases e461
    replace hx461_0 := (HB.out.cell (World.block_lt_of_cell? w _ hx461_0)).trans hx461_0
    replace hx461_1 := (HB.out.cell (World.block_lt_of_cell? w _ hx461_1)).trans hx461_1
    have HR461_1 := Aside0.mk hi461_1
    have HC461_1 := Aside0.mk hl461_1
    clear hi461_1 hl461_1
    replace p461 := eq_true p461
    replace q461 := eq_true q461
    go_wp2_with (first | ((with_reducible refine gate_builtin (b := .append) (xs := #[.tmp 14, .tmp 23]) rfl ?_); at_builtin; refine Kd.R_append (Kd.int .u64) (w0 := w) w.heap.size rfl (.tmp 14) (.tmp 23) 52 48 (.int .u64 0) 8 rfl Try.underlying52 info48 rfl (by decide) (by omega) u5 x5_1 (IntKind.u64.wrap (wrap64 ((((rd_T37 l0 x7_1).f1).length : Int) - 1))) [.int .u64 (IntKind.u64.wrap (wrap64 ((((rd_T37 l0 x7_1).f1).length : Int) - 1)))] (fun k_ => some k_ ≠ (u6 : Value).ownBlock) (fun _ => False) rfl rfl ?aP (fun _ hk => hk.elim) ?aF ?aO ?aB ?aS ?aL ?_; (case aP => exact rfl); (case aB => exact bw_); (case aF => exact (fun k_ hk => Kd.fresh' (Kd.R_lt (Kd.ru_ HO_6.out)) k_ hk)); (case aO => exact (Kd.ru_ HO_5.out)); (case aS => exact (pbS_ bw_)); (case aL => have := LMc5.out; omega); intro v463 w8 ho hb hg hat; rw [← Ny462.out] at ho; have n0_ := Aside0.mk (Kd.R_after (ok := (fun _ => True)) (by (with_reducible repeat (first | apply Kd.rA_ | apply Kd.rN_ | apply Kd.rD_)); exact Kd.R_mono HO_6.out (fun _ hk => ⟨trivial, hk⟩)) hg hat); have n1_ := Aside0.mk (hb); have n2_ := Aside0.mk (ho); clear HO_6; clear HB; clear HO_5; have HO_6 := n0_; have HB := n1_; have HO464 := n2_; clear n0_ n1_ n2_; clear ho hb hg hat; have p465 : 0 ≤ (x7_1 : Int) := od_; have q465 : x7_1 < (l0.length : Int) := od_; obtain ⟨ad465, A465_1, c465_1, e465, hx465_0, hx465_1, hl465_1, hi465_1⟩ := at_T37 HR0.out x7_1 p465 q465; obtain rfl : ad461 = ad465 := (by injection e465); replace hx465_0 := (HB.out.cell (World.block_lt_of_cell? w _ hx465_0)).trans hx465_0; replace hx465_1 := (HB.out.cell (World.block_lt_of_cell? w _ hx465_1)).trans hx465_1; have HR465_1 := Aside0.mk hi465_1; have HC465_1 := Aside0.mk hl465_1; clear hi465_1 hl465_1; replace p465 := eq_true p465; replace q465 := eq_true q465) | ((with_reducible refine gaC_ (f := 52) rfl ?_); refine goesL_ (some 31) rfl rfl Try.func52 (by kernel_rfl) rfl #[.slice A465_1 ((rd_T37 l0 x7_1).f1).length c465_1, .int .i64 (-1)] rfl (by (try simp only [List.map_toArray, List.map_cons, List.map_nil]); first | done | rfl | (simp only [List.length_drop, List.length_take]; rfl)) ?_; (with_reducible refine (dragnetref13_gaps.calls k1 _ _ ((rd_T37 l0 x7_1).f1) (-1) t466 _ ?side1 ?side2 A6.out).mono ?_); (case side1 => exact Kd.cu_ (Kd.C_below HR465_1.out HB.out)); (case side2 => exact HC465_1.out); rintro e w9 ⟨v467, rfl, ho0, hb⟩; refine ⟨_, rfl, ?_⟩; have n0_ := Aside0.mk (Kd.R_elder' (Kd.ru_ HO_6.out) (Kd.R_base ho0) hb); have n1_ := Aside0.mk (Kd.R_elder' (Kd.ru_ HO464.out) (Kd.R_base ho0) hb); have n2_ := Aside0.mk (Kd.R_lower (Kd.R_new' (Kd.R_new' ho0 (Kd.R_lt (Kd.ru_ HO_6.out))) (Kd.R_lt (Kd.ru_ HO464.out))) (pbS_ bw_)); have n3_ := Aside0.mk (below_step bw_ hb); clear HO_6; clear HO464; clear HB; have HO_6 := n0_; have HO464 := n1_; have HO468 := n2_; have HB := n3_; clear n0_ n1_ n2_ n3_; (try clear hb); (try clear hb2); (try clear hk); (try clear hi); (try clear ho0); obtain ⟨Ao11, co11, eo11⟩ := Kd.R_slice HO468.out; subst eo11) | ((with_reducible refine gate_builtin (b := .append) (xs := #[.tmp 25, .tmp 31]) rfl ?_); at_builtin; refine Kd.R_append_rows (Kd.int .u64) (w0 := w) w.heap.size rfl (.tmp 25) (.tmp 31) 52 48 (.int .u64 0) 8 rfl Try.underlying52 info48 rfl (by decide) (by omega) u6 x6_1 t466 _ _ _ (fun k_ => some k_ ≠ (v463 : Value).ownBlock ∧ some k_ ≠ (.slice Ao11 t466.length co11 : Value).ownBlock) (fun _ => False) rfl rfl ?aO ?aR (fun _ _ h => h) (fun _ h => h.elim) ?aF ?aB ?aS ?aL ?_; (case aR => exact Kd.cu_ (Kd.R_reads' HO468.out).2.2); (case aB => exact bw_); (case aF => exact (fun k_ hk => ⟨Kd.fresh' (Kd.R_lt (Kd.ru_ HO464.out)) k_ hk, Kd.fresh' (Kd.R_lt (Kd.ru_ HO468.out)) k_ hk⟩)); (case aO => exact (by (with_reducible repeat (first | apply Kd.rA_ | apply Kd.rN_ | apply Kd.rD_)); exact Kd.R_mono HO_6.out (fun _ hk => ⟨hk.1.2, hk.2⟩))); (case aS => exact (pbS_ bw_)); (case aL => have := LMc7.out; omega); intro v470 w10 ho hb hg hat; rw [← Ny469.out] at ho; have n0_ := Aside0.mk (Kd.R_after (ok := (fun k_ => some k_ ≠ (.slice Ao11 t466.length co11 : Value).ownBlock)) (by (with_reducible repeat (first | apply Kd.rA_ | apply Kd.rN_ | apply Kd.rD_)); exact Kd.R_mono HO464.out (fun _ hk => ⟨hk.2, hk.1⟩)) hg hat); have n1_ := Aside0.mk (Kd.R_after (ok := (fun k_ => some k_ ≠ (v463 : Value).ownBlock)) (by (with_reducible repeat (first | apply Kd.rA_ | apply Kd.rN_ | apply Kd.rD_)); exact Kd.R_mono HO468.out (fun _ hk => ⟨hk.2, hk.1.2⟩)) hg hat); have n2_ := Aside0.mk (hb); have n3_ := Aside0.mk (ho); clear HO464; clear HO468; clear HB; clear HO_6; have HO464 := n0_; have HO468 := n1_; have HB := n2_; have HO471 := n3_; clear n0_ n1_ n2_ n3_; clear ho hb hg hat))
    go_roundg k1
    case measure => have := HK1.out; omega
    case rel => exact ⟨(y462), (y469), (wrap64 (x7_1 + 1)), (by first | rfl | (simp; done) | (simp [*]; done)), H', ⟨by have := HK1.out; omega⟩, ⟨by (with_reducible repeat (first | apply Kd.rA_ | apply Kd.rN_ | apply Kd.rD_)); exact Kd.R_mono HO464.out (fun _ hk => hk.2)⟩, ⟨by (with_reducible repeat (first | apply Kd.rA_ | apply Kd.rN_ | apply Kd.rD_)); exact Kd.R_mono HO471.out (fun _ hk => hk.1)⟩, ⟨bw_⟩⟩
   ·rw [if_neg c3] at H
    have c3b0 : decide (x7_1 < (l0.length : Int)) = false := decide_eq_false c3
    clear c3
    replace H := Option.bind_eq_some_iff.mp H
    obtain ⟨t472, A120, H⟩ := H
    replace H : ((dragnetref13_gaps.f k1 t472 a1).bind fun t475 => ((dragnetref04_Block.f k1 t475).bind fun t478 => ((dragnetref04_Block.f k1 x5_1).bind fun t481 => (if t478.length + t481.length < 140737488355328 then ((some (t478 ++ t481 : List Int)).bind fun y484 => ((dragnetref04_List.f k1 x6_1).bind fun t487 => (if y484.length + t487.length < 140737488355328 then (some (y484 ++ t487)) else (none)))) else (none))))) = some r := H
    have A12 := Aside0.mk A120
    clear A120
    replace H := Option.bind_eq_some_iff.mp H
    obtain ⟨t475, A130, H⟩ := H
    replace H : ((dragnetref04_Block.f k1 t475).bind fun t478 => ((dragnetref04_Block.f k1 x5_1).bind fun t481 => (if t478.length + t481.length < 140737488355328 then ((some (t478 ++ t481 : List Int)).bind fun y484 => ((dragnetref04_List.f k1 x6_1).bind fun t487 => (if y484.length + t487.length < 140737488355328 then (some (y484 ++ t487)) else (none)))) else (none)))) = some r := H
    have A13 := Aside0.mk A130
    clear A130
    replace H := Option.bind_eq_some_iff.mp H
    obtain ⟨t478, A140, H⟩ := H
    replace H : ((dragnetref04_Block.f k1 x5_1).bind fun t481 => (if t478.length + t481.length < 140737488355328 then ((some (t478 ++ t481 : List Int)).bind fun y484 => ((dragnetref04_List.f k1 x6_1).bind fun t487 => (if y484.length + t487.length < 140737488355328 then (some (y484 ++ t487)) else (none)))) else (none))) = some r := H
    have A14 := Aside0.mk A140
    clear A140
    replace H := Option.bind_eq_some_iff.mp H
    obtain ⟨t481, A150, H⟩ := H
    replace H : (if t478.length + t481.length < 140737488355328 then ((some (t478 ++ t481 : List Int)).bind fun y484 => ((dragnetref04_List.f k1 x6_1).bind fun t487 => (if y484.length + t487.length < 140737488355328 then (some (y484 ++ t487)) else (none)))) else (none)) = some r := H
    have A15 := Aside0.mk A150
    clear A150
    by_cases c16 : t478.length + t481.length < 140737488355328
    rotate_left
    ·rw [if_neg c16] at H
     exact absurd H (by simp)
    rw [if_pos c16] at H
    have LMc16 := Aside0.mk c16
    clear c16
    obtain ⟨y484, hy484⟩ : ∃ y_ : List Int, y_ = (t478 ++ t481) := ⟨_, rfl⟩
    replace H : ((dragnetref04_List.f k1 x6_1).bind fun t487 => (if y484.length + t487.length < 140737488355328 then (some (y484 ++ t487)) else (none))) = some r := by first | (rw [hy484]; with_reducible exact H) | (have H2_ := (Option.bind_some _ _).symm.trans H; rw [hy484]; with_reducible exact H2_) | (have H2_ := (Option.bind_some _ _).symm.trans H; with_reducible exact H2_) | with_reducible exact H | (rw [hy484]; exact H) | exact H
    have Ny484 := Aside0.mk hy484
    clear hy484
    replace H := Option.bind_eq_some_iff.mp H
    obtain ⟨t487, A170, H⟩ := H
    replace H : (if y484.length + t487.length < 140737488355328 then (some (y484 ++ t487)) else (none)) = some r := H
    have A17 := Aside0.mk A170
    clear A170
    by_cases c18 : y484.length + t487.length < 140737488355328
    rotate_left
    ·rw [if_neg c18] at H
     exact absurd H (by simp)
    rw [if_pos c18] at H
    have LMc18 := Aside0.mk c18
    clear c18
    obtain ⟨y490, hy490⟩ : ∃ y_ : List Int, y_ = (y484 ++ t487) := ⟨_, rfl⟩
    replace H : (some y490) = some r := by first | (rw [hy490]; with_reducible exact H) | (have H2_ := (Option.bind_some _ _).symm.trans H; rw [hy490]; with_reducible exact H2_) | (have H2_ := (Option.bind_some _ _).symm.trans H; with_reducible exact H2_) | with_reducible exact H | (rw [hy490]; exact H) | exact H
    have Ny490 := Aside0.mk hy490
    clear hy490
    obtain rfl := Option.some.inj H
    go_wp2_with (first | ((with_reducible refine gaC_ (f := 30) rfl ?_); refine goesL_ (some 34) rfl rfl Try.func30 (by kernel_rfl) rfl #[.slice A0 l0.length c0] rfl (by (try simp only [List.map_toArray, List.map_cons, List.map_nil]); first | done | rfl | (simp only [List.length_drop, List.length_take]; rfl)) ?_; (with_reducible refine (dragnetref13_Docs.calls k1 _ _ l0 t472 _ ?side1 ?side2 A12.out).mono ?_); (case side1 => exact Kd.cu_ (Kd.C_below HR0.out HB.out)); (case side2 => exact HC0.out); rintro e w19 ⟨v473, rfl, ho0, hb⟩; refine ⟨_, rfl, ?_⟩; replace HO_5 := Aside0.mk (Kd.R_below (Kd.ru_ HO_5.out) hb); replace HO_6 := Aside0.mk (Kd.R_below (Kd.ru_ HO_6.out) hb); have HO474 := Aside0.mk (Kd.R_lower ho0 (pbS_ bw_)); replace HB := Aside0.mk (below_step bw_ hb); (try clear hb); (try clear hb2); (try clear hk); (try clear hi); (try clear ho0); obtain ⟨Ao20, co20, eo20⟩ := Kd.R_slice HO474.out; subst eo20) | ((with_reducible refine gaC_ (f := 52) rfl ?_); refine goesL_ (some 36) rfl rfl Try.func52 (by kernel_rfl) rfl #[.slice Ao20 t472.length co20, .int .i64 a1] rfl (by (try simp only [List.map_toArray, List.map_cons, List.map_nil]); first | done | rfl | (simp only [List.length_drop, List.length_take]; rfl)) ?_; (with_reducible refine (dragnetref13_gaps.calls k1 _ _ t472 a1 t475 _ ?side1 ?side2 A13.out).mono ?_); (case side1 => exact Kd.cu_ (Kd.R_reads' HO474.out).2.2); (case side2 => exact (Kd.R_reads' HO474.out).2.1); rintro e w21 ⟨v476, rfl, ho0, hb⟩; refine ⟨_, rfl, ?_⟩; have n0_ := Aside0.mk (Kd.R_elder' (Kd.ru_ HO_5.out) (Kd.R_base ho0) hb); have n1_ := Aside0.mk (Kd.R_elder' (Kd.ru_ HO_6.out) (Kd.R_base ho0) hb); have n2_ := Aside0.mk (Kd.R_below (Kd.ru_ HO474.out) hb); have n3_ := Aside0.mk (Kd.R_lower (Kd.R_new' (Kd.R_new' ho0 (Kd.R_lt (Kd.ru_ HO_5.out))) (Kd.R_lt (Kd.ru_ HO_6.out))) (pbS_ bw_)); have n4_ := Aside0.mk (below_step bw_ hb); clear HO_5; clear HO_6; clear HO474; clear HB; have HO_5 := n0_; have HO_6 := n1_; have HO474 := n2_; have HO477 := n3_; have HB := n4_; clear n0_ n1_ n2_ n3_ n4_; (try clear hb); (try clear hb2); (try clear hk); (try clear hi); (try clear ho0); obtain ⟨Ao22, co22, eo22⟩ := Kd.R_slice HO477.out; subst eo22) | ((with_reducible refine gaC_ (f := 53) rfl ?_); refine goesL_ (some 37) rfl rfl Try.func53 (by kernel_rfl) rfl #[.slice Ao22 t475.length co22] rfl (by (try simp only [List.map_toArray, List.map_cons, List.map_nil]); first | done | rfl | (simp only [List.length_drop, List.length_take]; rfl)) ?_; (with_reducible refine (dragnetref04_Block.calls k1 _ _ t475 t478 _ ?side1 ?side2 A14.out).mono ?_); (case side1 => exact Kd.cu_ (Kd.R_reads' HO477.out).2.2); (case side2 => exact (Kd.R_reads' HO477.out).2.1); rintro e w23 ⟨v479, rfl, ho0, hb⟩; refine ⟨_, rfl, ?_⟩; replace HO_5 := Aside0.mk (Kd.R_below (Kd.ru_ HO_5.out) hb); replace HO_6 := Aside0.mk (Kd.R_below (Kd.ru_ HO_6.out) hb); replace HO474 := Aside0.mk (Kd.R_below (Kd.ru_ HO474.out) hb); replace HO477 := Aside0.mk (Kd.R_below (Kd.ru_ HO477.out) hb); have HO480 := Aside0.mk (Kd.R_lower ho0 (pbS_ bw_)); replace HB := Aside0.mk (below_step bw_ hb); (try clear hb); (try clear hb2); (try clear hk); (try clear hi); (try clear ho0); obtain ⟨Ao24, co24, eo24⟩ := Kd.R_slice HO_5.out; subst eo24) | ((with_reducible refine gaC_ (f := 53) rfl ?_); refine goesL_ (some 39) rfl rfl Try.func53 (by kernel_rfl) rfl #[.slice Ao24 x5_1.length co24] rfl (by (try simp only [List.map_toArray, List.map_cons, List.map_nil]); first | done | rfl | (simp only [List.length_drop, List.length_take]; rfl)) ?_; (with_reducible refine (dragnetref04_Block.calls k1 _ _ x5_1 t481 _ ?side1 ?side2 A15.out).mono ?_); (case side1 => exact Kd.cu_ (Kd.R_reads' HO_5.out).2.2); (case side2 => exact (Kd.R_reads' HO_5.out).2.1); rintro e w25 ⟨v482, rfl, ho0, hb⟩; refine ⟨_, rfl, ?_⟩; have n0_ := Aside0.mk (Kd.R_below (Kd.ru_ HO_5.out) hb); have n1_ := Aside0.mk (Kd.R_below (Kd.ru_ HO_6.out) hb); have n2_ := Aside0.mk (Kd.R_below (Kd.ru_ HO474.out) hb); have n3_ := Aside0.mk (Kd.R_below (Kd.ru_ HO477.out) hb); have n4_ := Aside0.mk (Kd.R_elder' (Kd.ru_ HO480.out) (Kd.R_base ho0) hb); have n5_ := Aside0.mk (Kd.R_lower (Kd.R_new' ho0 (Kd.R_lt (Kd.ru_ HO480.out))) (pbS_ bw_)); have n6_ := Aside0.mk (below_step bw_ hb); clear HO_5; clear HO_6; clear HO474; clear HO477; clear HO480; clear HB; have HO_5 := n0_; have HO_6 := n1_; have HO474 := n2_; have HO477 := n3_; have HO480 := n4_; have HO483 := n5_; have HB := n6_; clear n0_ n1_ n2_ n3_ n4_ n5_ n6_; (try clear hb); (try clear hb2); (try clear hk); (try clear hi); (try clear ho0); obtain ⟨Ao27, co27, eo27⟩ := Kd.R_slice HO483.out; subst eo27) | ((with_reducible refine gate_builtin (b := .append) (xs := #[.tmp 37, .tmp 39]) rfl ?_); at_builtin; refine Kd.R_append_rows (Kd.int .u8) (w0 := w) w.heap.size rfl (.tmp 37) (.tmp 39) 22 5 (.int .u8 0) 1 rfl Try.underlying22 info5 rfl (by decide) (by omega) v479 t478 t481 _ _ _ (fun k_ => some k_ ≠ (.slice Ao27 t481.length co27 : Value).ownBlock) (fun _ => False) rfl rfl ?aO ?aR (fun _ _ h => h) (fun _ h => h.elim) ?aF ?aB ?aS ?aL ?_; (case aR => exact Kd.cu_ (Kd.R_reads' HO483.out).2.2); (case aB => exact bw_); (case aF => exact (fun k_ hk => Kd.fresh' (Kd.R_lt (Kd.ru_ HO483.out)) k_ hk)); (case aO => exact (by (with_reducible repeat (first | apply Kd.rA_ | apply Kd.rN_ | apply Kd.rD_)); exact Kd.R_mono HO480.out (fun _ hk => hk.2))); (case aS => exact (pbS_ bw_)); (case aL => have := LMc16.out; omega); intro v485 w26 ho hb hg hat; rw [← Ny484.out] at ho; have n0_ := Aside0.mk (Kd.R_over' (Kd.ru_ HO_5.out) (Kd.R_typed (Kd.ru_ HO480.out)) (by decide) hg); have n1_ := Aside0.mk (Kd.R_over' (Kd.ru_ HO_6.out) (Kd.R_typed (Kd.ru_ HO480.out)) (by decide) hg); have n2_ := Aside0.mk (Kd.R_over' (Kd.ru_ HO474.out) (Kd.R_typed (Kd.ru_ HO480.out)) (by decide) hg); have n3_ := Aside0.mk (Kd.R_over' (Kd.ru_ HO477.out) (Kd.R_typed (Kd.ru_ HO480.out)) (by decide) hg); have n4_ := Aside0.mk (Kd.R_after (ok := (fun _ => True)) (Kd.ru_ HO483.out) hg hat); have n5_ := Aside0.mk (hb); have n6_ := Aside0.mk (ho); clear HO_5; clear HO_6; clear HO474; clear HO477; clear HO483; clear HB; clear HO480; have HO_5 := n0_; have HO_6 := n1_; have HO474 := n2_; have HO477 := n3_; have HO483 := n4_; have HB := n5_; have HO486 := n6_; clear n0_ n1_ n2_ n3_ n4_ n5_ n6_; clear ho hb hg hat; obtain ⟨Ao28, co28, eo28⟩ := Kd.R_slice HO_6.out; subst eo28) | ((with_reducible refine gaC_ (f := 54) rfl ?_); refine goesL_ (some 42) rfl rfl Try.func54 (by kernel_rfl) rfl #[.slice Ao28 x6_1.length co28] rfl (by (try simp only [List.map_toArray, List.map_cons, List.map_nil]); first | done | rfl | (simp only [List.length_drop, List.length_take]; rfl)) ?_; (with_reducible refine (dragnetref04_List.calls k1 _ _ x6_1 t487 _ ?side1 ?side2 A17.out).mono ?_); (case side1 => exact Kd.cu_ (Kd.R_reads' HO_6.out).2.2); (case side2 => exact (Kd.R_reads' HO_6.out).2.1); rintro e w29 ⟨v488, rfl, ho0, hb⟩; refine ⟨_, rfl, ?_⟩; have n0_ := Aside0.mk (Kd.R_below (Kd.ru_ HO_5.out) hb); have n1_ := Aside0.mk (Kd.R_below (Kd.ru_ HO_6.out) hb); have n2_ := Aside0.mk (Kd.R_below (Kd.ru_ HO474.out) hb); have n3_ := Aside0.mk (Kd.R_below (Kd.ru_ HO477.out) hb); have n4_ := Aside0.mk (Kd.R_elder' (Kd.ru_ HO483.out) (Kd.R_base ho0) hb); have n5_ := Aside0.mk (Kd.R_elder' (Kd.ru_ HO486.out) (Kd.R_base ho0) hb); have n6_ := Aside0.mk (Kd.R_lower (Kd.R_new' (Kd.R_new' ho0 (Kd.R_lt (Kd.ru_ HO483.out))) (Kd.R_lt (Kd.ru_ HO486.out))) (pbS_ bw_)); have n7_ := Aside0.mk (below_step bw_ hb); clear HO_5; clear HO_6; clear HO474; clear HO477; clear HO483; clear HO486; clear HB; have HO_5 := n0_; have HO_6 := n1_; have HO474 := n2_; have HO477 := n3_; have HO483 := n4_; have HO486 := n5_; have HO489 := n6_; have HB := n7_; clear n0_ n1_ n2_ n3_ n4_ n5_ n6_ n7_; (try clear hb); (try clear hb2); (try clear hk); (try clear hi); (try clear ho0); obtain ⟨Ao31, co31, eo31⟩ := Kd.R_slice HO489.out; subst eo31) | ((with_reducible refine gate_builtin (b := .append) (xs := #[.tmp 40, .tmp 42]) rfl ?_); at_builtin; refine Kd.R_append_rows (Kd.int .u8) (w0 := w) w.heap.size rfl (.tmp 40) (.tmp 42) 22 5 (.int .u8 0) 1 rfl Try.underlying22 info5 rfl (by decide) (by omega) v485 y484 t487 _ _ _ (fun k_ => some k_ ≠ (.slice Ao27 t481.length co27 : Value).ownBlock ∧ some k_ ≠ (.slice Ao31 t487.length co31 : Value).ownBlock) (fun _ => False) rfl rfl ?aO ?aR (fun _ _ h => h) (fun _ h => h.elim) ?aF ?aB ?aS ?aL ?_; (case aR => exact Kd.cu_ (Kd.R_reads' HO489.out).2.2); (case aB => exact bw_); (case aF => exact (fun k_ hk => ⟨Kd.fresh' (Kd.R_lt (Kd.ru_ HO483.out)) k_ hk, Kd.fresh' (Kd.R_lt (Kd.ru_ HO489.out)) k_ hk⟩)); (case aO => exact (Kd.ru_ HO486.out)); (case aS => exact (pbS_ bw_)); (case aL => have := LMc18.out; omega); intro v491 w30 ho hb hg hat; rw [← Ny490.out] at ho; have n0_ := Aside0.mk (Kd.R_over' (Kd.ru_ HO_5.out) (Kd.R_typed (Kd.ru_ HO486.out)) (by decide) hg); have n1_ := Aside0.mk (Kd.R_over' (Kd.ru_ HO_6.out) (Kd.R_typed (Kd.ru_ HO486.out)) (by decide) hg); have n2_ := Aside0.mk (Kd.R_over' (Kd.ru_ HO474.out) (Kd.R_typed (Kd.ru_ HO486.out)) (by decide) hg); have n3_ := Aside0.mk (Kd.R_over' (Kd.ru_ HO477.out) (Kd.R_typed (Kd.ru_ HO486.out)) (by decide) hg); have n4_ := Aside0.mk (Kd.R_after (ok := (fun k_ => some k_ ≠ (.slice Ao31 t487.length co31 : Value).ownBlock)) (by (with_reducible repeat (first | apply Kd.rA_ | apply Kd.rN_ | apply Kd.rD_)); exact Kd.R_mono HO483.out (fun _ hk => ⟨hk.2, hk.1.2⟩)) hg hat); have n5_ := Aside0.mk (Kd.R_after (ok := (fun k_ => some k_ ≠ (.slice Ao27 t481.length co27 : Value).ownBlock)) (by (with_reducible repeat (first | apply Kd.rA_ | apply Kd.rN_ | apply Kd.rD_)); exact Kd.R_mono HO489.out (fun _ hk => ⟨hk.1.2, hk.2⟩)) hg hat); have n6_ := Aside0.mk (hb); have n7_ := Aside0.mk (ho); clear HO_5; clear HO_6; clear HO474; clear HO477; clear HO483; clear HO489; clear HB; clear HO486; have HO_5 := n0_; have HO_6 := n1_; have HO474 := n2_; have HO477 := n3_; have HO483 := n4_; have HO489 := n5_; have HB := n6_; have HO492 := n7_; clear n0_ n1_ n2_ n3_ n4_ n5_ n6_ n7_; clear ho hb hg hat))
    go_ret
    exact ⟨_, rf_, by (with_reducible repeat (first | apply Kd.rA_ | apply Kd.rN_ | apply Kd.rD_)); exact Kd.R_mono HO492.out (fun _ hk => trivial), bw_⟩
noncomputable def dragnetref02_Row.f (k : Nat) (l0 : List Int) : Option (List Int) := (dragnetref02_Bytes.f k (IntKind.u64.wrap ((l0.length : Int)))).bind fun t493 => (if t493.length + l0.length < 140737488355328 then (some (t493 ++ l0)) else (none))
theorem dragnetref02_Row.mono : ∀ a0 k, LeO (dragnetref02_Row.f k a0) (dragnetref02_Row.f (k + 1) a0) := by
 intro a0 k
 unfold dragnetref02_Row.f
 repeat' first
   | (with_reducible exact dragnetref02_Bytes.mono _ _)
   | (with_reducible exact LeO.refl _)
   | (with_reducible exact LeO.none _)
   | (with_reducible refine LeO.ite ?_ ?_)
   | (with_reducible refine LeO.bind ?_ (fun _ => ?_))
set_option maxHeartbeats 8000000 in
set_option maxRecDepth 100000 in
theorem dragnetref02_Row.calls (k : Nat) (A0 : Option Addr) (c0 : Nat) (l0 : List Int) (r : List Int) (w : World) (hr0 : Kd.C (Kd.int .u8) w A0 l0.length l0) (hc0 : l0.length ≤ c0) (h : dragnetref02_Row.f k l0 = some r) :
  Calls Try.prog 33 #[.slice A0 l0.length c0] w fun e w' => ∃ v0_ : Value, e = .returned (v0_) ∧ Kd.R (Kd.int .u8) 5 w' w.heap.size (fun _ => True) v0_ r ∧ Below w.heap.size w w' := by
 have HR0 := Aside0.mk hr0
 have HC0 := Aside0.mk hc0
 clear hr0 hc0
 have HB := Aside0.mk (Below.refl w.heap.size w)
 have H : ((dragnetref02_Bytes.f k (IntKind.u64.wrap ((l0.length : Int)))).bind fun t493 => (if t493.length + l0.length < 140737488355328 then (some (t493 ++ l0)) else (none))) = some r := h
 clear h
 replace H := Option.bind_eq_some_iff.mp H
 obtain ⟨t493, A20, H⟩ := H
 replace H : (if t493.length + l0.length < 140737488355328 then (some (t493 ++ l0)) else (none)) = some r := H
 have A2 := Aside0.mk A20
 clear A20
 by_cases c3 : t493.length + l0.length < 140737488355328
 rotate_left
 ·rw [if_neg c3] at H
  exact absurd H (by simp)
 rw [if_pos c3] at H
 have LMc3 := Aside0.mk c3
 clear c3
 obtain ⟨y496, hy496⟩ : ∃ y_ : List Int, y_ = (t493 ++ l0) := ⟨_, rfl⟩
 replace H : (some y496) = some r := by first | (rw [hy496]; with_reducible exact H) | (have H2_ := (Option.bind_some _ _).symm.trans H; rw [hy496]; with_reducible exact H2_) | (have H2_ := (Option.bind_some _ _).symm.trans H; with_reducible exact H2_) | with_reducible exact H | (rw [hy496]; exact H) | exact H
 have Ny496 := Aside0.mk hy496
 clear hy496
 obtain rfl := Option.some.inj H
 go_enter Try.func33, Try.ntmps33
 go_wp2_with (first | ((with_reducible refine gaC_ (f := 31) rfl ?_); refine goesL_ (some 6) rfl rfl Try.func31 (by kernel_rfl) rfl #[.int .u64 (IntKind.u64.wrap ((l0.length : Int)))] rfl (by (try simp only [List.map_toArray, List.map_cons, List.map_nil]); first | done | rfl | (simp only [List.length_drop, List.length_take]; rfl)) ?_; (with_reducible refine (dragnetref02_Bytes.calls k (IntKind.u64.wrap ((l0.length : Int))) t493 _ A2.out).mono ?_); rintro e w4 ⟨v494, rfl, ho0, hb⟩; refine ⟨_, rfl, ?_⟩; have HO495 := Aside0.mk (Kd.R_lower ho0 (pbS_ bw_)); replace HB := Aside0.mk (below_step bw_ hb); (try clear hb); (try clear hb2); (try clear hk); (try clear hi); (try clear ho0)) | ((with_reducible refine gate_builtin (b := .append) (xs := #[.tmp 6, .tmp 7]) rfl ?_); at_builtin; refine Kd.R_append_rows (Kd.int .u8) (w0 := w) w.heap.size rfl (.tmp 6) (.tmp 7) 22 5 (.int .u8 0) 1 rfl Try.underlying22 info5 rfl (by decide) (by omega) v494 t493 l0 _ _ _ (fun _ => True) (fun _ => False) rfl rfl ?aO ?aR (fun _ _ h => h) (fun _ h => h.elim) ?aF ?aB ?aS ?aL ?_; (case aR => exact Kd.cu_ (Kd.C_below HR0.out HB.out)); (case aB => exact bw_); (case aF => exact (fun _ _ => trivial)); (case aO => exact (Kd.ru_ HO495.out)); (case aS => exact (pbS_ bw_)); (case aL => have := LMc3.out; omega); intro v497 w5 ho hb hg hat; rw [← Ny496.out] at ho; have n0_ := Aside0.mk (hb); have n1_ := Aside0.mk (ho); clear HB; clear HO495; have HB := n0_; have HO498 := n1_; clear n0_ n1_; clear ho hb hg hat))
 go_ret
 exact ⟨_, rf_, by (with_reducible repeat (first | apply Kd.rA_ | apply Kd.rN_ | apply Kd.rD_)); exact HO498.out, bw_⟩
noncomputable def dragnetref13_Bytes.l0 : Nat → List (S37) → List Int → Int → Int → Option (List Int)
 | 0, _, _, _, _ => none
 | k + 1, x0, x3, x4, x5 => if x5 < (x0.length : Int) then (if 0 ≤ x5 then (if x5 ≤ (mn (x0.length : Int) (wrap64 (x5 + 32))) then (if (mn (x0.length : Int) (wrap64 (x5 + 32))) ≤ (x0.length : Int) then ((some ((x0.take ((mn (x0.length : Int) (wrap64 (x5 + 32))) : Int).toNat).drop (x5 : Int).toNat : List (S37))).bind fun y502 => ((dragnetref13_body.f k y502 x4).bind fun t506 => (if 0 ≤ (wrap64 ((y502.length : Int) - 1)) then (if (wrap64 ((y502.length : Int) - 1)) < (y502.length : Int) then ((dragnetref02_Bytes.f k (IntKind.u64.wrap ((rd_T37 y502 (wrap64 ((y502.length : Int) - 1))).f0))).bind fun t510 => (if x3.length + t510.length < 140737488355328 then ((some (x3 ++ t510 : List Int)).bind fun y513 => ((dragnetref02_Row.f k t506).bind fun t516 => (if y513.length + t516.length < 140737488355328 then (dragnetref13_Bytes.l0 k x0 (y513 ++ t516) ((rd_T37 y502 (wrap64 ((y502.length : Int) - 1))).f0) (wrap64 (x5 + 32))) else (none)))) else (none))) else (none)) else (none)))) else (none)) else (none)) else (none)) else (some x3)
noncomputable def dragnetref13_Bytes.f (k : Nat) (l0 : List (S37)) : Option (List Int) := (dragnetref02_Bytes.f k (IntKind.u64.wrap ((l0.length : Int)))).bind fun t499 => (dragnetref13_Bytes.l0 k l0 t499 (-1) 0)
theorem dragnetref13_Bytes.mono_l : ∀ k, (∀ y0 y1 y2 y3, LeO (dragnetref13_Bytes.l0 k y0 y1 y2 y3) (dragnetref13_Bytes.l0 (k + 1) y0 y1 y2 y3))
 | 0 => fun _ _ _ _ r h => by simp [dragnetref13_Bytes.l0] at h
 | k + 1 => by
  have ih0 := dragnetref13_Bytes.mono_l k
  ·intro y0 y1 y2 y3
   unfold dragnetref13_Bytes.l0
   repeat' first
   | (with_reducible exact ih0 _ _ _ _)
   | (with_reducible exact dragnetref02_Bytes.mono _ _)
   | (with_reducible exact dragnetref02_Row.mono _ _)
   | (with_reducible exact dragnetref13_body.mono _ _ _)
   | (with_reducible exact LeO.refl _)
   | (with_reducible exact LeO.none _)
   | (with_reducible refine LeO.ite ?_ ?_)
   | (with_reducible refine LeO.bind ?_ (fun _ => ?_))
theorem dragnetref13_Bytes.mono : ∀ a0 k, LeO (dragnetref13_Bytes.f k a0) (dragnetref13_Bytes.f (k + 1) a0) := by
 intro a0 k
 have ih0 := dragnetref13_Bytes.mono_l k
 unfold dragnetref13_Bytes.f
 repeat' first
   | (with_reducible exact ih0 _ _ _ _)
   | (with_reducible exact dragnetref02_Bytes.mono _ _)
   | (with_reducible exact dragnetref02_Row.mono _ _)
   | (with_reducible exact dragnetref13_body.mono _ _ _)
   | (with_reducible exact LeO.refl _)
   | (with_reducible exact LeO.none _)
   | (with_reducible refine LeO.ite ?_ ?_)
   | (with_reducible refine LeO.bind ?_ (fun _ => ?_))
set_option maxHeartbeats 8000000 in
set_option maxRecDepth 100000 in
theorem dragnetref13_Bytes.calls (k : Nat) (A0 : Option Addr) (c0 : Nat) (l0 : List (S37)) (r : List Int) (w : World) (hr0 : Kd.C k37 w A0 l0.length l0) (hc0 : l0.length ≤ c0) (h : dragnetref13_Bytes.f k l0 = some r) :
  Calls Try.prog 18 #[.slice A0 l0.length c0] w fun e w' => ∃ v0_ : Value, e = .returned (v0_) ∧ Kd.R (Kd.int .u8) 5 w' w.heap.size (fun _ => True) v0_ r ∧ Below w.heap.size w w' := by
 have HR0 := Aside0.mk hr0
 have HC0 := Aside0.mk hc0
 clear hr0 hc0
 have HB := Aside0.mk (Below.refl w.heap.size w)
 have H : ((dragnetref02_Bytes.f k (IntKind.u64.wrap ((l0.length : Int)))).bind fun t499 => (dragnetref13_Bytes.l0 k l0 t499 (-1) 0)) = some r := h
 clear h
 replace H := Option.bind_eq_some_iff.mp H
 obtain ⟨t499, A20, H⟩ := H
 replace H : (dragnetref13_Bytes.l0 k l0 t499 (-1) 0) = some r := H
 have A2 := Aside0.mk A20
 clear A20
 have H' := Aside0.mk H
 clear H
 go_enter Try.func18, Try.ntmps18
 go_wp2_with (first | ((with_reducible refine gaC_ (f := 31) rfl ?_); refine goesL_ (some 11) rfl rfl Try.func31 (by kernel_rfl) rfl #[.int .u64 (IntKind.u64.wrap ((l0.length : Int)))] rfl (by (try simp only [List.map_toArray, List.map_cons, List.map_nil]); first | done | rfl | (simp only [List.length_drop, List.length_take]; rfl)) ?_; (with_reducible refine (dragnetref02_Bytes.calls k (IntKind.u64.wrap ((l0.length : Int))) t499 _ A2.out).mono ?_); rintro e w3 ⟨v500, rfl, ho0, hb⟩; refine ⟨_, rfl, ?_⟩; have HO501 := Aside0.mk (Kd.R_lower ho0 (pbS_ bw_)); replace HB := Aside0.mk (below_step bw_ hb); (try clear hb); (try clear hb2); (try clear hk); (try clear hi); (try clear ho0)))
 go_loopg [3, 4, 5] k (fun kq v3 v4 v5 w' => ∃ (x3_1 : List Int) (x4_1 : Int) (x5_1 : Int), v4 = .int .i64 x4_1 ∧ v5 = .int .i64 x5_1 ∧ Aside0 (dragnetref13_Bytes.l0 kq l0 x3_1 x4_1 x5_1 = some r) ∧ Aside0 (kq ≤ k) ∧ Aside0 (Kd.R (Kd.int .u8) 5 w' w.heap.size (fun _ => True) v3 x3_1) ∧ Aside0 (Below w.heap.size w w'))
 case atStart => exact ⟨(t499), ((-1)), (0), (by first | rfl | (simp; done) | (simp [*]; done)), (by first | rfl | (simp; done) | (simp [*]; done)), H', ⟨Nat.le_refl _⟩, ⟨Kd.ru_ HO501.out⟩, ⟨bw_⟩⟩
 case round =>
  clear H'
  obtain ⟨x3_1, x4_1, x5_1, rfl, rfl, HA, HK1, HO_3, HB⟩ := hrel
  cases gk with
  | zero => exact absurd HA.out (by simp [dragnetref13_Bytes.l0])
  | succ k1 =>
   have H := HA.out
   clear HA
   simp only [dragnetref13_Bytes.l0] at H
   by_cases c4 : x5_1 < (l0.length : Int)
   rotate_left
   ·rw [if_neg c4] at H
    have c4b0 : decide (x5_1 < (l0.length : Int)) = false := decide_eq_false c4
    clear c4
    obtain rfl := Option.some.inj H
    go_wp2
    go_ret
    exact ⟨_, rf_, by (with_reducible repeat (first | apply Kd.rA_ | apply Kd.rN_ | apply Kd.rD_)); exact HO_3.out, bw_⟩
   rw [if_pos c4] at H
   have c4b0 : decide (x5_1 < (l0.length : Int)) = true := decide_eq_true c4
   clear c4
   obtain ⟨ji5, hji5⟩ : ∃ j_ : Int, (mn (l0.length : Int) (wrap64 (x5_1 + 32))) = j_ := ⟨_, rfl⟩
   replace H : (if 0 ≤ x5_1 then (if x5_1 ≤ (ji5) then (if (ji5) ≤ (l0.length : Int) then ((some ((l0.take ((ji5) : Int).toNat).drop (x5_1 : Int).toNat : List (S37))).bind fun y502 => ((dragnetref13_body.f k1 y502 x4_1).bind fun t506 => (if 0 ≤ (wrap64 ((y502.length : Int) - 1)) then (if (wrap64 ((y502.length : Int) - 1)) < (y502.length : Int) then ((dragnetref02_Bytes.f k1 (IntKind.u64.wrap ((rd_T37 y502 (wrap64 ((y502.length : Int) - 1))).f0))).bind fun t510 => (if x3_1.length + t510.length < 140737488355328 then ((some (x3_1 ++ t510 : List Int)).bind fun y513 => ((dragnetref02_Row.f k1 t506).bind fun t516 => (if y513.length + t516.length < 140737488355328 then (dragnetref13_Bytes.l0 k1 l0 (y513 ++ t516) ((rd_T37 y502 (wrap64 ((y502.length : Int) - 1))).f0) (wrap64 (x5_1 + 32))) else (none)))) else (none))) else (none)) else (none)))) else (none)) else (none)) else (none)) = some r := by first | (rw [hji5] at H; exact H) | (simp only [hji5] at H ⊢; exact H)
   have hji5_ : (if (wrap64 (x5_1 + 32)) < (l0.length : Int) then (wrap64 (x5_1 + 32)) else (l0.length : Int)) = ji5 := hji5
   by_cases c6 : 0 ≤ x5_1
   rotate_left
   ·rw [if_neg c6] at H
    exact absurd H (by simp)
   rw [if_pos c6] at H
   have c6b0 := eq_true c6
   have c6b1 : decide (0 ≤ x5_1) = true := decide_eq_true c6
   clear c6
   by_cases c7 : x5_1 ≤ (ji5)
   rotate_left
   ·rw [if_neg c7] at H
    exact absurd H (by simp)
   rw [if_pos c7] at H
   have c7b0 := eq_true c7
   have c7b1 : decide (x5_1 ≤ (ji5)) = true := decide_eq_true c7
   clear c7
   by_cases c8 : (ji5) ≤ (l0.length : Int)
   rotate_left
   ·rw [if_neg c8] at H
    exact absurd H (by simp)
   rw [if_pos c8] at H
   have c8b0 := eq_true c8
   have c8b1 : decide ((ji5) ≤ (l0.length : Int)) = true := decide_eq_true c8
   clear c8
   obtain ⟨y502, hy502⟩ : ∃ y_ : List (S37), y_ = ((l0.take ((ji5) : Int).toNat).drop (x5_1 : Int).toNat) := ⟨_, rfl⟩
   replace H : ((dragnetref13_body.f k1 y502 x4_1).bind fun t506 => (if 0 ≤ (wrap64 ((y502.length : Int) - 1)) then (if (wrap64 ((y502.length : Int) - 1)) < (y502.length : Int) then ((dragnetref02_Bytes.f k1 (IntKind.u64.wrap ((rd_T37 y502 (wrap64 ((y502.length : Int) - 1))).f0))).bind fun t510 => (if x3_1.length + t510.length < 140737488355328 then ((some (x3_1 ++ t510 : List Int)).bind fun y513 => ((dragnetref02_Row.f k1 t506).bind fun t516 => (if y513.length + t516.length < 140737488355328 then (dragnetref13_Bytes.l0 k1 l0 (y513 ++ t516) ((rd_T37 y502 (wrap64 ((y502.length : Int) - 1))).f0) (wrap64 (x5_1 + 32))) else (none)))) else (none))) else (none)) else (none))) = some r := by first | (rw [hy502]; with_reducible exact H) | (have H2_ := (Option.bind_some _ _).symm.trans H; rw [hy502]; with_reducible exact H2_) | (have H2_ := (Option.bind_some _ _).symm.trans H; with_reducible exact H2_) | with_reducible exact H | (rw [hy502]; exact H) | exact H
   have Ny502 := Aside0.mk hy502
   clear hy502
   replace H := Option.bind_eq_some_iff.mp H
   obtain ⟨t506, A90, H⟩ := H
   replace H : (if 0 ≤ (wrap64 ((y502.length : Int) - 1)) then (if (wrap64 ((y502.length : Int) - 1)) < (y502.length : Int) then ((dragnetref02_Bytes.f k1 (IntKind.u64.wrap ((rd_T37 y502 (wrap64 ((y502.length : Int) - 1))).f0))).bind fun t510 => (if x3_1.length + t510.length < 140737488355328 then ((some (x3_1 ++ t510 : List Int)).bind fun y513 => ((dragnetref02_Row.f k1 t506).bind fun t516 => (if y513.length + t516.length < 140737488355328 then (dragnetref13_Bytes.l0 k1 l0 (y513 ++ t516) ((rd_T37 y502 (wrap64 ((y502.length : Int) - 1))).f0) (wrap64 (x5_1 + 32))) else (none)))) else (none))) else (none)) else (none)) = some r := H
   have A9 := Aside0.mk A90
   clear A90
   obtain ⟨ji10, hji10⟩ : ∃ j_ : Int, (wrap64 ((y502.length : Int) - 1)) = j_ := ⟨_, rfl⟩
   replace H : (if 0 ≤ (ji10) then (if (ji10) < (y502.length : Int) then ((dragnetref02_Bytes.f k1 (IntKind.u64.wrap ((rd_T37 y502 (ji10)).f0))).bind fun t510 => (if x3_1.length + t510.length < 140737488355328 then ((some (x3_1 ++ t510 : List Int)).bind fun y513 => ((dragnetref02_Row.f k1 t506).bind fun t516 => (if y513.length + t516.length < 140737488355328 then (dragnetref13_Bytes.l0 k1 l0 (y513 ++ t516) ((rd_T37 y502 (ji10)).f0) (wrap64 (x5_1 + 32))) else (none)))) else (none))) else (none)) else (none)) = some r := by first | (rw [hji10] at H; exact H) | (simp only [hji10] at H ⊢; exact H)
   have hji10w : (IntKind.i64.wrap ((y502.length : Int) - 1)) = ji10 := (i64_w _).trans hji10
   by_cases c11 : 0 ≤ (ji10)
   rotate_left
   ·rw [if_neg c11] at H
    exact absurd H (by simp)
   rw [if_pos c11] at H
   have c11b0 : decide (0 ≤ (ji10)) = true := decide_eq_true c11
   clear c11
   by_cases c12 : (ji10) < (y502.length : Int)
   rotate_left
   ·rw [if_neg c12] at H
    exact absurd H (by simp)
   rw [if_pos c12] at H
   have c12b0 : decide ((ji10) < (y502.length : Int)) = true := decide_eq_true c12
   clear c12
   replace H := Option.bind_eq_some_iff.mp H
   obtain ⟨t510, A130, H⟩ := H
   replace H : (if x3_1.length + t510.length < 140737488355328 then ((some (x3_1 ++ t510 : List Int)).bind fun y513 => ((dragnetref02_Row.f k1 t506).bind fun t516 => (if y513.length + t516.length < 140737488355328 then (dragnetref13_Bytes.l0 k1 l0 (y513 ++ t516) ((rd_T37 y502 (ji10)).f0) (wrap64 (x5_1 + 32))) else (none)))) else (none)) = some r := H
   have A13 := Aside0.mk A130
   clear A130
   by_cases c14 : x3_1.length + t510.length < 140737488355328
   rotate_left
   ·rw [if_neg c14] at H
    exact absurd H (by simp)
   rw [if_pos c14] at H
   have LMc14 := Aside0.mk c14
   clear c14
   obtain ⟨y513, hy513⟩ : ∃ y_ : List Int, y_ = (x3_1 ++ t510) := ⟨_, rfl⟩
   replace H : ((dragnetref02_Row.f k1 t506).bind fun t516 => (if y513.length + t516.length < 140737488355328 then (dragnetref13_Bytes.l0 k1 l0 (y513 ++ t516) ((rd_T37 y502 (ji10)).f0) (wrap64 (x5_1 + 32))) else (none))) = some r := by first | (rw [hy513]; with_reducible exact H) | (have H2_ := (Option.bind_some _ _).symm.trans H; rw [hy513]; with_reducible exact H2_) | (have H2_ := (Option.bind_some _ _).symm.trans H; with_reducible exact H2_) | with_reducible exact H | (rw [hy513]; exact H) | exact H
   have Ny513 := Aside0.mk hy513
   clear hy513
   replace H := Option.bind_eq_some_iff.mp H
   obtain ⟨t516, A150, H⟩ := H
   replace H : (if y513.length + t516.length < 140737488355328 then (dragnetref13_Bytes.l0 k1 l0 (y513 ++ t516) ((rd_T37 y502 (ji10)).f0) (wrap64 (x5_1 + 32))) else (none)) = some r := H
   have A15 := Aside0.mk A150
   clear A150
   by_cases c16 : y513.length + t516.length < 140737488355328
   rotate_left
   ·rw [if_neg c16] at H
    exact absurd H (by simp)
   rw [if_pos c16] at H
   have LMc16 := Aside0.mk c16
   clear c16
   obtain ⟨y519, hy519⟩ : ∃ y_ : List Int, y_ = (y513 ++ t516) := ⟨_, rfl⟩
   replace H : (dragnetref13_Bytes.l0 k1 l0 y519 ((rd_T37 y502 (ji10)).f0) (wrap64 (x5_1 + 32))) = some r := by first | (rw [hy519]; with_reducible exact H) | (have H2_ := (Option.bind_some _ _).symm.trans H; rw [hy519]; with_reducible exact H2_) | (have H2_ := (Option.bind_some _ _).symm.trans H; with_reducible exact H2_) | with_reducible exact H | (rw [hy519]; exact H) | exact H
   have Ny519 := Aside0.mk hy519
   clear hy519
   have H' := Aside0.mk H
   clear H
   have q17 : ((ji5) : Int) ≤ ((l0.length : Int) : Int) := od_
   obtain ⟨i017, hi017, _, hsz17, _⟩ := info_parts info37
   have hroom17 : l0.length ≤ c0 := HC0.out
   have hC17 : Kd.C k37 _ A0 l0.length l0 := HR0.out
   have ql17 : (x5_1 : Int) ≤ ((ji5) : Int) := od_
   have q017 : (0 : Int) ≤ (x5_1 : Int) := od_
   have hcut17 := cut_mid (P := Try.prog) 23 37 .i64 .i64 Try.underlying23 hi017 2 hsz17 A0 l0.length c0 x5_1 (ji5) q017 ql17 q17 hroom17
   have hr17 := Kd.C_mid (lo := (x5_1 : Int).toNat) (hi := ((ji5) : Int).toNat) (c := c0) hC17 (by omega) (by omega) hroom17
   obtain ⟨A17, hA17⟩ : ∃ A1, A1 = (if c0 = (x5_1 : Int).toNat then A0 else (A0 : Option Addr).map (·.add ((x5_1 : Int).toNat * 2))) := ⟨_, rfl⟩
   obtain ⟨c17, hc17⟩ : ∃ c1, c1 = c0 - (x5_1 : Int).toNat := ⟨_, rfl⟩
   have hy17 : y502.length = ((ji5) : Int).toNat - (x5_1 : Int).toNat := (by rw [Ny502.out, List.length_drop, List.length_take] <;> omega)
   rw [show ((l0).take ((ji5) : Int).toNat).drop (x5_1 : Int).toNat = y502 from Ny502.out.symm] at hr17
   replace hr17 : Kd.C k37 _ A17 y502.length y502 := (by rw [hA17]; exact hr17)
   rw [← hy17, ← hA17, ← hc17] at hcut17
   have HR505 := Aside0.mk hr17
   have HC505 := Aside0.mk (show y502.length ≤ c17 from by rw [hy17, hc17]; exact Nat.sub_le_sub_right (Nat.le_trans (by omega) hroom17) _)
   clear hr17 hC17 hroom17 hi017 hsz17 hc17
   have KY17 := Aside0.mk hy17
   have KA17 := Aside0.mk hA17
   clear hy17 hA17
   replace q17 := eq_true q17
   go_wp2_with (first | ((with_reducible refine gaC_ (f := 32) rfl ?_); refine goesL_ (some 28) rfl rfl Try.func32 (by kernel_rfl) rfl #[.slice A17 y502.length c17, .int .i64 x4_1] rfl (by (try simp only [List.map_toArray, List.map_cons, List.map_nil]); first | done | rfl | (simp only [List.length_drop, List.length_take]; rfl)) ?_; (with_reducible refine (dragnetref13_body.calls k1 _ _ y502 x4_1 t506 _ ?side1 ?side2 A9.out).mono ?_); (case side1 => exact Kd.cu_ (Kd.C_below HR505.out HB.out)); (case side2 => exact HC505.out); rintro e w18 ⟨v507, rfl, ho0, hb⟩; refine ⟨_, rfl, ?_⟩; have n0_ := Aside0.mk (Kd.R_elder' (Kd.ru_ HO_3.out) (Kd.R_base ho0) hb); have n1_ := Aside0.mk (Kd.R_lower (Kd.R_new' ho0 (Kd.R_lt (Kd.ru_ HO_3.out))) (pbS_ bw_)); have n2_ := Aside0.mk (below_step bw_ hb); clear HO_3; clear HB; have HO_3 := n0_; have HO508 := n1_; have HB := n2_; clear n0_ n1_ n2_; (try clear hb); (try clear hb2); (try clear hk); (try clear hi); (try clear ho0); have p509 : 0 ≤ ((ji10) : Int) := od_; have q509 : (ji10) < (y502.length : Int) := od_; obtain ⟨ad509, A509_1, c509_1, e509, hx509_0, hx509_1, hl509_1, hi509_1⟩ := at_T37 HR505.out (ji10) p509 q509; cases e509; replace hx509_0 := (HB.out.cell (World.block_lt_of_cell? w _ hx509_0)).trans hx509_0; replace hx509_1 := (HB.out.cell (World.block_lt_of_cell? w _ hx509_1)).trans hx509_1; have HR509_1 := Aside0.mk hi509_1; have HC509_1 := Aside0.mk hl509_1; clear hi509_1 hl509_1; replace p509 := eq_true p509; replace q509 := eq_true q509) | ((with_reducible refine gaC_ (f := 31) rfl ?_); refine goesL_ (some 39) rfl rfl Try.func31 (by kernel_rfl) rfl #[.int .u64 (IntKind.u64.wrap ((rd_T37 y502 (ji10)).f0))] rfl (by (try simp only [List.map_toArray, List.map_cons, List.map_nil]); first | done | (simp only [hji10]; rfl) | rfl | (simp only [List.length_drop, List.length_take]; rfl)) ?_; (with_reducible refine (dragnetref02_Bytes.calls k1 (IntKind.u64.wrap ((rd_T37 y502 (ji10)).f0)) t510 _ A13.out).mono ?_); rintro e w19 ⟨v511, rfl, ho0, hb⟩; refine ⟨_, rfl, ?_⟩; have n0_ := Aside0.mk (Kd.R_elder' (Kd.ru_ HO_3.out) (Kd.R_base ho0) hb); have n1_ := Aside0.mk (Kd.R_elder' (Kd.ru_ HO508.out) (Kd.R_base ho0) hb); have n2_ := Aside0.mk (Kd.R_lower (Kd.R_new' (Kd.R_new' ho0 (Kd.R_lt (Kd.ru_ HO_3.out))) (Kd.R_lt (Kd.ru_ HO508.out))) (pbS_ bw_)); have n3_ := Aside0.mk (below_step bw_ hb); clear HO_3; clear HO508; clear HB; have HO_3 := n0_; have HO508 := n1_; have HO512 := n2_; have HB := n3_; clear n0_ n1_ n2_ n3_; (try clear hb); (try clear hb2); (try clear hk); (try clear hi); (try clear ho0); obtain ⟨Ao21, co21, eo21⟩ := Kd.R_slice HO512.out; subst eo21) | ((with_reducible refine gate_builtin (b := .append) (xs := #[.tmp 36, .tmp 39]) rfl ?_); at_builtin; refine Kd.R_append_rows (Kd.int .u8) (w0 := w) w.heap.size rfl (.tmp 36) (.tmp 39) 22 5 (.int .u8 0) 1 rfl Try.underlying22 info5 rfl (by decide) (by omega) u3 x3_1 t510 _ _ _ (fun k_ => some k_ ≠ (v507 : Value).ownBlock ∧ some k_ ≠ (.slice Ao21 t510.length co21 : Value).ownBlock) (fun _ => False) rfl rfl ?aO ?aR (fun _ _ h => h) (fun _ h => h.elim) ?aF ?aB ?aS ?aL ?_; (case aR => exact Kd.cu_ (Kd.R_reads' HO512.out).2.2); (case aB => exact bw_); (case aF => exact (fun k_ hk => ⟨Kd.fresh' (Kd.R_lt (Kd.ru_ HO508.out)) k_ hk, Kd.fresh' (Kd.R_lt (Kd.ru_ HO512.out)) k_ hk⟩)); (case aO => exact (by (with_reducible repeat (first | apply Kd.rA_ | apply Kd.rN_ | apply Kd.rD_)); exact Kd.R_mono HO_3.out (fun _ hk => ⟨hk.1.2, hk.2⟩))); (case aS => exact (pbS_ bw_)); (case aL => have := LMc14.out; omega); intro v514 w20 ho hb hg hat; rw [← Ny513.out] at ho; have n0_ := Aside0.mk (Kd.R_after (ok := (fun k_ => some k_ ≠ (.slice Ao21 t510.length co21 : Value).ownBlock)) (by (with_reducible repeat (first | apply Kd.rA_ | apply Kd.rN_ | apply Kd.rD_)); exact Kd.R_mono HO508.out (fun _ hk => ⟨hk.2, hk.1.2⟩)) hg hat); have n1_ := Aside0.mk (Kd.R_after (ok := (fun k_ => some k_ ≠ (v507 : Value).ownBlock)) (by (with_reducible repeat (first | apply Kd.rA_ | apply Kd.rN_ | apply Kd.rD_)); exact Kd.R_mono HO512.out (fun _ hk => ⟨hk.2, hk.1.2⟩)) hg hat); have n2_ := Aside0.mk (hb); have n3_ := Aside0.mk (ho); clear HO508; clear HO512; clear HB; clear HO_3; have HO508 := n0_; have HO512 := n1_; have HB := n2_; have HO515 := n3_; clear n0_ n1_ n2_ n3_; clear ho hb hg hat; obtain ⟨Ao22, co22, eo22⟩ := Kd.R_slice HO508.out; subst eo22) | ((with_reducible refine gaC_ (f := 33) rfl ?_); refine goesL_ (some 42) rfl rfl Try.func33 (by kernel_rfl) rfl #[.slice Ao22 t506.length co22] rfl (by (try simp only [List.map_toArray, List.map_cons, List.map_nil]); first | done | rfl | (simp only [List.length_drop, List.length_take]; rfl)) ?_; (with_reducible refine (dragnetref02_Row.calls k1 _ _ t506 t516 _ ?side1 ?side2 A15.out).mono ?_); (case side1 => exact Kd.cu_ (Kd.R_reads' HO508.out).2.2); (case side2 => exact (Kd.R_reads' HO508.out).2.1); rintro e w23 ⟨v517, rfl, ho0, hb⟩; refine ⟨_, rfl, ?_⟩; have n0_ := Aside0.mk (Kd.R_elder' (Kd.ru_ HO508.out) (Kd.R_base ho0) hb); have n1_ := Aside0.mk (Kd.R_elder' (Kd.ru_ HO512.out) (Kd.R_base ho0) hb); have n2_ := Aside0.mk (Kd.R_elder' (Kd.ru_ HO515.out) (Kd.R_base ho0) hb); have n3_ := Aside0.mk (Kd.R_lower (Kd.R_new' (Kd.R_new' (Kd.R_new' ho0 (Kd.R_lt (Kd.ru_ HO508.out))) (Kd.R_lt (Kd.ru_ HO512.out))) (Kd.R_lt (Kd.ru_ HO515.out))) (pbS_ bw_)); have n4_ := Aside0.mk (below_step bw_ hb); clear HO508; clear HO512; clear HO515; clear HB; have HO508 := n0_; have HO512 := n1_; have HO515 := n2_; have HO518 := n3_; have HB := n4_; clear n0_ n1_ n2_ n3_ n4_; (try clear hb); (try clear hb2); (try clear hk); (try clear hi); (try clear ho0); obtain ⟨Ao25, co25, eo25⟩ := Kd.R_slice HO518.out; subst eo25) | ((with_reducible refine gate_builtin (b := .append) (xs := #[.tmp 40, .tmp 42]) rfl ?_); at_builtin; refine Kd.R_append_rows (Kd.int .u8) (w0 := w) w.heap.size rfl (.tmp 40) (.tmp 42) 22 5 (.int .u8 0) 1 rfl Try.underlying22 info5 rfl (by decide) (by omega) v514 y513 t516 _ _ _ (fun k_ => some k_ ≠ (.slice Ao22 t506.length co22 : Value).ownBlock ∧ some k_ ≠ (.slice Ao21 t510.length co21 : Value).ownBlock ∧ some k_ ≠ (.slice Ao25 t516.length co25 : Value).ownBlock) (fun _ => False) rfl rfl ?aO ?aR (fun _ _ h => h) (fun _ h => h.elim) ?aF ?aB ?aS ?aL ?_; (case aR => exact Kd.cu_ (Kd.R_reads' HO518.out).2.2); (case aB => exact bw_); (case aF => exact (fun k_ hk => ⟨Kd.fresh' (Kd.R_lt (Kd.ru_ HO508.out)) k_ hk, Kd.fresh' (Kd.R_lt (Kd.ru_ HO512.out)) k_ hk, Kd.fresh' (Kd.R_lt (Kd.ru_ HO518.out)) k_ hk⟩)); (case aO => exact (by (with_reducible repeat (first | apply Kd.rA_ | apply Kd.rN_ | apply Kd.rD_)); exact Kd.R_mono HO515.out (fun _ hk => ⟨hk.1.1, ⟨hk.1.2, hk.2⟩⟩))); (case aS => exact (pbS_ bw_)); (case aL => have := LMc16.out; omega); intro v520 w24 ho hb hg hat; rw [← Ny519.out] at ho; have n0_ := Aside0.mk (Kd.R_after (ok := (fun k_ => some k_ ≠ (.slice Ao21 t510.length co21 : Value).ownBlock ∧ some k_ ≠ (.slice Ao25 t516.length co25 : Value).ownBlock)) (by (with_reducible repeat (first | apply Kd.rA_ | apply Kd.rN_ | apply Kd.rD_)); exact Kd.R_mono HO508.out (fun _ hk => ⟨⟨hk.1.1, hk.2⟩, hk.1.2⟩)) hg hat); have n1_ := Aside0.mk (Kd.R_after (ok := (fun k_ => some k_ ≠ (.slice Ao22 t506.length co22 : Value).ownBlock ∧ some k_ ≠ (.slice Ao25 t516.length co25 : Value).ownBlock)) (by (with_reducible repeat (first | apply Kd.rA_ | apply Kd.rN_ | apply Kd.rD_)); exact Kd.R_mono HO512.out (fun _ hk => ⟨⟨hk.1.1, hk.2⟩, hk.1.2⟩)) hg hat); have n2_ := Aside0.mk (Kd.R_after (ok := (fun k_ => some k_ ≠ (.slice Ao22 t506.length co22 : Value).ownBlock ∧ some k_ ≠ (.slice Ao21 t510.length co21 : Value).ownBlock)) (by (with_reducible repeat (first | apply Kd.rA_ | apply Kd.rN_ | apply Kd.rD_)); exact Kd.R_mono HO518.out (fun _ hk => ⟨⟨hk.1.1.2, hk.1.2⟩, hk.2⟩)) hg hat); have n3_ := Aside0.mk (hb); have n4_ := Aside0.mk (ho); clear HO508; clear HO512; clear HO518; clear HB; clear HO515; have HO508 := n0_; have HO512 := n1_; have HO518 := n2_; have HB := n3_; have HO521 := n4_; clear n0_ n1_ n2_ n3_ n4_; clear ho hb hg hat))
   subst hji10 hji5
   go_roundg k1
   case measure => have := HK1.out; omega
   case rel => exact ⟨(y519), ((rd_T37 y502 ((wrap64 ((y502.length : Int) - 1)))).f0), (wrap64 (x5_1 + 32)), (by first | rfl | (simp; done) | (simp only [← hji10] <;> (first | rfl | simp)) | (simp [*]; done)), (by first | rfl | (simp; done) | (simp [*]; done)), H', ⟨by have := HK1.out; omega⟩, ⟨by (with_reducible repeat (first | apply Kd.rA_ | apply Kd.rN_ | apply Kd.rD_)); exact Kd.R_mono HO521.out (fun _ hk => trivial)⟩, ⟨bw_⟩⟩
noncomputable def dragnetlaw13_PostPuts.j0 : Nat → List (S37) → List Int → List Int → Int → Bool → Option (Bool)
 | 0, _, _, _, _, _ => none
 | k + 1, x1, x5, x7, x8, x39 => if x39 = true then (some false) else ((dragnetref13_Formed.f k x1).bind fun t538 => (if t538 = true then (if x8 = 0 then ((dragnetref13_Bytes.f k x1).bind fun t539 => (if x5.length + t539.length < 140737488355328 then ((dragnetref01_Same.f x7 (x5 ++ t539)).bind fun t545 => (some t545)) else (none))) else (some false)) else (if x8 = 1 then (some ((x7.length : Int) == 0)) else (some false))))
noncomputable def dragnetlaw13_PostPuts.f (k : Nat) (l0 : List Int) (l1 : List (S37)) : Option (Bool) := (dragnetlaw13_alive.f k).bind fun t522 => (if t522 = true then ((dragnetlaw13_great.f k l1).bind fun t523 => (if t523 = true then (some true) else ((dragnetref01_Copy.f l0).bind fun t524 => ((dragnetref13_Copy.f k l1).bind fun t527 => ((post_Put.f k t524 t527).bind fun bt530 => ((dragnetref01_Same.f t524 l0).bind fun t534 => (if t534 = true then ((dragnetref13_Same.f k t527 l1).bind fun t535 => (if t535 = true then ((post_Formed.f k l1).bind fun t536 => ((dragnetref13_Formed.f k l1).bind fun t537 => (dragnetlaw13_PostPuts.j0 k l1 t524 bt530.1 bt530.2 (t536 != t537)))) else (dragnetlaw13_PostPuts.j0 k l1 t524 bt530.1 bt530.2 true))) else (dragnetlaw13_PostPuts.j0 k l1 t524 bt530.1 bt530.2 true)))))))) else (some false))
theorem dragnetlaw13_PostPuts.mono_l : ∀ k, (∀ y0 y1 y2 y3 y4, LeO (dragnetlaw13_PostPuts.j0 k y0 y1 y2 y3 y4) (dragnetlaw13_PostPuts.j0 (k + 1) y0 y1 y2 y3 y4))
 | 0 => fun _ _ _ _ _ r h => by simp [dragnetlaw13_PostPuts.j0] at h
 | k + 1 => by
  have ih0 := dragnetlaw13_PostPuts.mono_l k
  ·intro y0 y1 y2 y3 y4
   unfold dragnetlaw13_PostPuts.j0
   repeat' first
   | (with_reducible exact ih0 _ _ _ _ _)
   | (with_reducible exact dragnetlaw13_alive.mono _)
   | (with_reducible exact dragnetlaw13_great.mono _ _)
   | (with_reducible exact dragnetref13_Bytes.mono _ _)
   | (with_reducible exact dragnetref13_Copy.mono _ _)
   | (with_reducible exact dragnetref13_Formed.mono _ _)
   | (with_reducible exact dragnetref13_Same.mono _ _ _)
   | (with_reducible exact post_Formed.mono _ _)
   | (with_reducible exact post_Put.mono _ _ _)
   | (with_reducible exact LeO.refl _)
   | (with_reducible exact LeO.none _)
   | (with_reducible refine LeO.ite ?_ ?_)
   | (with_reducible refine LeO.bind ?_ (fun _ => ?_))
theorem dragnetlaw13_PostPuts.mono : ∀ a0 a1 k, LeO (dragnetlaw13_PostPuts.f k a0 a1) (dragnetlaw13_PostPuts.f (k + 1) a0 a1) := by
 intro a0 a1 k
 have ih0 := dragnetlaw13_PostPuts.mono_l k
 unfold dragnetlaw13_PostPuts.f
 repeat' first
   | (with_reducible exact ih0 _ _ _ _ _)
   | (with_reducible exact dragnetlaw13_alive.mono _)
   | (with_reducible exact dragnetlaw13_great.mono _ _)
   | (with_reducible exact dragnetref13_Bytes.mono _ _)
   | (with_reducible exact dragnetref13_Copy.mono _ _)
   | (with_reducible exact dragnetref13_Formed.mono _ _)
   | (with_reducible exact dragnetref13_Same.mono _ _ _)
   | (with_reducible exact post_Formed.mono _ _)
   | (with_reducible exact post_Put.mono _ _ _)
   | (with_reducible exact LeO.refl _)
   | (with_reducible exact LeO.none _)
   | (with_reducible refine LeO.ite ?_ ?_)
   | (with_reducible refine LeO.bind ?_ (fun _ => ?_))
set_option maxHeartbeats 8000000 in
set_option maxRecDepth 100000 in
theorem dragnetlaw13_PostPuts.calls (k : Nat) (A0 : Option Addr) (c0 : Nat) (l0 : List Int) (A1 : Option Addr) (c1 : Nat) (l1 : List (S37)) (r : Bool) (w : World) (hr0 : Kd.C (Kd.int .u8) w A0 l0.length l0) (hc0 : l0.length ≤ c0) (hr1 : Kd.C k37 w A1 l1.length l1) (hc1 : l1.length ≤ c1) (h : dragnetlaw13_PostPuts.f k l0 l1 = some r) (hr_ : Aside0 (r = true)) :
  Calls Try.prog 3 #[.slice A0 l0.length c0, .slice A1 l1.length c1] w fun e w' => e = .returned (.bool r) ∧ Below w.heap.size w w' := by
 have HR0 := Aside0.mk hr0
 have HC0 := Aside0.mk hc0
 clear hr0 hc0
 have HR1 := Aside0.mk hr1
 have HC1 := Aside0.mk hc1
 clear hr1 hc1
 have HB := Aside0.mk (Below.refl w.heap.size w)
 have H : ((dragnetlaw13_alive.f k).bind fun t522 => (if t522 = true then ((dragnetlaw13_great.f k l1).bind fun t523 => (if t523 = true then (some true) else ((dragnetref01_Copy.f l0).bind fun t524 => ((dragnetref13_Copy.f k l1).bind fun t527 => ((post_Put.f k t524 t527).bind fun bt530 => ((dragnetref01_Same.f t524 l0).bind fun t534 => (if t534 = true then ((dragnetref13_Same.f k t527 l1).bind fun t535 => (if t535 = true then ((post_Formed.f k l1).bind fun t536 => ((dragnetref13_Formed.f k l1).bind fun t537 => (dragnetlaw13_PostPuts.j0 k l1 t524 bt530.1 bt530.2 (t536 != t537)))) else (dragnetlaw13_PostPuts.j0 k l1 t524 bt530.1 bt530.2 true))) else (dragnetlaw13_PostPuts.j0 k l1 t524 bt530.1 bt530.2 true)))))))) else (some false))) = some r := h
 clear h
 replace H := Option.bind_eq_some_iff.mp H
 obtain ⟨t522, A30, H⟩ := H
 replace H : (if t522 = true then ((dragnetlaw13_great.f k l1).bind fun t523 => (if t523 = true then (some true) else ((dragnetref01_Copy.f l0).bind fun t524 => ((dragnetref13_Copy.f k l1).bind fun t527 => ((post_Put.f k t524 t527).bind fun bt530 => ((dragnetref01_Same.f t524 l0).bind fun t534 => (if t534 = true then ((dragnetref13_Same.f k t527 l1).bind fun t535 => (if t535 = true then ((post_Formed.f k l1).bind fun t536 => ((dragnetref13_Formed.f k l1).bind fun t537 => (dragnetlaw13_PostPuts.j0 k l1 t524 bt530.1 bt530.2 (t536 != t537)))) else (dragnetlaw13_PostPuts.j0 k l1 t524 bt530.1 bt530.2 true))) else (dragnetlaw13_PostPuts.j0 k l1 t524 bt530.1 bt530.2 true)))))))) else (some false)) = some r := H
 have A3 := Aside0.mk A30
 clear A30
 by_cases c4 : t522 = true
 rotate_left
 ·replace c4 := Bool.eq_false_iff.mpr c4
  subst c4
  have H1 : (some false) = some r := by rw [if_neg (show ¬ (false = true) by decide)] at H; exact H
  clear H
  have H := H1
  clear H1
  obtain rfl := Option.some.inj H
  cases hr_.out
 subst c4
 have H1 : ((dragnetlaw13_great.f k l1).bind fun t523 => (if t523 = true then (some true) else ((dragnetref01_Copy.f l0).bind fun t524 => ((dragnetref13_Copy.f k l1).bind fun t527 => ((post_Put.f k t524 t527).bind fun bt530 => ((dragnetref01_Same.f t524 l0).bind fun t534 => (if t534 = true then ((dragnetref13_Same.f k t527 l1).bind fun t535 => (if t535 = true then ((post_Formed.f k l1).bind fun t536 => ((dragnetref13_Formed.f k l1).bind fun t537 => (dragnetlaw13_PostPuts.j0 k l1 t524 bt530.1 bt530.2 (t536 != t537)))) else (dragnetlaw13_PostPuts.j0 k l1 t524 bt530.1 bt530.2 true))) else (dragnetlaw13_PostPuts.j0 k l1 t524 bt530.1 bt530.2 true)))))))) = some r := by rw [if_pos rfl] at H; exact H
 clear H
 have H := H1
 clear H1
 replace H := Option.bind_eq_some_iff.mp H
 obtain ⟨t523, A50, H⟩ := H
 replace H : (if t523 = true then (some true) else ((dragnetref01_Copy.f l0).bind fun t524 => ((dragnetref13_Copy.f k l1).bind fun t527 => ((post_Put.f k t524 t527).bind fun bt530 => ((dragnetref01_Same.f t524 l0).bind fun t534 => (if t534 = true then ((dragnetref13_Same.f k t527 l1).bind fun t535 => (if t535 = true then ((post_Formed.f k l1).bind fun t536 => ((dragnetref13_Formed.f k l1).bind fun t537 => (dragnetlaw13_PostPuts.j0 k l1 t524 bt530.1 bt530.2 (t536 != t537)))) else (dragnetlaw13_PostPuts.j0 k l1 t524 bt530.1 bt530.2 true))) else (dragnetlaw13_PostPuts.j0 k l1 t524 bt530.1 bt530.2 true))))))) = some r := H
 have A5 := Aside0.mk A50
 clear A50
 by_cases c6 : t523 = true
 ·subst c6
  have H1 : (some true) = some r := by rw [if_pos rfl] at H; exact H
  clear H
  have H := H1
  clear H1
  obtain rfl := Option.some.inj H
  go_enter Try.func3, Try.ntmps3
  go_wp2_with (first | ((with_reducible refine gaC_ (f := 9) rfl ?_); refine goesL_ (some 9) rfl rfl Try.func9 (by kernel_rfl) rfl #[] rfl (by (try simp only [List.map_toArray, List.map_cons, List.map_nil]); first | done | rfl | (simp only [List.length_drop, List.length_take]; rfl)) ?_; (with_reducible refine (dragnetlaw13_alive.calls k  true _ A3.out ⟨rfl⟩).mono ?_); rintro e w7 ⟨rfl, hb⟩; refine ⟨_, rfl, ?_⟩; replace HB := Aside0.mk (below_step bw_ hb); (try clear hb); (try clear hb2); (try clear hk); (try clear hi)) | ((with_reducible refine gaC_ (f := 10) rfl ?_); refine goesL_ (some 12) rfl rfl Try.func10 (by kernel_rfl) rfl #[.slice A1 l1.length c1] rfl (by (try simp only [List.map_toArray, List.map_cons, List.map_nil]); first | done | rfl | (simp only [List.length_drop, List.length_take]; rfl)) ?_; (with_reducible refine (dragnetlaw13_great.calls k _ _ l1 true _ ?side1 ?side2 A5.out).mono ?_); (case side1 => exact Kd.cu_ (Kd.C_below HR1.out HB.out)); (case side2 => exact HC1.out); rintro e w' ⟨rfl, ⟨nd, rfl⟩⟩; refine ⟨_, rfl, ?_⟩))
  go_ret
  exact ⟨rf_, bw_⟩
 ·replace c6 := Bool.eq_false_iff.mpr c6
  subst c6
  have H1 : ((dragnetref01_Copy.f l0).bind fun t524 => ((dragnetref13_Copy.f k l1).bind fun t527 => ((post_Put.f k t524 t527).bind fun bt530 => ((dragnetref01_Same.f t524 l0).bind fun t534 => (if t534 = true then ((dragnetref13_Same.f k t527 l1).bind fun t535 => (if t535 = true then ((post_Formed.f k l1).bind fun t536 => ((dragnetref13_Formed.f k l1).bind fun t537 => (dragnetlaw13_PostPuts.j0 k l1 t524 bt530.1 bt530.2 (t536 != t537)))) else (dragnetlaw13_PostPuts.j0 k l1 t524 bt530.1 bt530.2 true))) else (dragnetlaw13_PostPuts.j0 k l1 t524 bt530.1 bt530.2 true)))))) = some r := by rw [if_neg (show ¬ (false = true) by decide)] at H; exact H
  clear H
  have H := H1
  clear H1
  replace H := Option.bind_eq_some_iff.mp H
  obtain ⟨t524, A80, H⟩ := H
  replace H : ((dragnetref13_Copy.f k l1).bind fun t527 => ((post_Put.f k t524 t527).bind fun bt530 => ((dragnetref01_Same.f t524 l0).bind fun t534 => (if t534 = true then ((dragnetref13_Same.f k t527 l1).bind fun t535 => (if t535 = true then ((post_Formed.f k l1).bind fun t536 => ((dragnetref13_Formed.f k l1).bind fun t537 => (dragnetlaw13_PostPuts.j0 k l1 t524 bt530.1 bt530.2 (t536 != t537)))) else (dragnetlaw13_PostPuts.j0 k l1 t524 bt530.1 bt530.2 true))) else (dragnetlaw13_PostPuts.j0 k l1 t524 bt530.1 bt530.2 true))))) = some r := H
  have A8 := Aside0.mk A80
  clear A80
  replace H := Option.bind_eq_some_iff.mp H
  obtain ⟨t527, A90, H⟩ := H
  replace H : ((post_Put.f k t524 t527).bind fun bt530 => ((dragnetref01_Same.f t524 l0).bind fun t534 => (if t534 = true then ((dragnetref13_Same.f k t527 l1).bind fun t535 => (if t535 = true then ((post_Formed.f k l1).bind fun t536 => ((dragnetref13_Formed.f k l1).bind fun t537 => (dragnetlaw13_PostPuts.j0 k l1 t524 bt530.1 bt530.2 (t536 != t537)))) else (dragnetlaw13_PostPuts.j0 k l1 t524 bt530.1 bt530.2 true))) else (dragnetlaw13_PostPuts.j0 k l1 t524 bt530.1 bt530.2 true)))) = some r := H
  have A9 := Aside0.mk A90
  clear A90
  replace H := Option.bind_eq_some_iff.mp H
  obtain ⟨⟨t530, t531⟩, A100, H⟩ := H
  replace H : ((dragnetref01_Same.f t524 l0).bind fun t534 => (if t534 = true then ((dragnetref13_Same.f k t527 l1).bind fun t535 => (if t535 = true then ((post_Formed.f k l1).bind fun t536 => ((dragnetref13_Formed.f k l1).bind fun t537 => (dragnetlaw13_PostPuts.j0 k l1 t524 t530 t531 (t536 != t537)))) else (dragnetlaw13_PostPuts.j0 k l1 t524 t530 t531 true))) else (dragnetlaw13_PostPuts.j0 k l1 t524 t530 t531 true))) = some r := H
  have A10 := Aside0.mk A100
  clear A100
  have HC11 := Aside0.mk H
  clear H
  go_enter Try.func3, Try.ntmps3
  go_upto_region 7 with (first | ((with_reducible refine gaC_ (f := 9) rfl ?_); refine goesL_ (some 9) rfl rfl Try.func9 (by kernel_rfl) rfl #[] rfl (by (try simp only [List.map_toArray, List.map_cons, List.map_nil]); first | done | rfl | (simp only [List.length_drop, List.length_take]; rfl)) ?_; (with_reducible refine (dragnetlaw13_alive.calls k  true _ A3.out ⟨rfl⟩).mono ?_); rintro e w12 ⟨rfl, hb⟩; refine ⟨_, rfl, ?_⟩; replace HB := Aside0.mk (below_step bw_ hb); (try clear hb); (try clear hb2); (try clear hk); (try clear hi)) | ((with_reducible refine gaC_ (f := 10) rfl ?_); refine goesL_ (some 12) rfl rfl Try.func10 (by kernel_rfl) rfl #[.slice A1 l1.length c1] rfl (by (try simp only [List.map_toArray, List.map_cons, List.map_nil]); first | done | rfl | (simp only [List.length_drop, List.length_take]; rfl)) ?_; (with_reducible refine (dragnetlaw13_great.calls k _ _ l1 false _ ?side1 ?side2 A5.out).mono ?_); (case side1 => exact Kd.cu_ (Kd.C_below HR1.out HB.out)); (case side2 => exact HC1.out); rintro e w' ⟨rfl, ⟨nd, rfl⟩⟩; refine ⟨_, rfl, ?_⟩) | ((with_reducible refine gaC_ (f := 11) rfl ?_); refine goesL_ (some 14) rfl rfl Try.func11 (by kernel_rfl) rfl #[.slice A0 l0.length c0] rfl (by (try simp only [List.map_toArray, List.map_cons, List.map_nil]); first | done | rfl | (simp only [List.length_drop, List.length_take]; rfl)) ?_; (with_reducible refine (dragnetref01_Copy.calls _ _ l0 t524 _ ?side1 ?side2 A8.out).mono ?_); (case side1 => exact Kd.cu_ (Kd.C_below HR0.out bw_)); (case side2 => exact HC0.out); rintro e w13 ⟨v525, rfl, ho0, hb⟩; refine ⟨_, rfl, ?_⟩; have HO526 := Aside0.mk (Kd.R_lower ho0 (pbS_ bw_)); replace HB := Aside0.mk (below_step bw_ hb); (try clear hb); (try clear hb2); (try clear hk); (try clear hi); (try clear ho0)) | ((with_reducible refine gaC_ (f := 12) rfl ?_); refine goesL_ (some 16) rfl rfl Try.func12 (by kernel_rfl) rfl #[.slice A1 l1.length c1] rfl (by (try simp only [List.map_toArray, List.map_cons, List.map_nil]); first | done | rfl | (simp only [List.length_drop, List.length_take]; rfl)) ?_; (with_reducible refine (dragnetref13_Copy.calls k _ _ l1 t527 _ ?side1 ?side2 A9.out).mono ?_); (case side1 => exact Kd.cu_ (Kd.C_below HR1.out HB.out)); (case side2 => exact HC1.out); rintro e w14 ⟨v528, rfl, ho0, hb⟩; refine ⟨_, rfl, ?_⟩; replace HO526 := Aside0.mk (Kd.R_below (Kd.ru_ HO526.out) hb); have HO529 := Aside0.mk (Kd.S_lower ho0 (pbS_ bw_)); replace HB := Aside0.mk (below_step bw_ hb); (try clear hb); (try clear hb2); (try clear hk); (try clear hi); (try clear ho0); obtain ⟨Ao15, co15, eo15⟩ := Kd.R_slice HO526.out; subst eo15; obtain ⟨Ao16, co16, eo16⟩ := Kd.S_slice HO529.out; subst eo16) | ((with_reducible refine gaC_ (f := 13) rfl ?_); refine goesL_ (some 20) rfl rfl Try.func13 (by kernel_rfl) rfl #[.slice Ao15 t524.length co15, .slice Ao16 t527.length co16] rfl (by (try simp only [List.map_toArray, List.map_cons, List.map_nil]); first | done | rfl | (simp only [List.length_drop, List.length_take]; rfl)) ?_; (with_reducible refine (post_Put.calls k _ _ t524 _ _ t527 t530 t531 _ ?side1 ?side2 ?side3 ?side4 A10.out).mono ?_); (case side1 => exact Kd.cu_ (Kd.R_reads' HO526.out).2.2); (case side2 => exact (Kd.R_reads' HO526.out).2.1); (case side3 => exact Kd.cu_ (Kd.S_reads' HO529.out).2.2); (case side4 => exact (Kd.S_reads' HO529.out).2.1); rintro e w17 ⟨v532, rfl, ho0, hb⟩; refine ⟨_, rfl, ?_⟩; have n0_ := Aside0.mk (Kd.R_elder' (Kd.ru_ HO526.out) (Kd.R_base ho0) hb); have n1_ := Aside0.mk (Kd.S_below (by (with_reducible repeat (first | apply Kd.S_alloc | apply Kd.S_drewN | apply Kd.S_drew)); exact HO529.out) hb); have n2_ := Aside0.mk (Kd.R_lower (Kd.R_new' ho0 (Kd.R_lt (Kd.ru_ HO526.out))) (pbS_ bw_)); have n3_ := Aside0.mk (below_step bw_ hb); clear HO526; clear HO529; clear HB; have HO526 := n0_; have HO529 := n1_; have HO533 := n2_; have HB := n3_; clear n0_ n1_ n2_ n3_; (try clear hb); (try clear hb2); (try clear hk); (try clear hi); (try clear ho0)))
  go_cut [39] (fun v39 wc => ∃ (kq : Nat) (x39_10 : Bool), v39 = .bool x39_10 ∧ Aside0 (dragnetlaw13_PostPuts.j0 kq l1 t524 t530 t531 x39_10 = some r) ∧ Aside0 (kq ≤ k) ∧ Aside0 (Kd.R (Kd.int .u8) 5 wc w.heap.size (fun k_ => some k_ ≠ (v532 : Value).ownBlock) (.slice Ao15 t524.length co15) t524) ∧ Aside0 (Kd.R (Kd.int .u8) 5 wc w.heap.size (fun k_ => some k_ ≠ ((.slice Ao15 t524.length co15) : Value).ownBlock) v532 t530) ∧ Aside0 (Below w.heap.size w wc))
  case first =>
   have H := HC11.out
   clear HC11
   replace H := Option.bind_eq_some_iff.mp H
   obtain ⟨t534, A180, H⟩ := H
   replace H : (if t534 = true then ((dragnetref13_Same.f k t527 l1).bind fun t535 => (if t535 = true then ((post_Formed.f k l1).bind fun t536 => ((dragnetref13_Formed.f k l1).bind fun t537 => (dragnetlaw13_PostPuts.j0 k l1 t524 t530 t531 (t536 != t537)))) else (dragnetlaw13_PostPuts.j0 k l1 t524 t530 t531 true))) else (dragnetlaw13_PostPuts.j0 k l1 t524 t530 t531 true)) = some r := H
   have A18 := Aside0.mk A180
   clear A180
   by_cases c19 : t534 = true
   rotate_left
   ·replace c19 := Bool.eq_false_iff.mpr c19
    subst c19
    have H1 : (dragnetlaw13_PostPuts.j0 k l1 t524 t530 t531 true) = some r := by rw [if_neg (show ¬ (false = true) by decide)] at H; exact H
    clear H
    have H := H1
    clear H1
    have H' := Aside0.mk H
    clear H
    go_wp2_with (first | ((with_reducible refine gaC_ (f := 14) rfl ?_); refine goesL_ (some 25) rfl rfl Try.func14 (by kernel_rfl) rfl #[.slice Ao15 t524.length co15, .slice A0 l0.length c0] rfl (by (try simp only [List.map_toArray, List.map_cons, List.map_nil]); first | done | rfl | (simp only [List.length_drop, List.length_take]; rfl)) ?_; (with_reducible refine (dragnetref01_Same.calls _ _ t524 _ _ l0 false _ ?side1 ?side2 ?side3 ?side4 A18.out).mono ?_); (case side1 => exact Kd.cu_ (Kd.R_reads' HO526.out).2.2); (case side2 => exact (Kd.R_reads' HO526.out).2.1); (case side3 => exact Kd.cu_ (Kd.C_below HR0.out HB.out)); (case side4 => exact HC0.out); rintro e w' ⟨rfl, ⟨nd, rfl⟩⟩; refine ⟨_, rfl, ?_⟩))
    go_meet
    case rel => exact ⟨_, (true), (by first | rfl | (simp; done) | (simp [*]; done)), H', ⟨by first | omega | exact Nat.le_refl _⟩, ⟨by (with_reducible repeat (first | apply Kd.rA_ | apply Kd.rN_ | apply Kd.rD_)); exact Kd.R_mono HO526.out (fun _ hk => hk.2)⟩, ⟨by (with_reducible repeat (first | apply Kd.rA_ | apply Kd.rN_ | apply Kd.rD_)); exact Kd.R_mono HO533.out (fun _ hk => hk.2)⟩, ⟨bw_⟩⟩
   subst c19
   have H1 : ((dragnetref13_Same.f k t527 l1).bind fun t535 => (if t535 = true then ((post_Formed.f k l1).bind fun t536 => ((dragnetref13_Formed.f k l1).bind fun t537 => (dragnetlaw13_PostPuts.j0 k l1 t524 t530 t531 (t536 != t537)))) else (dragnetlaw13_PostPuts.j0 k l1 t524 t530 t531 true))) = some r := by rw [if_pos rfl] at H; exact H
   clear H
   have H := H1
   clear H1
   replace H := Option.bind_eq_some_iff.mp H
   obtain ⟨t535, A200, H⟩ := H
   replace H : (if t535 = true then ((post_Formed.f k l1).bind fun t536 => ((dragnetref13_Formed.f k l1).bind fun t537 => (dragnetlaw13_PostPuts.j0 k l1 t524 t530 t531 (t536 != t537)))) else (dragnetlaw13_PostPuts.j0 k l1 t524 t530 t531 true)) = some r := H
   have A20 := Aside0.mk A200
   clear A200
   by_cases c21 : t535 = true
   rotate_left
   ·replace c21 := Bool.eq_false_iff.mpr c21
    subst c21
    have H1 : (dragnetlaw13_PostPuts.j0 k l1 t524 t530 t531 true) = some r := by rw [if_neg (show ¬ (false = true) by decide)] at H; exact H
    clear H
    have H := H1
    clear H1
    have H' := Aside0.mk H
    clear H
    go_wp2_with (first | ((with_reducible refine gaC_ (f := 14) rfl ?_); refine goesL_ (some 25) rfl rfl Try.func14 (by kernel_rfl) rfl #[.slice Ao15 t524.length co15, .slice A0 l0.length c0] rfl (by (try simp only [List.map_toArray, List.map_cons, List.map_nil]); first | done | rfl | (simp only [List.length_drop, List.length_take]; rfl)) ?_; (with_reducible refine (dragnetref01_Same.calls _ _ t524 _ _ l0 true _ ?side1 ?side2 ?side3 ?side4 A18.out).mono ?_); (case side1 => exact Kd.cu_ (Kd.R_reads' HO526.out).2.2); (case side2 => exact (Kd.R_reads' HO526.out).2.1); (case side3 => exact Kd.cu_ (Kd.C_below HR0.out HB.out)); (case side4 => exact HC0.out); rintro e w' ⟨rfl, ⟨nd, rfl⟩⟩; refine ⟨_, rfl, ?_⟩) | (go_at_call 15; (with_reducible refine (dragnetref13_Same.calls k _ _ t527 _ _ l1 false _ ?side1 ?side2 ?side3 ?side4 A20.out).mono ?_); (case side1 => exact Kd.cu_ (Kd.S_reads' HO529.out).2.2); (case side2 => exact (Kd.S_reads' HO529.out).2.1); (case side3 => exact Kd.cu_ (Kd.C_below HR1.out bw_)); (case side4 => exact HC1.out); rintro e w27 ⟨rfl, hb⟩; replace HO526 := Aside0.mk (Kd.R_below (Kd.ru_ HO526.out) hb); replace HO529 := Aside0.mk (Kd.S_below (by (with_reducible repeat (first | apply Kd.S_alloc | apply Kd.S_drewN | apply Kd.S_drew)); exact HO529.out) hb); replace HO533 := Aside0.mk (Kd.R_below (Kd.ru_ HO533.out) hb); replace HB := Aside0.mk (below_step bw_ hb); (try clear hb); (try clear hb2); (try clear hk); (try clear hi)))
    go_meet
    case rel => exact ⟨_, (true), (by first | rfl | (simp; done) | (simp [*]; done)), H', ⟨by first | omega | exact Nat.le_refl _⟩, ⟨by (with_reducible repeat (first | apply Kd.rA_ | apply Kd.rN_ | apply Kd.rD_)); exact Kd.R_mono HO526.out (fun _ hk => hk.2)⟩, ⟨by (with_reducible repeat (first | apply Kd.rA_ | apply Kd.rN_ | apply Kd.rD_)); exact Kd.R_mono HO533.out (fun _ hk => hk.2)⟩, ⟨bw_⟩⟩
   subst c21
   have H1 : ((post_Formed.f k l1).bind fun t536 => ((dragnetref13_Formed.f k l1).bind fun t537 => (dragnetlaw13_PostPuts.j0 k l1 t524 t530 t531 (t536 != t537)))) = some r := by rw [if_pos rfl] at H; exact H
   clear H
   have H := H1
   clear H1
   replace H := Option.bind_eq_some_iff.mp H
   obtain ⟨t536, A220, H⟩ := H
   replace H : ((dragnetref13_Formed.f k l1).bind fun t537 => (dragnetlaw13_PostPuts.j0 k l1 t524 t530 t531 (t536 != t537))) = some r := H
   have A22 := Aside0.mk A220
   clear A220
   replace H := Option.bind_eq_some_iff.mp H
   obtain ⟨t537, A230, H⟩ := H
   replace H : (dragnetlaw13_PostPuts.j0 k l1 t524 t530 t531 (t536 != t537)) = some r := H
   have A23 := Aside0.mk A230
   clear A230
   have H' := Aside0.mk H
   clear H
   go_wp2_with (first | ((with_reducible refine gaC_ (f := 14) rfl ?_); refine goesL_ (some 25) rfl rfl Try.func14 (by kernel_rfl) rfl #[.slice Ao15 t524.length co15, .slice A0 l0.length c0] rfl (by (try simp only [List.map_toArray, List.map_cons, List.map_nil]); first | done | rfl | (simp only [List.length_drop, List.length_take]; rfl)) ?_; (with_reducible refine (dragnetref01_Same.calls _ _ t524 _ _ l0 true _ ?side1 ?side2 ?side3 ?side4 A18.out).mono ?_); (case side1 => exact Kd.cu_ (Kd.R_reads' HO526.out).2.2); (case side2 => exact (Kd.R_reads' HO526.out).2.1); (case side3 => exact Kd.cu_ (Kd.C_below HR0.out HB.out)); (case side4 => exact HC0.out); rintro e w' ⟨rfl, ⟨nd, rfl⟩⟩; refine ⟨_, rfl, ?_⟩) | (go_at_call 15; (with_reducible refine (dragnetref13_Same.calls k _ _ t527 _ _ l1 true _ ?side1 ?side2 ?side3 ?side4 A20.out).mono ?_); (case side1 => exact Kd.cu_ (Kd.S_reads' HO529.out).2.2); (case side2 => exact (Kd.S_reads' HO529.out).2.1); (case side3 => exact Kd.cu_ (Kd.C_below HR1.out bw_)); (case side4 => exact HC1.out); rintro e w24 ⟨rfl, hb⟩; replace HO526 := Aside0.mk (Kd.R_below (Kd.ru_ HO526.out) hb); replace HO529 := Aside0.mk (Kd.S_below (by (with_reducible repeat (first | apply Kd.S_alloc | apply Kd.S_drewN | apply Kd.S_drew)); exact HO529.out) hb); replace HO533 := Aside0.mk (Kd.R_below (Kd.ru_ HO533.out) hb); replace HB := Aside0.mk (below_step bw_ hb); (try clear hb); (try clear hb2); (try clear hk); (try clear hi)) | (go_at_call 16; (with_reducible refine (post_Formed.calls k _ _ l1 t536 _ ?side1 ?side2 A22.out).mono ?_); (case side1 => exact Kd.cu_ (Kd.C_below HR1.out HB.out)); (case side2 => exact HC1.out); rintro e w25 ⟨rfl, hb⟩; replace HO526 := Aside0.mk (Kd.R_below (Kd.ru_ HO526.out) hb); replace HO529 := Aside0.mk (Kd.S_below (by (with_reducible repeat (first | apply Kd.S_alloc | apply Kd.S_drewN | apply Kd.S_drew)); exact HO529.out) hb); replace HO533 := Aside0.mk (Kd.R_below (Kd.ru_ HO533.out) hb); replace HB := Aside0.mk (below_step bw_ hb); (try clear hb); (try clear hb2); (try clear hk); (try clear hi)) | (go_at_call 17; (with_reducible refine (dragnetref13_Formed.calls k _ _ l1 t537 _ ?side1 ?side2 A23.out).mono ?_); (case side1 => exact Kd.cu_ (Kd.C_below HR1.out HB.out)); (case side2 => exact HC1.out); rintro e w26 ⟨rfl, hb⟩; replace HO526 := Aside0.mk (Kd.R_below (Kd.ru_ HO526.out) hb); replace HO529 := Aside0.mk (Kd.S_below (by (with_reducible repeat (first | apply Kd.S_alloc | apply Kd.S_drewN | apply Kd.S_drew)); exact HO529.out) hb); replace HO533 := Aside0.mk (Kd.R_below (Kd.ru_ HO533.out) hb); replace HB := Aside0.mk (below_step bw_ hb); (try clear hb); (try clear hb2); (try clear hk); (try clear hi)))
   go_meet
   case rel => exact ⟨_, ((t536 != t537)), (by first | rfl | (simp; done) | (simp [*]; done)), H', ⟨by first | omega | exact Nat.le_refl _⟩, ⟨by (with_reducible repeat (first | apply Kd.rA_ | apply Kd.rN_ | apply Kd.rD_)); exact Kd.R_mono HO526.out (fun _ hk => hk.2)⟩, ⟨by (with_reducible repeat (first | apply Kd.rA_ | apply Kd.rN_ | apply Kd.rD_)); exact Kd.R_mono HO533.out (fun _ hk => hk.2)⟩, ⟨bw_⟩⟩
  case rest =>
   clear HC11
   obtain ⟨kq, x39_10, rfl, HA, HJ10, HO_5, HO_7, HB⟩ := hcut
   cases kq with
   | zero => exact absurd HA.out (by simp [dragnetlaw13_PostPuts.j0])
   | succ kj10 =>
    have H := HA.out
    clear HA
    simp only [dragnetlaw13_PostPuts.j0] at H
    by_cases c28 : x39_10 = true
    ·subst c28
     have H1 : (some false) = some r := by rw [if_pos rfl] at H; exact H
     clear H
     have H := H1
     clear H1
     obtain rfl := Option.some.inj H
     cases hr_.out
    ·replace c28 := Bool.eq_false_iff.mpr c28
     subst c28
     have H1 : ((dragnetref13_Formed.f kj10 l1).bind fun t538 => (if t538 = true then (if t531 = 0 then ((dragnetref13_Bytes.f kj10 l1).bind fun t539 => (if t524.length + t539.length < 140737488355328 then ((dragnetref01_Same.f t530 (t524 ++ t539)).bind fun t545 => (some t545)) else (none))) else (some false)) else (if t531 = 1 then (some ((t530.length : Int) == 0)) else (some false)))) = some r := by rw [if_neg (show ¬ (false = true) by decide)] at H; exact H
     clear H
     have H := H1
     clear H1
     replace H := Option.bind_eq_some_iff.mp H
     obtain ⟨t538, A290, H⟩ := H
     replace H : (if t538 = true then (if t531 = 0 then ((dragnetref13_Bytes.f kj10 l1).bind fun t539 => (if t524.length + t539.length < 140737488355328 then ((dragnetref01_Same.f t530 (t524 ++ t539)).bind fun t545 => (some t545)) else (none))) else (some false)) else (if t531 = 1 then (some ((t530.length : Int) == 0)) else (some false))) = some r := H
     have A29 := Aside0.mk A290
     clear A290
     by_cases c30 : t538 = true
     rotate_left
     ·replace c30 := Bool.eq_false_iff.mpr c30
      subst c30
      have H1 : (if t531 = 1 then (some ((t530.length : Int) == 0)) else (some false)) = some r := by rw [if_neg (show ¬ (false = true) by decide)] at H; exact H
      clear H
      have H := H1
      clear H1
      by_cases c42 : t531 = 1
      rotate_left
      ·rw [if_neg c42] at H
       have c42b0 : (t531 == 1) = false := beq_eq_false_iff_ne.mpr c42
       have c42b1 : (t531 != 1) = true := bne_iff_ne.mpr c42
       obtain rfl := Option.some.inj H
       cases hr_.out
      rw [if_pos c42] at H
      have c42b0 : (t531 == 1) = true := beq_iff_eq.mpr c42
      have c42b1 : (t531 != 1) = false := bne_eq_false_iff_eq.mpr c42
      clear c42
      obtain rfl := Option.some.inj H
      go_wp2_with (first | ((with_reducible refine gaC_ (f := 17) rfl ?_); refine goesL_ (some 41) rfl rfl Try.func17 (by kernel_rfl) rfl #[.slice A1 l1.length c1] rfl (by (try simp only [List.map_toArray, List.map_cons, List.map_nil]); first | done | rfl | (simp only [List.length_drop, List.length_take]; rfl)) ?_; (with_reducible refine (dragnetref13_Formed.calls kj10 _ _ l1 false _ ?side1 ?side2 A29.out).mono ?_); (case side1 => exact Kd.cu_ (Kd.C_below HR1.out HB.out)); (case side2 => exact HC1.out); rintro e w43 ⟨rfl, hb⟩; refine ⟨_, rfl, ?_⟩; replace HO_5 := Aside0.mk (Kd.R_below (Kd.ru_ HO_5.out) hb); replace HO_7 := Aside0.mk (Kd.R_below (Kd.ru_ HO_7.out) hb); replace HB := Aside0.mk (below_step bw_ hb); (try clear hb); (try clear hb2); (try clear hk); (try clear hi); obtain ⟨Ao44, co44, eo44⟩ := Kd.R_slice HO_7.out; subst eo44))
      go_ret
      exact ⟨rf_, bw_⟩
     subst c30
     have H1 : (if t531 = 0 then ((dragnetref13_Bytes.f kj10 l1).bind fun t539 => (if t524.length + t539.length < 140737488355328 then ((dragnetref01_Same.f t530 (t524 ++ t539)).bind fun t545 => (some t545)) else (none))) else (some false)) = some r := by rw [if_pos rfl] at H; exact H
     clear H
     have H := H1
     clear H1
     by_cases c31 : t531 = 0
     rotate_left
     ·rw [if_neg c31] at H
      have c31b0 : (t531 == 0) = false := beq_eq_false_iff_ne.mpr c31
      have c31b1 : (t531 != 0) = true := bne_iff_ne.mpr c31
      obtain rfl := Option.some.inj H
      cases hr_.out
     rw [if_pos c31] at H
     have c31b0 : (t531 == 0) = true := beq_iff_eq.mpr c31
     have c31b1 : (t531 != 0) = false := bne_eq_false_iff_eq.mpr c31
     clear c31
     replace H := Option.bind_eq_some_iff.mp H
     obtain ⟨t539, A320, H⟩ := H
     replace H : (if t524.length + t539.length < 140737488355328 then ((dragnetref01_Same.f t530 (t524 ++ t539)).bind fun t545 => (some t545)) else (none)) = some r := H
     have A32 := Aside0.mk A320
     clear A320
     by_cases c33 : t524.length + t539.length < 140737488355328
     rotate_left
     ·rw [if_neg c33] at H
      exact absurd H (by simp)
     rw [if_pos c33] at H
     have LMc33 := Aside0.mk c33
     clear c33
     obtain ⟨y542, hy542⟩ : ∃ y_ : List Int, y_ = (t524 ++ t539) := ⟨_, rfl⟩
     replace H : ((dragnetref01_Same.f t530 y542).bind fun t545 => (some t545)) = some r := by first | (rw [hy542]; with_reducible exact H) | (have H2_ := (Option.bind_some _ _).symm.trans H; rw [hy542]; with_reducible exact H2_) | (have H2_ := (Option.bind_some _ _).symm.trans H; with_reducible exact H2_) | with_reducible exact H | (rw [hy542]; exact H) | exact H
     have Ny542 := Aside0.mk hy542
     clear hy542
     replace H := Option.bind_eq_some_iff.mp H
     obtain ⟨t545, A340, H⟩ := H
     replace H : (some t545) = some r := H
     have A34 := Aside0.mk A340
     clear A340
     obtain rfl := Option.some.inj H
     go_wp2_with (first | ((with_reducible refine gaC_ (f := 17) rfl ?_); refine goesL_ (some 41) rfl rfl Try.func17 (by kernel_rfl) rfl #[.slice A1 l1.length c1] rfl (by (try simp only [List.map_toArray, List.map_cons, List.map_nil]); first | done | rfl | (simp only [List.length_drop, List.length_take]; rfl)) ?_; (with_reducible refine (dragnetref13_Formed.calls kj10 _ _ l1 true _ ?side1 ?side2 A29.out).mono ?_); (case side1 => exact Kd.cu_ (Kd.C_below HR1.out HB.out)); (case side2 => exact HC1.out); rintro e w35 ⟨rfl, hb⟩; refine ⟨_, rfl, ?_⟩; replace HO_5 := Aside0.mk (Kd.R_below (Kd.ru_ HO_5.out) hb); replace HO_7 := Aside0.mk (Kd.R_below (Kd.ru_ HO_7.out) hb); replace HB := Aside0.mk (below_step bw_ hb); (try clear hb); (try clear hb2); (try clear hk); (try clear hi)) | (go_at_call 18; (with_reducible refine (dragnetref13_Bytes.calls kj10 _ _ l1 t539 _ ?side1 ?side2 A32.out).mono ?_); (case side1 => exact Kd.cu_ (Kd.C_below HR1.out HB.out)); (case side2 => exact HC1.out); rintro e w36 ⟨v540, rfl, ho0, hb⟩; have n0_ := Aside0.mk (Kd.R_elder' (Kd.ru_ HO_5.out) (Kd.R_base ho0) hb); have n1_ := Aside0.mk (Kd.R_elder' (Kd.ru_ HO_7.out) (Kd.R_base ho0) hb); have n2_ := Aside0.mk (Kd.R_lower (Kd.R_new' (Kd.R_new' ho0 (Kd.R_lt (Kd.ru_ HO_5.out))) (Kd.R_lt (Kd.ru_ HO_7.out))) (pbS_ bw_)); have n3_ := Aside0.mk (below_step bw_ hb); clear HO_5; clear HO_7; clear HB; have HO_5 := n0_; have HO_7 := n1_; have HO541 := n2_; have HB := n3_; clear n0_ n1_ n2_ n3_; (try clear hb); (try clear hb2); (try clear hk); (try clear hi); (try clear ho0); obtain ⟨Ao38, co38, eo38⟩ := Kd.R_slice HO541.out; subst eo38) | ((with_reducible refine gate_builtin (b := .append) (xs := #[.tmp 54, .tmp 56]) rfl ?_); (try (refine gate_guard (by rfl) ?_; dsimp only)); at_builtin; refine Kd.R_append_rows (Kd.int .u8) (w0 := w) w.heap.size rfl (.tmp 54) (.tmp 56) 22 5 (.int .u8 0) 1 rfl Try.underlying22 info5 rfl (by decide) (by omega) (.slice Ao15 t524.length co15) t524 t539 _ _ _ (fun k_ => some k_ ≠ (v532 : Value).ownBlock ∧ some k_ ≠ (.slice Ao38 t539.length co38 : Value).ownBlock) (fun _ => False) rfl rfl ?aO ?aR (fun _ _ h => h) (fun _ h => h.elim) ?aF ?aB ?aS ?aL ?_; (case aR => exact Kd.cu_ (Kd.R_reads' HO541.out).2.2); (case aB => exact bw_); (case aF => exact (fun k_ hk => ⟨Kd.fresh' (Kd.R_lt (Kd.ru_ HO_7.out)) k_ hk, Kd.fresh' (Kd.R_lt (Kd.ru_ HO541.out)) k_ hk⟩)); (case aO => exact (Kd.ru_ HO_5.out)); (case aS => exact (pbS_ bw_)); (case aL => have := LMc33.out; omega); intro v543 w37 ho hb hg hat; rw [← Ny542.out] at ho; have n0_ := Aside0.mk (Kd.R_after (ok := (fun k_ => some k_ ≠ (.slice Ao38 t539.length co38 : Value).ownBlock)) (by (with_reducible repeat (first | apply Kd.rA_ | apply Kd.rN_ | apply Kd.rD_)); exact Kd.R_mono HO_7.out (fun _ hk => ⟨hk.2, hk.1⟩)) hg hat); have n1_ := Aside0.mk (Kd.R_after (ok := (fun k_ => some k_ ≠ (v532 : Value).ownBlock)) (by (with_reducible repeat (first | apply Kd.rA_ | apply Kd.rN_ | apply Kd.rD_)); exact Kd.R_mono HO541.out (fun _ hk => ⟨hk.2, hk.1.2⟩)) hg hat); have n2_ := Aside0.mk (hb); have n3_ := Aside0.mk (ho); clear HO_7; clear HO541; clear HB; clear HO_5; have HO_7 := n0_; have HO541 := n1_; have HB := n2_; have HO544 := n3_; clear n0_ n1_ n2_ n3_; clear ho hb hg hat; obtain ⟨Ao39, co39, eo39⟩ := Kd.R_slice HO_7.out; subst eo39; obtain ⟨Ao40, co40, eo40⟩ := Kd.R_slice HO544.out; subst eo40) | (go_at_call 14; (with_reducible refine (dragnetref01_Same.calls _ _ t530 _ _ y542 t545 _ ?side1 ?side2 ?side3 ?side4 A34.out).mono ?_); (case side1 => exact Kd.cu_ (Kd.R_reads' HO_7.out).2.2); (case side2 => exact (Kd.R_reads' HO_7.out).2.1); (case side3 => exact Kd.cu_ (Kd.R_reads' HO544.out).2.2); (case side4 => exact (Kd.R_reads' HO544.out).2.1); rintro e w' ⟨rfl, ⟨nd, rfl⟩⟩))
     go_ret
     exact ⟨rf_, bw_⟩
end Go.Proofs.Ytooeclfeallkkaa.P
end
