/- Words and proofs that UpIntsBack leans on; put together by wip/tools/shake.py. -/
import Derived.Test.YtcjkmmajokkkfaaZUpIntsBack7
import Derived.Test.YtcjkmmajokkkfaaZUpIntsBack13
import Derived.Test.YtcjkmmajokkkfaaZUpIntsBack14
import Derived.Test.YtcjkmmajokkkfaaZUpIntsBack15
section
namespace Go.Proofs.Ytcjkmmajokkkfaa.P
open Go.RowKit Go.Proofs.YtcjkmmajokkkfaaW.PrintWords Go.Proofs.YtcjkmmajokkkfaaW.PrintLast Go.Proofs.YtcjkmmajokkkfaaW.PrintMore
attribute [local go_sem] max2_int min2_int max_two min_two max_three min_three max_four min_four
set_option linter.unusedVariables false
set_option linter.unusedSimpArgs false
noncomputable def dragnetlaw10_IntsBack.f (k : Nat) (l0 : List (S42)) (l1 : List Int) : Option (Bool) := (dragnetlaw10_alive.f k).bind fun t718 => (if t718 = true then (if (l0.length : Int) > 500 then (some true) else ((ints_Put.f k ([] : List Int) l0).bind fun bt719 => (if bt719.2 = 0 then ((dragnetref01_Copy.f bt719.1).bind fun t723 => (if t723.length + l1.length < 140737488355328 then ((ints_Take.f k (t723 ++ l1)).bind fun bt729 => (if bt729.2.2 = 0 then (if bt729.2.1 = (bt719.1.length : Int) then ((dragnetref10_Same.f k l0 bt729.1).bind fun t734 => (some t734)) else (some false)) else (some false))) else (none))) else ((dragnetref10_Formed.f k l0).bind fun t735 => (some (!t735)))))) else (some false))
theorem dragnetlaw10_IntsBack.mono : ∀ a0 a1 k, LeO (dragnetlaw10_IntsBack.f k a0 a1) (dragnetlaw10_IntsBack.f (k + 1) a0 a1) := by
 intro a0 a1 k
 unfold dragnetlaw10_IntsBack.f
 repeat' first
   | (with_reducible exact dragnetlaw10_alive.mono _)
   | (with_reducible exact dragnetref10_Formed.mono _ _)
   | (with_reducible exact dragnetref10_Same.mono _ _ _)
   | (with_reducible exact ints_Put.mono _ _ _)
   | (with_reducible exact ints_Take.mono _ _)
   | (with_reducible exact LeO.refl _)
   | (with_reducible exact LeO.none _)
   | (with_reducible refine LeO.ite ?_ ?_)
   | (with_reducible refine LeO.bind ?_ (fun _ => ?_))
set_option maxHeartbeats 8000000 in
set_option maxRecDepth 100000 in
theorem dragnetlaw10_IntsBack.calls (k : Nat) (A0 : Option Addr) (c0 : Nat) (l0 : List (S42)) (A1 : Option Addr) (c1 : Nat) (l1 : List Int) (r : Bool) (w : World) (hr0 : Kd.C k42 w A0 l0.length l0) (hc0 : l0.length ≤ c0) (hr1 : Kd.C (Kd.int .u8) w A1 l1.length l1) (hc1 : l1.length ≤ c1) (h : dragnetlaw10_IntsBack.f k l0 l1 = some r) :
  Calls Try.prog 8 #[.slice A0 l0.length c0, .slice A1 l1.length c1] w fun e w' => e = .returned (.bool r) ∧ Below w.heap.size w w' := by
 have HR0 := Aside0.mk hr0
 have HC0 := Aside0.mk hc0
 clear hr0 hc0
 have HR1 := Aside0.mk hr1
 have HC1 := Aside0.mk hc1
 clear hr1 hc1
 have HB := Aside0.mk (Below.refl w.heap.size w)
 have H : ((dragnetlaw10_alive.f k).bind fun t718 => (if t718 = true then (if (l0.length : Int) > 500 then (some true) else ((ints_Put.f k ([] : List Int) l0).bind fun bt719 => (if bt719.2 = 0 then ((dragnetref01_Copy.f bt719.1).bind fun t723 => (if t723.length + l1.length < 140737488355328 then ((ints_Take.f k (t723 ++ l1)).bind fun bt729 => (if bt729.2.2 = 0 then (if bt729.2.1 = (bt719.1.length : Int) then ((dragnetref10_Same.f k l0 bt729.1).bind fun t734 => (some t734)) else (some false)) else (some false))) else (none))) else ((dragnetref10_Formed.f k l0).bind fun t735 => (some (!t735)))))) else (some false))) = some r := h
 clear h
 replace H := Option.bind_eq_some_iff.mp H
 obtain ⟨t718, A30, H⟩ := H
 replace H : (if t718 = true then (if (l0.length : Int) > 500 then (some true) else ((ints_Put.f k ([] : List Int) l0).bind fun bt719 => (if bt719.2 = 0 then ((dragnetref01_Copy.f bt719.1).bind fun t723 => (if t723.length + l1.length < 140737488355328 then ((ints_Take.f k (t723 ++ l1)).bind fun bt729 => (if bt729.2.2 = 0 then (if bt729.2.1 = (bt719.1.length : Int) then ((dragnetref10_Same.f k l0 bt729.1).bind fun t734 => (some t734)) else (some false)) else (some false))) else (none))) else ((dragnetref10_Formed.f k l0).bind fun t735 => (some (!t735)))))) else (some false)) = some r := H
 have A3 := Aside0.mk A30
 clear A30
 by_cases c4 : t718 = true
 rotate_left
 ·replace c4 := Bool.eq_false_iff.mpr c4
  subst c4
  have H1 : (some false) = some r := by rw [if_neg (show ¬ (false = true) by decide)] at H; exact H
  clear H
  have H := H1
  clear H1
  obtain rfl := Option.some.inj H
  go_enter Try.func8, Try.ntmps8
  go_wp2_with (first | ((with_reducible refine gaC_ (f := 9) rfl ?_); refine goesL_ (some 10) rfl rfl Try.func9 (by kernel_rfl) rfl #[] rfl (by (try simp only [List.map_toArray, List.map_cons, List.map_nil]); first | done | rfl | (simp only [List.length_drop, List.length_take]; rfl)) ?_; (with_reducible refine (dragnetlaw10_alive.calls k  false _ A3.out).mono ?_); rintro e w40 ⟨rfl, hb⟩; refine ⟨_, rfl, ?_⟩; replace HB := Aside0.mk (below_step bw_ hb); (try clear hb); (try clear hb2); (try clear hk); (try clear hi)))
  go_ret
  exact ⟨rf_, bw_⟩
 subst c4
 have H1 : (if (l0.length : Int) > 500 then (some true) else ((ints_Put.f k ([] : List Int) l0).bind fun bt719 => (if bt719.2 = 0 then ((dragnetref01_Copy.f bt719.1).bind fun t723 => (if t723.length + l1.length < 140737488355328 then ((ints_Take.f k (t723 ++ l1)).bind fun bt729 => (if bt729.2.2 = 0 then (if bt729.2.1 = (bt719.1.length : Int) then ((dragnetref10_Same.f k l0 bt729.1).bind fun t734 => (some t734)) else (some false)) else (some false))) else (none))) else ((dragnetref10_Formed.f k l0).bind fun t735 => (some (!t735)))))) = some r := by rw [if_pos rfl] at H; exact H
 clear H
 have H := H1
 clear H1
 by_cases c5 : (l0.length : Int) > 500
 ·rw [if_pos c5] at H
  have c5b0 : decide (500 < (l0.length : Int)) = true := decide_eq_true c5
  have c5b1 : decide (500 < l0.length) = true := decide_eq_true (by omega)
  clear c5
  obtain rfl := Option.some.inj H
  go_enter Try.func8, Try.ntmps8
  go_wp2_with (first | ((with_reducible refine gaC_ (f := 9) rfl ?_); refine goesL_ (some 10) rfl rfl Try.func9 (by kernel_rfl) rfl #[] rfl (by (try simp only [List.map_toArray, List.map_cons, List.map_nil]); first | done | rfl | (simp only [List.length_drop, List.length_take]; rfl)) ?_; (with_reducible refine (dragnetlaw10_alive.calls k  true _ A3.out).mono ?_); rintro e w6 ⟨rfl, hb⟩; refine ⟨_, rfl, ?_⟩; replace HB := Aside0.mk (below_step bw_ hb); (try clear hb); (try clear hb2); (try clear hk); (try clear hi)))
  go_ret
  exact ⟨rf_, bw_⟩
 ·rw [if_neg c5] at H
  have c5b0 : decide (500 < (l0.length : Int)) = false := decide_eq_false c5
  have c5b1 : decide (500 < l0.length) = false := decide_eq_false (by omega)
  clear c5
  replace H := Option.bind_eq_some_iff.mp H
  obtain ⟨⟨t719, t720⟩, A70, H⟩ := H
  replace H : (if t720 = 0 then ((dragnetref01_Copy.f t719).bind fun t723 => (if t723.length + l1.length < 140737488355328 then ((ints_Take.f k (t723 ++ l1)).bind fun bt729 => (if bt729.2.2 = 0 then (if bt729.2.1 = (t719.length : Int) then ((dragnetref10_Same.f k l0 bt729.1).bind fun t734 => (some t734)) else (some false)) else (some false))) else (none))) else ((dragnetref10_Formed.f k l0).bind fun t735 => (some (!t735)))) = some r := H
  have A7 := Aside0.mk A70
  clear A70
  by_cases c8 : t720 = 0
  rotate_left
  ·rw [if_neg c8] at H
   have c8b0 : (t720 == 0) = false := beq_eq_false_iff_ne.mpr c8
   have c8b1 : (t720 != 0) = true := bne_iff_ne.mpr c8
   replace H := Option.bind_eq_some_iff.mp H
   obtain ⟨t735, A370, H⟩ := H
   replace H : (some (!t735)) = some r := H
   have A37 := Aside0.mk A370
   clear A370
   obtain rfl := Option.some.inj H
   go_enter Try.func8, Try.ntmps8
   go_wp2_with (first | ((with_reducible refine gaC_ (f := 9) rfl ?_); refine goesL_ (some 10) rfl rfl Try.func9 (by kernel_rfl) rfl #[] rfl (by (try simp only [List.map_toArray, List.map_cons, List.map_nil]); first | done | rfl | (simp only [List.length_drop, List.length_take]; rfl)) ?_; (with_reducible refine (dragnetlaw10_alive.calls k  true _ A3.out).mono ?_); rintro e w38 ⟨rfl, hb⟩; refine ⟨_, rfl, ?_⟩; replace HB := Aside0.mk (below_step bw_ hb); (try clear hb); (try clear hb2); (try clear hk); (try clear hi)) | ((with_reducible refine gaC_ (f := 12) rfl ?_); refine goesL_ (some 17) rfl rfl Try.func12 (by kernel_rfl) rfl #[.slice none 0 0, .slice A0 l0.length c0] rfl (by (try simp only [List.map_toArray, List.map_cons, List.map_nil]); first | done | rfl | (simp only [List.length_drop, List.length_take]; rfl)) ?_; (refine (ints_Put.calls k _ _ ([] : List Int) _ _ l0 t719 t720 _ ?side1 ?side2 ?side3 ?side4 A7.out).mono ?_); (case side1 => exact Kd.C_nil _ _); (case side2 => exact Nat.le_refl _); (case side3 => exact Kd.cu_ (Kd.C_below HR0.out HB.out)); (case side4 => exact HC0.out); rintro e w39 ⟨v721, rfl, ho0, hb⟩; refine ⟨_, rfl, ?_⟩; have HO722 := Aside0.mk (Kd.R_lower ho0 (pbS_ bw_)); replace HB := Aside0.mk (below_step bw_ hb); (try clear hb); (try clear hb2); (try clear hk); (try clear hi); (try clear ho0)) | ((with_reducible refine gaC_ (f := 16) rfl ?_); refine goesL_ (some 23) rfl rfl Try.func16 (by kernel_rfl) rfl #[.slice A0 l0.length c0] rfl (by (try simp only [List.map_toArray, List.map_cons, List.map_nil]); first | done | rfl | (simp only [List.length_drop, List.length_take]; rfl)) ?_; (with_reducible refine (dragnetref10_Formed.calls k _ _ l0 t735 _ ?side1 ?side2 A37.out).mono ?_); (case side1 => exact Kd.cu_ (Kd.C_below HR0.out HB.out)); (case side2 => exact HC0.out); rintro e w' ⟨rfl, ⟨nd, rfl⟩⟩; refine ⟨_, rfl, ?_⟩))
   go_ret
   exact ⟨rf_, bw_⟩
  rw [if_pos c8] at H
  have c8b0 : (t720 == 0) = true := beq_iff_eq.mpr c8
  have c8b1 : (t720 != 0) = false := bne_eq_false_iff_eq.mpr c8
  clear c8
  replace H := Option.bind_eq_some_iff.mp H
  obtain ⟨t723, A90, H⟩ := H
  replace H : (if t723.length + l1.length < 140737488355328 then ((ints_Take.f k (t723 ++ l1)).bind fun bt729 => (if bt729.2.2 = 0 then (if bt729.2.1 = (t719.length : Int) then ((dragnetref10_Same.f k l0 bt729.1).bind fun t734 => (some t734)) else (some false)) else (some false))) else (none)) = some r := H
  have A9 := Aside0.mk A90
  clear A90
  by_cases c10 : t723.length + l1.length < 140737488355328
  rotate_left
  ·rw [if_neg c10] at H
   exact absurd H (by simp)
  rw [if_pos c10] at H
  have LMc10 := Aside0.mk c10
  clear c10
  obtain ⟨y726, hy726⟩ : ∃ y_ : List Int, y_ = (t723 ++ l1) := ⟨_, rfl⟩
  replace H : ((ints_Take.f k y726).bind fun bt729 => (if bt729.2.2 = 0 then (if bt729.2.1 = (t719.length : Int) then ((dragnetref10_Same.f k l0 bt729.1).bind fun t734 => (some t734)) else (some false)) else (some false))) = some r := by first | (rw [hy726]; with_reducible exact H) | (have H2_ := (Option.bind_some _ _).symm.trans H; rw [hy726]; with_reducible exact H2_) | (have H2_ := (Option.bind_some _ _).symm.trans H; with_reducible exact H2_) | with_reducible exact H | (rw [hy726]; exact H) | exact H
  have Ny726 := Aside0.mk hy726
  clear hy726
  replace H := Option.bind_eq_some_iff.mp H
  obtain ⟨⟨t729, t730, t731⟩, A110, H⟩ := H
  replace H : (if t731 = 0 then (if t730 = (t719.length : Int) then ((dragnetref10_Same.f k l0 t729).bind fun t734 => (some t734)) else (some false)) else (some false)) = some r := H
  have A11 := Aside0.mk A110
  clear A110
  by_cases c12 : t731 = 0
  rotate_left
  ·rw [if_neg c12] at H
   have c12b0 : (t731 == 0) = false := beq_eq_false_iff_ne.mpr c12
   have c12b1 : (t731 != 0) = true := bne_iff_ne.mpr c12
   obtain rfl := Option.some.inj H
   go_enter Try.func8, Try.ntmps8
   go_wp2_with (first | ((with_reducible refine gaC_ (f := 9) rfl ?_); refine goesL_ (some 10) rfl rfl Try.func9 (by kernel_rfl) rfl #[] rfl (by (try simp only [List.map_toArray, List.map_cons, List.map_nil]); first | done | rfl | (simp only [List.length_drop, List.length_take]; rfl)) ?_; (with_reducible refine (dragnetlaw10_alive.calls k  true _ A3.out).mono ?_); rintro e w30 ⟨rfl, hb⟩; refine ⟨_, rfl, ?_⟩; replace HB := Aside0.mk (below_step bw_ hb); (try clear hb); (try clear hb2); (try clear hk); (try clear hi)) | ((with_reducible refine gaC_ (f := 12) rfl ?_); refine goesL_ (some 17) rfl rfl Try.func12 (by kernel_rfl) rfl #[.slice none 0 0, .slice A0 l0.length c0] rfl (by (try simp only [List.map_toArray, List.map_cons, List.map_nil]); first | done | rfl | (simp only [List.length_drop, List.length_take]; rfl)) ?_; (refine (ints_Put.calls k _ _ ([] : List Int) _ _ l0 t719 t720 _ ?side1 ?side2 ?side3 ?side4 A7.out).mono ?_); (case side1 => exact Kd.C_nil _ _); (case side2 => exact Nat.le_refl _); (case side3 => exact Kd.cu_ (Kd.C_below HR0.out HB.out)); (case side4 => exact HC0.out); rintro e w31 ⟨v721, rfl, ho0, hb⟩; refine ⟨_, rfl, ?_⟩; have HO722 := Aside0.mk (Kd.R_lower ho0 (pbS_ bw_)); replace HB := Aside0.mk (below_step bw_ hb); (try clear hb); (try clear hb2); (try clear hk); (try clear hi); (try clear ho0); obtain ⟨Ao32, co32, eo32⟩ := Kd.R_slice HO722.out; subst eo32) | ((with_reducible refine gaC_ (f := 10) rfl ?_); refine goesL_ (some 27) rfl rfl Try.func10 (by kernel_rfl) rfl #[.slice Ao32 t719.length co32] rfl (by (try simp only [List.map_toArray, List.map_cons, List.map_nil]); first | done | rfl | (simp only [List.length_drop, List.length_take]; rfl)) ?_; (with_reducible refine (dragnetref01_Copy.calls _ _ t719 t723 _ ?side1 ?side2 A9.out).mono ?_); (case side1 => exact Kd.cu_ (Kd.R_reads' HO722.out).2.2); (case side2 => exact (Kd.R_reads' HO722.out).2.1); rintro e w33 ⟨v724, rfl, ho0, hb⟩; refine ⟨_, rfl, ?_⟩; have n0_ := Aside0.mk (Kd.R_elder' (Kd.ru_ HO722.out) (Kd.R_base ho0) hb); have n1_ := Aside0.mk (Kd.R_lower (Kd.R_new' ho0 (Kd.R_lt (Kd.ru_ HO722.out))) (pbS_ bw_)); have n2_ := Aside0.mk (below_step bw_ hb); clear HO722; clear HB; have HO722 := n0_; have HO725 := n1_; have HB := n2_; clear n0_ n1_ n2_; (try clear hb); (try clear hb2); (try clear hk); (try clear hi); (try clear ho0)) | ((with_reducible refine gate_builtin (b := .append) (xs := #[.tmp 27, .tmp 28]) rfl ?_); (try (refine gate_guard (by rfl) ?_; dsimp only)); at_builtin; refine Kd.R_append_rows (Kd.int .u8) (w0 := w) w.heap.size rfl (.tmp 27) (.tmp 28) 22 5 (.int .u8 0) 1 rfl Try.underlying22 info5 rfl (by decide) (by omega) v724 t723 l1 _ _ _ (fun k_ => some k_ ≠ (.slice Ao32 t719.length co32 : Value).ownBlock) (fun _ => False) rfl rfl ?aO ?aR (fun _ _ h => h) (fun _ h => h.elim) ?aF ?aB ?aS ?aL ?_; (case aR => exact Kd.cu_ (Kd.C_below HR1.out HB.out)); (case aB => exact bw_); (case aF => exact (fun k_ hk => Kd.fresh' (Kd.R_lt (Kd.ru_ HO722.out)) k_ hk)); (case aO => exact (by (with_reducible repeat (first | apply Kd.rA_ | apply Kd.rN_ | apply Kd.rD_)); exact Kd.R_mono HO725.out (fun _ hk => hk.2))); (case aS => exact (pbS_ bw_)); (case aL => have := LMc10.out; omega); intro v727 w34 ho hb hg hat; rw [← Ny726.out] at ho; have n0_ := Aside0.mk (Kd.R_after (ok := (fun _ => True)) (Kd.ru_ HO722.out) hg hat); have n1_ := Aside0.mk (hb); have n2_ := Aside0.mk (ho); clear HO722; clear HB; clear HO725; have HO722 := n0_; have HB := n1_; have HO728 := n2_; clear n0_ n1_ n2_; clear ho hb hg hat; obtain ⟨Ao35, co35, eo35⟩ := Kd.R_slice HO728.out; subst eo35) | ((with_reducible refine gaC_ (f := 24) rfl ?_); refine goesL_ (some 30) rfl rfl Try.func24 (by kernel_rfl) rfl #[.slice Ao35 y726.length co35] rfl (by (try simp only [List.map_toArray, List.map_cons, List.map_nil]); first | done | rfl | (simp only [List.length_drop, List.length_take]; rfl)) ?_; (with_reducible refine (ints_Take.calls k _ _ y726 t729 t730 t731 _ ?side1 ?side2 A11.out).mono ?_); (case side1 => exact Kd.cu_ (Kd.R_reads' HO728.out).2.2); (case side2 => exact (Kd.R_reads' HO728.out).2.1); rintro e w36 ⟨v732, rfl, ho0, hb⟩; refine ⟨_, rfl, ?_⟩; replace HO722 := Aside0.mk (Kd.R_below (Kd.ru_ HO722.out) hb); replace HO728 := Aside0.mk (Kd.R_below (Kd.ru_ HO728.out) hb); have HO733 := Aside0.mk (Kd.R_lower ho0 (pbS_ bw_)); replace HB := Aside0.mk (below_step bw_ hb); (try clear hb); (try clear hb2); (try clear hk); (try clear hi); (try clear ho0)))
   go_ret
   exact ⟨rf_, bw_⟩
  rw [if_pos c12] at H
  have c12b0 : (t731 == 0) = true := beq_iff_eq.mpr c12
  have c12b1 : (t731 != 0) = false := bne_eq_false_iff_eq.mpr c12
  clear c12
  by_cases c13 : t730 = (t719.length : Int)
  rotate_left
  ·rw [if_neg c13] at H
   have c13b0 : (t730 == (t719.length : Int)) = false := beq_eq_false_iff_ne.mpr c13
   have c13b1 : (t730 != (t719.length : Int)) = true := bne_iff_ne.mpr c13
   obtain rfl := Option.some.inj H
   go_enter Try.func8, Try.ntmps8
   go_wp2_with (first | ((with_reducible refine gaC_ (f := 9) rfl ?_); refine goesL_ (some 10) rfl rfl Try.func9 (by kernel_rfl) rfl #[] rfl (by (try simp only [List.map_toArray, List.map_cons, List.map_nil]); first | done | rfl | (simp only [List.length_drop, List.length_take]; rfl)) ?_; (with_reducible refine (dragnetlaw10_alive.calls k  true _ A3.out).mono ?_); rintro e w23 ⟨rfl, hb⟩; refine ⟨_, rfl, ?_⟩; replace HB := Aside0.mk (below_step bw_ hb); (try clear hb); (try clear hb2); (try clear hk); (try clear hi)) | ((with_reducible refine gaC_ (f := 12) rfl ?_); refine goesL_ (some 17) rfl rfl Try.func12 (by kernel_rfl) rfl #[.slice none 0 0, .slice A0 l0.length c0] rfl (by (try simp only [List.map_toArray, List.map_cons, List.map_nil]); first | done | rfl | (simp only [List.length_drop, List.length_take]; rfl)) ?_; (refine (ints_Put.calls k _ _ ([] : List Int) _ _ l0 t719 t720 _ ?side1 ?side2 ?side3 ?side4 A7.out).mono ?_); (case side1 => exact Kd.C_nil _ _); (case side2 => exact Nat.le_refl _); (case side3 => exact Kd.cu_ (Kd.C_below HR0.out HB.out)); (case side4 => exact HC0.out); rintro e w24 ⟨v721, rfl, ho0, hb⟩; refine ⟨_, rfl, ?_⟩; have HO722 := Aside0.mk (Kd.R_lower ho0 (pbS_ bw_)); replace HB := Aside0.mk (below_step bw_ hb); (try clear hb); (try clear hb2); (try clear hk); (try clear hi); (try clear ho0); obtain ⟨Ao25, co25, eo25⟩ := Kd.R_slice HO722.out; subst eo25) | ((with_reducible refine gaC_ (f := 10) rfl ?_); refine goesL_ (some 27) rfl rfl Try.func10 (by kernel_rfl) rfl #[.slice Ao25 t719.length co25] rfl (by (try simp only [List.map_toArray, List.map_cons, List.map_nil]); first | done | rfl | (simp only [List.length_drop, List.length_take]; rfl)) ?_; (with_reducible refine (dragnetref01_Copy.calls _ _ t719 t723 _ ?side1 ?side2 A9.out).mono ?_); (case side1 => exact Kd.cu_ (Kd.R_reads' HO722.out).2.2); (case side2 => exact (Kd.R_reads' HO722.out).2.1); rintro e w26 ⟨v724, rfl, ho0, hb⟩; refine ⟨_, rfl, ?_⟩; have n0_ := Aside0.mk (Kd.R_elder' (Kd.ru_ HO722.out) (Kd.R_base ho0) hb); have n1_ := Aside0.mk (Kd.R_lower (Kd.R_new' ho0 (Kd.R_lt (Kd.ru_ HO722.out))) (pbS_ bw_)); have n2_ := Aside0.mk (below_step bw_ hb); clear HO722; clear HB; have HO722 := n0_; have HO725 := n1_; have HB := n2_; clear n0_ n1_ n2_; (try clear hb); (try clear hb2); (try clear hk); (try clear hi); (try clear ho0)) | ((with_reducible refine gate_builtin (b := .append) (xs := #[.tmp 27, .tmp 28]) rfl ?_); (try (refine gate_guard (by rfl) ?_; dsimp only)); at_builtin; refine Kd.R_append_rows (Kd.int .u8) (w0 := w) w.heap.size rfl (.tmp 27) (.tmp 28) 22 5 (.int .u8 0) 1 rfl Try.underlying22 info5 rfl (by decide) (by omega) v724 t723 l1 _ _ _ (fun k_ => some k_ ≠ (.slice Ao25 t719.length co25 : Value).ownBlock) (fun _ => False) rfl rfl ?aO ?aR (fun _ _ h => h) (fun _ h => h.elim) ?aF ?aB ?aS ?aL ?_; (case aR => exact Kd.cu_ (Kd.C_below HR1.out HB.out)); (case aB => exact bw_); (case aF => exact (fun k_ hk => Kd.fresh' (Kd.R_lt (Kd.ru_ HO722.out)) k_ hk)); (case aO => exact (by (with_reducible repeat (first | apply Kd.rA_ | apply Kd.rN_ | apply Kd.rD_)); exact Kd.R_mono HO725.out (fun _ hk => hk.2))); (case aS => exact (pbS_ bw_)); (case aL => have := LMc10.out; omega); intro v727 w27 ho hb hg hat; rw [← Ny726.out] at ho; have n0_ := Aside0.mk (Kd.R_after (ok := (fun _ => True)) (Kd.ru_ HO722.out) hg hat); have n1_ := Aside0.mk (hb); have n2_ := Aside0.mk (ho); clear HO722; clear HB; clear HO725; have HO722 := n0_; have HB := n1_; have HO728 := n2_; clear n0_ n1_ n2_; clear ho hb hg hat; obtain ⟨Ao28, co28, eo28⟩ := Kd.R_slice HO728.out; subst eo28) | ((with_reducible refine gaC_ (f := 24) rfl ?_); refine goesL_ (some 30) rfl rfl Try.func24 (by kernel_rfl) rfl #[.slice Ao28 y726.length co28] rfl (by (try simp only [List.map_toArray, List.map_cons, List.map_nil]); first | done | rfl | (simp only [List.length_drop, List.length_take]; rfl)) ?_; (with_reducible refine (ints_Take.calls k _ _ y726 t729 t730 t731 _ ?side1 ?side2 A11.out).mono ?_); (case side1 => exact Kd.cu_ (Kd.R_reads' HO728.out).2.2); (case side2 => exact (Kd.R_reads' HO728.out).2.1); rintro e w29 ⟨v732, rfl, ho0, hb⟩; refine ⟨_, rfl, ?_⟩; replace HO722 := Aside0.mk (Kd.R_below (Kd.ru_ HO722.out) hb); replace HO728 := Aside0.mk (Kd.R_below (Kd.ru_ HO728.out) hb); have HO733 := Aside0.mk (Kd.R_lower ho0 (pbS_ bw_)); replace HB := Aside0.mk (below_step bw_ hb); (try clear hb); (try clear hb2); (try clear hk); (try clear hi); (try clear ho0)))
   go_ret
   exact ⟨rf_, bw_⟩
  rw [if_pos c13] at H
  have c13b0 : (t730 == (t719.length : Int)) = true := beq_iff_eq.mpr c13
  have c13b1 : (t730 != (t719.length : Int)) = false := bne_eq_false_iff_eq.mpr c13
  clear c13
  replace H := Option.bind_eq_some_iff.mp H
  obtain ⟨t734, A140, H⟩ := H
  replace H : (some t734) = some r := H
  have A14 := Aside0.mk A140
  clear A140
  obtain rfl := Option.some.inj H
  go_enter Try.func8, Try.ntmps8
  go_wp2_with (first | ((with_reducible refine gaC_ (f := 9) rfl ?_); refine goesL_ (some 10) rfl rfl Try.func9 (by kernel_rfl) rfl #[] rfl (by (try simp only [List.map_toArray, List.map_cons, List.map_nil]); first | done | rfl | (simp only [List.length_drop, List.length_take]; rfl)) ?_; (with_reducible refine (dragnetlaw10_alive.calls k  true _ A3.out).mono ?_); rintro e w15 ⟨rfl, hb⟩; refine ⟨_, rfl, ?_⟩; replace HB := Aside0.mk (below_step bw_ hb); (try clear hb); (try clear hb2); (try clear hk); (try clear hi)) | ((with_reducible refine gaC_ (f := 12) rfl ?_); refine goesL_ (some 17) rfl rfl Try.func12 (by kernel_rfl) rfl #[.slice none 0 0, .slice A0 l0.length c0] rfl (by (try simp only [List.map_toArray, List.map_cons, List.map_nil]); first | done | rfl | (simp only [List.length_drop, List.length_take]; rfl)) ?_; (refine (ints_Put.calls k _ _ ([] : List Int) _ _ l0 t719 t720 _ ?side1 ?side2 ?side3 ?side4 A7.out).mono ?_); (case side1 => exact Kd.C_nil _ _); (case side2 => exact Nat.le_refl _); (case side3 => exact Kd.cu_ (Kd.C_below HR0.out HB.out)); (case side4 => exact HC0.out); rintro e w16 ⟨v721, rfl, ho0, hb⟩; refine ⟨_, rfl, ?_⟩; have HO722 := Aside0.mk (Kd.R_lower ho0 (pbS_ bw_)); replace HB := Aside0.mk (below_step bw_ hb); (try clear hb); (try clear hb2); (try clear hk); (try clear hi); (try clear ho0); obtain ⟨Ao17, co17, eo17⟩ := Kd.R_slice HO722.out; subst eo17) | ((with_reducible refine gaC_ (f := 10) rfl ?_); refine goesL_ (some 27) rfl rfl Try.func10 (by kernel_rfl) rfl #[.slice Ao17 t719.length co17] rfl (by (try simp only [List.map_toArray, List.map_cons, List.map_nil]); first | done | rfl | (simp only [List.length_drop, List.length_take]; rfl)) ?_; (with_reducible refine (dragnetref01_Copy.calls _ _ t719 t723 _ ?side1 ?side2 A9.out).mono ?_); (case side1 => exact Kd.cu_ (Kd.R_reads' HO722.out).2.2); (case side2 => exact (Kd.R_reads' HO722.out).2.1); rintro e w18 ⟨v724, rfl, ho0, hb⟩; refine ⟨_, rfl, ?_⟩; have n0_ := Aside0.mk (Kd.R_elder' (Kd.ru_ HO722.out) (Kd.R_base ho0) hb); have n1_ := Aside0.mk (Kd.R_lower (Kd.R_new' ho0 (Kd.R_lt (Kd.ru_ HO722.out))) (pbS_ bw_)); have n2_ := Aside0.mk (below_step bw_ hb); clear HO722; clear HB; have HO722 := n0_; have HO725 := n1_; have HB := n2_; clear n0_ n1_ n2_; (try clear hb); (try clear hb2); (try clear hk); (try clear hi); (try clear ho0)) | ((with_reducible refine gate_builtin (b := .append) (xs := #[.tmp 27, .tmp 28]) rfl ?_); (try (refine gate_guard (by rfl) ?_; dsimp only)); at_builtin; refine Kd.R_append_rows (Kd.int .u8) (w0 := w) w.heap.size rfl (.tmp 27) (.tmp 28) 22 5 (.int .u8 0) 1 rfl Try.underlying22 info5 rfl (by decide) (by omega) v724 t723 l1 _ _ _ (fun k_ => some k_ ≠ (.slice Ao17 t719.length co17 : Value).ownBlock) (fun _ => False) rfl rfl ?aO ?aR (fun _ _ h => h) (fun _ h => h.elim) ?aF ?aB ?aS ?aL ?_; (case aR => exact Kd.cu_ (Kd.C_below HR1.out HB.out)); (case aB => exact bw_); (case aF => exact (fun k_ hk => Kd.fresh' (Kd.R_lt (Kd.ru_ HO722.out)) k_ hk)); (case aO => exact (by (with_reducible repeat (first | apply Kd.rA_ | apply Kd.rN_ | apply Kd.rD_)); exact Kd.R_mono HO725.out (fun _ hk => hk.2))); (case aS => exact (pbS_ bw_)); (case aL => have := LMc10.out; omega); intro v727 w19 ho hb hg hat; rw [← Ny726.out] at ho; have n0_ := Aside0.mk (Kd.R_after (ok := (fun _ => True)) (Kd.ru_ HO722.out) hg hat); have n1_ := Aside0.mk (hb); have n2_ := Aside0.mk (ho); clear HO722; clear HB; clear HO725; have HO722 := n0_; have HB := n1_; have HO728 := n2_; clear n0_ n1_ n2_; clear ho hb hg hat; obtain ⟨Ao20, co20, eo20⟩ := Kd.R_slice HO728.out; subst eo20) | ((with_reducible refine gaC_ (f := 24) rfl ?_); refine goesL_ (some 30) rfl rfl Try.func24 (by kernel_rfl) rfl #[.slice Ao20 y726.length co20] rfl (by (try simp only [List.map_toArray, List.map_cons, List.map_nil]); first | done | rfl | (simp only [List.length_drop, List.length_take]; rfl)) ?_; (with_reducible refine (ints_Take.calls k _ _ y726 t729 t730 t731 _ ?side1 ?side2 A11.out).mono ?_); (case side1 => exact Kd.cu_ (Kd.R_reads' HO728.out).2.2); (case side2 => exact (Kd.R_reads' HO728.out).2.1); rintro e w21 ⟨v732, rfl, ho0, hb⟩; refine ⟨_, rfl, ?_⟩; replace HO722 := Aside0.mk (Kd.R_below (Kd.ru_ HO722.out) hb); replace HO728 := Aside0.mk (Kd.R_below (Kd.ru_ HO728.out) hb); have HO733 := Aside0.mk (Kd.R_lower ho0 (pbS_ bw_)); replace HB := Aside0.mk (below_step bw_ hb); (try clear hb); (try clear hb2); (try clear hk); (try clear hi); (try clear ho0); obtain ⟨Ao22, co22, eo22⟩ := Kd.R_slice HO733.out; subst eo22) | (go_at_call 14; (with_reducible refine (dragnetref10_Same.calls k _ _ l0 _ _ t729 t734 _ ?side1 ?side2 ?side3 ?side4 A14.out).mono ?_); (case side1 => exact Kd.cu_ (Kd.C_below HR0.out HB.out)); (case side2 => exact HC0.out); (case side3 => exact Kd.cu_ (Kd.R_reads' HO733.out).2.2); (case side4 => exact (Kd.R_reads' HO733.out).2.1); rintro e w' ⟨rfl, ⟨nd, rfl⟩⟩))
  go_ret
  exact ⟨rf_, bw_⟩
end Go.Proofs.Ytcjkmmajokkkfaa.P
end
