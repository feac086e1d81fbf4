/- Words and proofs that IntsTakes leans on; put together by wip/tools/shake.py. -/
import Derived.Test.YtcjkmmajokkkfaaZIntsTakes7
import Derived.Test.YtcjkmmajokkkfaaZIntsTakes13
import Derived.Test.YtcjkmmajokkkfaaZIntsTakes14
import Derived.Test.YtcjkmmajokkkfaaZIntsTakes15
section
namespace Go.Proofs.Ytcjkmmajokkkfaa.P
open Go.RowKit Go.Proofs.YtcjkmmajokkkfaaW.PrintWords Go.Proofs.YtcjkmmajokkkfaaW.PrintLast Go.Proofs.YtcjkmmajokkkfaaW.PrintMore
attribute [local go_sem] max2_int min2_int max_two min_two max_three min_three max_four min_four
set_option linter.unusedVariables false
set_option linter.unusedSimpArgs false
noncomputable def bytes_Equal.f (l0 : List Int) (l1 : List Int) : Option (Bool) := some ((strOfNums l0).toList == (strOfNums l1).toList)
set_option maxHeartbeats 8000000 in
set_option maxRecDepth 100000 in
theorem bytes_Equal.calls (A0 : Option Addr) (c0 : Nat) (l0 : List Int) (A1 : Option Addr) (c1 : Nat) (l1 : List Int) (r : Bool) (w : World) (hr0 : Kd.C (Kd.int .u8) w A0 l0.length l0) (hc0 : l0.length ≤ c0) (hr1 : Kd.C (Kd.int .u8) w A1 l1.length l1) (hc1 : l1.length ≤ c1) (h : bytes_Equal.f l0 l1 = some r) :
  Calls Try.prog 75 #[.slice A0 l0.length c0, .slice A1 l1.length c1] w fun e w' => e = .returned (.bool r) ∧ Drawn0 w w' := by
 have HR0 := Aside0.mk hr0
 have HC0 := Aside0.mk hc0
 clear hr0 hc0
 have HR1 := Aside0.mk hr1
 have HC1 := Aside0.mk hc1
 clear hr1 hc1
 have H : (some ((strOfNums l0).toList == (strOfNums l1).toList)) = some r := h
 clear h
 obtain rfl := Option.some.inj H
 have hcv3 := Kd.C_string (P := Try.prog) (A := A0) (c := c0) Try.underlying22 Try.underlying5 Try.underlying9 HR0.out
 have hcv4 := Kd.C_string (P := Try.prog) (A := A1) (c := c1) Try.underlying22 Try.underlying5 Try.underlying9 HR1.out
 go_enter Try.func75, Try.ntmps75
 go_wp2
 go_ret
 exact ⟨by first | rfl | (simp; done) | (simp [*]; done), by repeat (first | exact Drawn0.refl _ | apply Drawn0.step)⟩
noncomputable def pfor_TakeBlock.f (k : Nat) (l0 : List Int) : Option (List Int × Int × Int) := (pfor_read.f k l0).bind fun bt537 => (if bt537.2.2 = true then ((pfor_PutBlock.f k ([] : List Int) bt537.1).bind fun bt542 => (if bt542.2 = 0 then (if 0 ≤ bt537.2.1 then (if bt537.2.1 ≤ (l0.length : Int) then ((bytes_Equal.f bt542.1 (l0.take (bt537.2.1 : Int).toNat)).bind fun t547 => (if t547 = true then (some (bt537.1, bt537.2.1, 0)) else (some (([] : List Int), 0, 2)))) else (none)) else (none)) else (some (([] : List Int), 0, 2)))) else (some (([] : List Int), 0, 2)))
theorem pfor_TakeBlock.mono : ∀ a0 k, LeO (pfor_TakeBlock.f k a0) (pfor_TakeBlock.f (k + 1) a0) := by
 intro a0 k
 unfold pfor_TakeBlock.f
 repeat' first
   | (with_reducible exact pfor_PutBlock.mono _ _ _)
   | (with_reducible exact pfor_read.mono _ _)
   | (with_reducible exact LeO.refl _)
   | (with_reducible exact LeO.none _)
   | (with_reducible refine LeO.ite ?_ ?_)
   | (with_reducible refine LeO.bind ?_ (fun _ => ?_))
set_option maxHeartbeats 8000000 in
set_option maxRecDepth 100000 in
theorem pfor_TakeBlock.calls (k : Nat) (A0 : Option Addr) (c0 : Nat) (l0 : List Int) (r1 : List Int) (r2 : Int) (r3 : Int) (w : World) (hr0 : Kd.C (Kd.int .u8) w A0 l0.length l0) (hc0 : l0.length ≤ c0) (h : pfor_TakeBlock.f k l0 = some (r1, r2, r3)) :
  Calls Try.prog 65 #[.slice A0 l0.length c0] w fun e w' => ∃ v0_ : Value, e = .returned (.tuple #[v0_, .int .i64 r2, .int .i64 r3]) ∧ Kd.R (Kd.int .u64) 50 w' w.heap.size (fun _ => True) v0_ r1 ∧ Below w.heap.size w w' := by
 have HR0 := Aside0.mk hr0
 have HC0 := Aside0.mk hc0
 clear hr0 hc0
 have HB := Aside0.mk (Below.refl w.heap.size w)
 have H : ((pfor_read.f k l0).bind fun bt537 => (if bt537.2.2 = true then ((pfor_PutBlock.f k ([] : List Int) bt537.1).bind fun bt542 => (if bt542.2 = 0 then (if 0 ≤ bt537.2.1 then (if bt537.2.1 ≤ (l0.length : Int) then ((bytes_Equal.f bt542.1 (l0.take (bt537.2.1 : Int).toNat)).bind fun t547 => (if t547 = true then (some (bt537.1, bt537.2.1, 0)) else (some (([] : List Int), 0, 2)))) else (none)) else (none)) else (some (([] : List Int), 0, 2)))) else (some (([] : List Int), 0, 2)))) = some (r1, r2, r3) := h
 clear h
 replace H := Option.bind_eq_some_iff.mp H
 obtain ⟨⟨t537, t538, t539⟩, A20, H⟩ := H
 replace H : (if t539 = true then ((pfor_PutBlock.f k ([] : List Int) t537).bind fun bt542 => (if bt542.2 = 0 then (if 0 ≤ t538 then (if t538 ≤ (l0.length : Int) then ((bytes_Equal.f bt542.1 (l0.take (t538 : Int).toNat)).bind fun t547 => (if t547 = true then (some (t537, t538, 0)) else (some (([] : List Int), 0, 2)))) else (none)) else (none)) else (some (([] : List Int), 0, 2)))) else (some (([] : List Int), 0, 2))) = some (r1, r2, r3) := H
 have A2 := Aside0.mk A20
 clear A20
 by_cases c3 : t539 = true
 rotate_left
 ·replace c3 := Bool.eq_false_iff.mpr c3
  subst c3
  have H1 : (some (([] : List Int), 0, 2)) = some (r1, r2, r3) := by rw [if_neg (show ¬ (false = true) by decide)] at H; exact H
  clear H
  have H := H1
  clear H1
  simp only [Option.some.injEq, Prod.mk.injEq] at H
  obtain ⟨rfl, rfl, rfl⟩ := H
  go_enter Try.func65, Try.ntmps65
  go_wp2_with (first | ((with_reducible refine gaC_ (f := 74) rfl ?_); refine goesL_ (some 12) rfl rfl Try.func74 (by kernel_rfl) rfl #[.slice A0 l0.length c0] rfl (by (try simp only [List.map_toArray, List.map_cons, List.map_nil]); first | done | rfl | (simp only [List.length_drop, List.length_take]; rfl)) ?_; (with_reducible refine (pfor_read.calls k _ _ l0 t537 t538 false _ ?side1 ?side2 A2.out).mono ?_); (case side1 => exact Kd.cu_ HR0.out); (case side2 => exact HC0.out); rintro e w23 ⟨v540, rfl, ho0, hb⟩; refine ⟨_, rfl, ?_⟩; have HO541 := Aside0.mk (Kd.R_lower ho0 (pbS_ bw_)); replace HB := Aside0.mk (below_step bw_ hb); (try clear hb); (try clear hb2); (try clear hk); (try clear hi); (try clear ho0)))
  go_ret3
  exact ⟨_, rf_, ni_, bw_⟩
 subst c3
 have H1 : ((pfor_PutBlock.f k ([] : List Int) t537).bind fun bt542 => (if bt542.2 = 0 then (if 0 ≤ t538 then (if t538 ≤ (l0.length : Int) then ((bytes_Equal.f bt542.1 (l0.take (t538 : Int).toNat)).bind fun t547 => (if t547 = true then (some (t537, t538, 0)) else (some (([] : List Int), 0, 2)))) else (none)) else (none)) else (some (([] : List Int), 0, 2)))) = some (r1, r2, r3) := by rw [if_pos rfl] at H; exact H
 clear H
 have H := H1
 clear H1
 replace H := Option.bind_eq_some_iff.mp H
 obtain ⟨⟨t542, t543⟩, A40, H⟩ := H
 replace H : (if t543 = 0 then (if 0 ≤ t538 then (if t538 ≤ (l0.length : Int) then ((bytes_Equal.f t542 (l0.take (t538 : Int).toNat)).bind fun t547 => (if t547 = true then (some (t537, t538, 0)) else (some (([] : List Int), 0, 2)))) else (none)) else (none)) else (some (([] : List Int), 0, 2))) = some (r1, r2, r3) := H
 have A4 := Aside0.mk A40
 clear A40
 by_cases c5 : t543 = 0
 rotate_left
 ·rw [if_neg c5] at H
  have c5b0 : (t543 == 0) = false := beq_eq_false_iff_ne.mpr c5
  have c5b1 : (t543 != 0) = true := bne_iff_ne.mpr c5
  simp only [Option.some.injEq, Prod.mk.injEq] at H
  obtain ⟨rfl, rfl, rfl⟩ := H
  go_enter Try.func65, Try.ntmps65
  go_wp2_with (first | ((with_reducible refine gaC_ (f := 74) rfl ?_); refine goesL_ (some 12) rfl rfl Try.func74 (by kernel_rfl) rfl #[.slice A0 l0.length c0] rfl (by (try simp only [List.map_toArray, List.map_cons, List.map_nil]); first | done | rfl | (simp only [List.length_drop, List.length_take]; rfl)) ?_; (with_reducible refine (pfor_read.calls k _ _ l0 t537 t538 true _ ?side1 ?side2 A2.out).mono ?_); (case side1 => exact Kd.cu_ HR0.out); (case side2 => exact HC0.out); rintro e w20 ⟨v540, rfl, ho0, hb⟩; refine ⟨_, rfl, ?_⟩; have HO541 := Aside0.mk (Kd.R_lower ho0 (pbS_ bw_)); replace HB := Aside0.mk (below_step bw_ hb); (try clear hb); (try clear hb2); (try clear hk); (try clear hi); (try clear ho0); obtain ⟨Ao21, co21, eo21⟩ := Kd.R_slice HO541.out; subst eo21) | ((with_reducible refine gaC_ (f := 62) rfl ?_); refine goesL_ (some 20) rfl rfl Try.func62 (by kernel_rfl) rfl #[.slice none 0 0, .slice Ao21 t537.length co21] rfl (by (try simp only [List.map_toArray, List.map_cons, List.map_nil]); first | done | rfl | (simp only [List.length_drop, List.length_take]; rfl)) ?_; (refine (pfor_PutBlock.calls k _ _ ([] : List Int) _ _ t537 t542 t543 _ ?side1 ?side2 ?side3 ?side4 A4.out).mono ?_); (case side1 => exact Kd.C_nil _ _); (case side2 => exact Nat.le_refl _); (case side3 => exact Kd.cu_ (Kd.R_reads' HO541.out).2.2); (case side4 => exact (Kd.R_reads' HO541.out).2.1); rintro e w22 ⟨v544, rfl, ho0, hb⟩; refine ⟨_, rfl, ?_⟩; replace HO541 := Aside0.mk (Kd.R_below (Kd.ru_ HO541.out) hb); have HO545 := Aside0.mk (Kd.R_lower ho0 (pbS_ bw_)); replace HB := Aside0.mk (below_step bw_ hb); (try clear hb); (try clear hb2); (try clear hk); (try clear hi); (try clear ho0)))
  go_ret3
  exact ⟨_, rf_, ni_, bw_⟩
 rw [if_pos c5] at H
 have c5b0 : (t543 == 0) = true := beq_iff_eq.mpr c5
 have c5b1 : (t543 != 0) = false := bne_eq_false_iff_eq.mpr c5
 clear c5
 by_cases c6 : 0 ≤ t538
 rotate_left
 ·rw [if_neg c6] at H
  exact absurd H (by simp)
 rw [if_pos c6] at H
 have c6b0 := eq_true c6
 have c6b1 : decide (0 ≤ t538) = true := decide_eq_true c6
 clear c6
 by_cases c7 : t538 ≤ (l0.length : Int)
 rotate_left
 ·rw [if_neg c7] at H
  exact absurd H (by simp)
 rw [if_pos c7] at H
 have c7b0 := eq_true c7
 have c7b1 : decide (t538 ≤ (l0.length : Int)) = true := decide_eq_true c7
 clear c7
 replace H := Option.bind_eq_some_iff.mp H
 obtain ⟨t547, A80, H⟩ := H
 replace H : (if t547 = true then (some (t537, t538, 0)) else (some (([] : List Int), 0, 2))) = some (r1, r2, r3) := H
 have A8 := Aside0.mk A80
 clear A80
 by_cases c9 : t547 = true
 ·subst c9
  have H1 : (some (t537, t538, 0)) = some (r1, r2, r3) := by rw [if_pos rfl] at H; exact H
  clear H
  have H := H1
  clear H1
  simp only [Option.some.injEq, Prod.mk.injEq] at H
  obtain ⟨rfl, rfl, rfl⟩ := H
  go_enter Try.func65, Try.ntmps65
  go_wp2_with (first | ((with_reducible refine gaC_ (f := 74) rfl ?_); refine goesL_ (some 12) rfl rfl Try.func74 (by kernel_rfl) rfl #[.slice A0 l0.length c0] rfl (by (try simp only [List.map_toArray, List.map_cons, List.map_nil]); first | done | rfl | (simp only [List.length_drop, List.length_take]; rfl)) ?_; (with_reducible refine (pfor_read.calls k _ _ l0 t537 t538 true _ ?side1 ?side2 A2.out).mono ?_); (case side1 => exact Kd.cu_ HR0.out); (case side2 => exact HC0.out); rintro e w10 ⟨v540, rfl, ho0, hb⟩; refine ⟨_, rfl, ?_⟩; have HO541 := Aside0.mk (Kd.R_lower ho0 (pbS_ bw_)); replace HB := Aside0.mk (below_step bw_ hb); (try clear hb); (try clear hb2); (try clear hk); (try clear hi); (try clear ho0); obtain ⟨Ao11, co11, eo11⟩ := Kd.R_slice HO541.out; subst eo11) | ((with_reducible refine gaC_ (f := 62) rfl ?_); refine goesL_ (some 20) rfl rfl Try.func62 (by kernel_rfl) rfl #[.slice none 0 0, .slice Ao11 t537.length co11] rfl (by (try simp only [List.map_toArray, List.map_cons, List.map_nil]); first | done | rfl | (simp only [List.length_drop, List.length_take]; rfl)) ?_; (refine (pfor_PutBlock.calls k _ _ ([] : List Int) _ _ t537 t542 t543 _ ?side1 ?side2 ?side3 ?side4 A4.out).mono ?_); (case side1 => exact Kd.C_nil _ _); (case side2 => exact Nat.le_refl _); (case side3 => exact Kd.cu_ (Kd.R_reads' HO541.out).2.2); (case side4 => exact (Kd.R_reads' HO541.out).2.1); rintro e w12 ⟨v544, rfl, ho0, hb⟩; refine ⟨_, rfl, ?_⟩; replace HO541 := Aside0.mk (Kd.R_below (Kd.ru_ HO541.out) hb); have HO545 := Aside0.mk (Kd.R_lower ho0 (pbS_ bw_)); replace HB := Aside0.mk (below_step bw_ hb); (try clear hb); (try clear hb2); (try clear hk); (try clear hi); (try clear ho0); obtain ⟨i013, hi013, _, hsz13, _⟩ := info_parts info5; obtain ⟨hcut13, hA13, hC13⟩ := print_take_of (P := Try.prog) (Value.int .u8) 0 22 5 .i64 Try.underlying22 hi013 hsz13 A0 c0 l0 t538 od_ od_ HC0.out; have HR546 := Aside0.mk (Kd.C_of_reads (h1 := fun _ => rfl) (hA13 _ (Kd.reads_of_C HR0.out))); have HC546 := Aside0.mk hC13; clear hA13 hC13 hi013 hsz13; obtain ⟨Ao14, co14, eo14⟩ := Kd.R_slice HO545.out; subst eo14) | (go_at_call 75; refine calls_of_args (args' := #[.slice Ao14 t542.length co14, .slice A0 (l0.take (t538 : Int).toNat).length c0]) (by first | (rw [show (l0.take (t538 : Int).toNat).length = t538.toNat from (by rw [List.length_take]; have h_ : (t538 : Int) ≤ (l0.length : Int) := od_; omega)] <;> rfl) | (simp only [List.length_take, List.length_drop, Int.toNat_natCast] <;> rfl) | rfl) ?_; (with_reducible refine (bytes_Equal.calls _ _ t542 _ _ (l0.take (t538 : Int).toNat) true _ ?side1 ?side2 ?side3 ?side4 A8.out).mono ?_); (case side1 => exact Kd.cu_ (Kd.R_reads' HO545.out).2.2); (case side2 => exact (Kd.R_reads' HO545.out).2.1); (case side3 => exact Kd.cu_ (Kd.C_below HR546.out HB.out)); (case side4 => exact HC546.out); rintro e w' ⟨rfl, ⟨nd, rfl⟩⟩))
  go_ret3
  exact ⟨_, rf_, by (with_reducible repeat (first | apply Kd.rA_ | apply Kd.rN_ | apply Kd.rD_)); exact HO541.out, bw_⟩
 ·replace c9 := Bool.eq_false_iff.mpr c9
  subst c9
  have H1 : (some (([] : List Int), 0, 2)) = some (r1, r2, r3) := by rw [if_neg (show ¬ (false = true) by decide)] at H; exact H
  clear H
  have H := H1
  clear H1
  simp only [Option.some.injEq, Prod.mk.injEq] at H
  obtain ⟨rfl, rfl, rfl⟩ := H
  go_enter Try.func65, Try.ntmps65
  go_wp2_with (first | ((with_reducible refine gaC_ (f := 74) rfl ?_); refine goesL_ (some 12) rfl rfl Try.func74 (by kernel_rfl) rfl #[.slice A0 l0.length c0] rfl (by (try simp only [List.map_toArray, List.map_cons, List.map_nil]); first | done | rfl | (simp only [List.length_drop, List.length_take]; rfl)) ?_; (with_reducible refine (pfor_read.calls k _ _ l0 t537 t538 true _ ?side1 ?side2 A2.out).mono ?_); (case side1 => exact Kd.cu_ HR0.out); (case side2 => exact HC0.out); rintro e w15 ⟨v540, rfl, ho0, hb⟩; refine ⟨_, rfl, ?_⟩; have HO541 := Aside0.mk (Kd.R_lower ho0 (pbS_ bw_)); replace HB := Aside0.mk (below_step bw_ hb); (try clear hb); (try clear hb2); (try clear hk); (try clear hi); (try clear ho0); obtain ⟨Ao16, co16, eo16⟩ := Kd.R_slice HO541.out; subst eo16) | ((with_reducible refine gaC_ (f := 62) rfl ?_); refine goesL_ (some 20) rfl rfl Try.func62 (by kernel_rfl) rfl #[.slice none 0 0, .slice Ao16 t537.length co16] rfl (by (try simp only [List.map_toArray, List.map_cons, List.map_nil]); first | done | rfl | (simp only [List.length_drop, List.length_take]; rfl)) ?_; (refine (pfor_PutBlock.calls k _ _ ([] : List Int) _ _ t537 t542 t543 _ ?side1 ?side2 ?side3 ?side4 A4.out).mono ?_); (case side1 => exact Kd.C_nil _ _); (case side2 => exact Nat.le_refl _); (case side3 => exact Kd.cu_ (Kd.R_reads' HO541.out).2.2); (case side4 => exact (Kd.R_reads' HO541.out).2.1); rintro e w17 ⟨v544, rfl, ho0, hb⟩; refine ⟨_, rfl, ?_⟩; replace HO541 := Aside0.mk (Kd.R_below (Kd.ru_ HO541.out) hb); have HO545 := Aside0.mk (Kd.R_lower ho0 (pbS_ bw_)); replace HB := Aside0.mk (below_step bw_ hb); (try clear hb); (try clear hb2); (try clear hk); (try clear hi); (try clear ho0); obtain ⟨i018, hi018, _, hsz18, _⟩ := info_parts info5; obtain ⟨hcut18, hA18, hC18⟩ := print_take_of (P := Try.prog) (Value.int .u8) 0 22 5 .i64 Try.underlying22 hi018 hsz18 A0 c0 l0 t538 od_ od_ HC0.out; have HR546 := Aside0.mk (Kd.C_of_reads (h1 := fun _ => rfl) (hA18 _ (Kd.reads_of_C HR0.out))); have HC546 := Aside0.mk hC18; clear hA18 hC18 hi018 hsz18; obtain ⟨Ao19, co19, eo19⟩ := Kd.R_slice HO545.out; subst eo19) | (go_at_call 75; refine calls_of_args (args' := #[.slice Ao19 t542.length co19, .slice A0 (l0.take (t538 : Int).toNat).length c0]) (by first | (rw [show (l0.take (t538 : Int).toNat).length = t538.toNat from (by rw [List.length_take]; have h_ : (t538 : Int) ≤ (l0.length : Int) := od_; omega)] <;> rfl) | (simp only [List.length_take, List.length_drop, Int.toNat_natCast] <;> rfl) | rfl) ?_; (with_reducible refine (bytes_Equal.calls _ _ t542 _ _ (l0.take (t538 : Int).toNat) false _ ?side1 ?side2 ?side3 ?side4 A8.out).mono ?_); (case side1 => exact Kd.cu_ (Kd.R_reads' HO545.out).2.2); (case side2 => exact (Kd.R_reads' HO545.out).2.1); (case side3 => exact Kd.cu_ (Kd.C_below HR546.out HB.out)); (case side4 => exact HC546.out); rintro e w' ⟨rfl, ⟨nd, rfl⟩⟩))
  go_ret3
  exact ⟨_, rf_, ni_, bw_⟩
noncomputable def pfor_TakeList.l0 : Nat → List Int → Int → List Int → Int → Option (List Int × Int × Int)
 | 0, _, _, _, _ => none
 | k + 1, x0, x8, x10, x11 => if x11 > 0 then (if 0 ≤ x8 then (if x8 ≤ (x0.length : Int) then ((pfor_TakeBlock.f k (x0.drop (x8 : Int).toNat)).bind fun bt552 => (if bt552.2.2 = 0 then (if (bt552.1.length : Int) = (mn x11 32) then (if x10.length + bt552.1.length < 17592186044416 then (pfor_TakeList.l0 k x0 (wrap64 (x8 + bt552.2.1)) (x10 ++ bt552.1) (wrap64 (x11 - (bt552.1.length : Int)))) else (none)) else (some (([] : List Int), 0, 2))) else (some (([] : List Int), 0, 2)))) else (none)) else (none)) else (some (x10, x8, 0))
noncomputable def pfor_TakeList.f (k : Nat) (l0 : List Int) (a1 : Int) : Option (List Int × Int × Int) := if a1 < 0 then (some (([] : List Int), 0, 1)) else ((num_Take.f k l0).bind fun bt548 => (if bt548.2.2 = 0 then (if bt548.1 > (IntKind.u64.wrap (a1)) then (some (([] : List Int), 0, 5)) else (pfor_TakeList.l0 k l0 bt548.2.1 ([] : List Int) (wrap64 (bt548.1)))) else (some (([] : List Int), 0, 2))))
theorem pfor_TakeList.mono_l : ∀ k, (∀ y0 y1 y2 y3, LeO (pfor_TakeList.l0 k y0 y1 y2 y3) (pfor_TakeList.l0 (k + 1) y0 y1 y2 y3))
 | 0 => fun _ _ _ _ r h => by simp [pfor_TakeList.l0] at h
 | k + 1 => by
  have ih0 := pfor_TakeList.mono_l k
  ·intro y0 y1 y2 y3
   unfold pfor_TakeList.l0
   repeat' first
   | (with_reducible exact ih0 _ _ _ _)
   | (with_reducible exact num_Take.mono _ _)
   | (with_reducible exact pfor_TakeBlock.mono _ _)
   | (with_reducible exact LeO.refl _)
   | (with_reducible exact LeO.none _)
   | (with_reducible refine LeO.ite ?_ ?_)
   | (with_reducible refine LeO.bind ?_ (fun _ => ?_))
theorem pfor_TakeList.mono : ∀ a0 a1 k, LeO (pfor_TakeList.f k a0 a1) (pfor_TakeList.f (k + 1) a0 a1) := by
 intro a0 a1 k
 have ih0 := pfor_TakeList.mono_l k
 unfold pfor_TakeList.f
 repeat' first
   | (with_reducible exact ih0 _ _ _ _)
   | (with_reducible exact num_Take.mono _ _)
   | (with_reducible exact pfor_TakeBlock.mono _ _)
   | (with_reducible exact LeO.refl _)
   | (with_reducible exact LeO.none _)
   | (with_reducible refine LeO.ite ?_ ?_)
   | (with_reducible refine LeO.bind ?_ (fun _ => ?_))
set_option maxHeartbeats 8000000 in
set_option maxRecDepth 100000 in
theorem pfor_TakeList.calls (k : Nat) (A0 : Option Addr) (c0 : Nat) (l0 : List Int) (a1 : Int) (r1 : List Int) (r2 : Int) (r3 : Int) (w : World) (hr0 : Kd.C (Kd.int .u8) w A0 l0.length l0) (hc0 : l0.length ≤ c0) (h : pfor_TakeList.f k l0 a1 = some (r1, r2, r3)) :
  Calls Try.prog 56 #[.slice A0 l0.length c0, .int .i64 a1] w fun e w' => ∃ v0_ : Value, e = .returned (.tuple #[v0_, .int .i64 r2, .int .i64 r3]) ∧ Kd.R (Kd.int .u64) 50 w' w.heap.size (fun _ => True) v0_ r1 ∧ Below w.heap.size w w' := by
 have HR0 := Aside0.mk hr0
 have HC0 := Aside0.mk hc0
 clear hr0 hc0
 have HB := Aside0.mk (Below.refl w.heap.size w)
 have H : (if a1 < 0 then (some (([] : List Int), 0, 1)) else ((num_Take.f k l0).bind fun bt548 => (if bt548.2.2 = 0 then (if bt548.1 > (IntKind.u64.wrap (a1)) then (some (([] : List Int), 0, 5)) else (pfor_TakeList.l0 k l0 bt548.2.1 ([] : List Int) (wrap64 (bt548.1)))) else (some (([] : List Int), 0, 2))))) = some (r1, r2, r3) := h
 clear h
 by_cases c3 : a1 < 0
 ·rw [if_pos c3] at H
  have c3b0 : decide (a1 < 0) = true := decide_eq_true c3
  clear c3
  simp only [Option.some.injEq, Prod.mk.injEq] at H
  obtain ⟨rfl, rfl, rfl⟩ := H
  go_enter Try.func56, Try.ntmps56
  go_wp2
  go_ret3
  exact ⟨_, rf_, ni_, bw_⟩
 ·rw [if_neg c3] at H
  have c3b0 : decide (a1 < 0) = false := decide_eq_false c3
  clear c3
  replace H := Option.bind_eq_some_iff.mp H
  obtain ⟨⟨t548, t549, t550⟩, A40, H⟩ := H
  replace H : (if t550 = 0 then (if t548 > (IntKind.u64.wrap (a1)) then (some (([] : List Int), 0, 5)) else (pfor_TakeList.l0 k l0 t549 ([] : List Int) (wrap64 (t548)))) else (some (([] : List Int), 0, 2))) = some (r1, r2, r3) := H
  have A4 := Aside0.mk A40
  clear A40
  by_cases c5 : t550 = 0
  rotate_left
  ·rw [if_neg c5] at H
   have c5b0 : (t550 == 0) = false := beq_eq_false_iff_ne.mpr c5
   have c5b1 : (t550 != 0) = true := bne_iff_ne.mpr c5
   simp only [Option.some.injEq, Prod.mk.injEq] at H
   obtain ⟨rfl, rfl, rfl⟩ := H
   go_enter Try.func56, Try.ntmps56
   go_wp2_with (first | ((with_reducible refine gaC_ (f := 38) rfl ?_); refine goesL_ (some 19) rfl rfl Try.func38 (by kernel_rfl) rfl #[.slice A0 l0.length c0] rfl (by (try simp only [List.map_toArray, List.map_cons, List.map_nil]); first | done | rfl | (simp only [List.length_drop, List.length_take]; rfl)) ?_; (with_reducible refine (num_Take.calls k _ _ l0 t548 t549 t550 _ ?side1 ?side2 A4.out).mono ?_); (case side1 => exact Kd.cu_ HR0.out); (case side2 => exact HC0.out); rintro e w' ⟨rfl, ⟨nd, rfl⟩⟩; refine ⟨_, rfl, ?_⟩))
   go_ret3
   exact ⟨_, rf_, ni_, bw_⟩
  rw [if_pos c5] at H
  have c5b0 : (t550 == 0) = true := beq_iff_eq.mpr c5
  have c5b1 : (t550 != 0) = false := bne_eq_false_iff_eq.mpr c5
  clear c5
  by_cases c6 : t548 > (IntKind.u64.wrap (a1))
  ·rw [if_pos c6] at H
   have c6b0 : decide ((IntKind.u64.wrap (a1)) < t548) = true := decide_eq_true c6
   clear c6
   simp only [Option.some.injEq, Prod.mk.injEq] at H
   obtain ⟨rfl, rfl, rfl⟩ := H
   go_enter Try.func56, Try.ntmps56
   go_wp2_with (first | ((with_reducible refine gaC_ (f := 38) rfl ?_); refine goesL_ (some 19) rfl rfl Try.func38 (by kernel_rfl) rfl #[.slice A0 l0.length c0] rfl (by (try simp only [List.map_toArray, List.map_cons, List.map_nil]); first | done | rfl | (simp only [List.length_drop, List.length_take]; rfl)) ?_; (with_reducible refine (num_Take.calls k _ _ l0 t548 t549 t550 _ ?side1 ?side2 A4.out).mono ?_); (case side1 => exact Kd.cu_ HR0.out); (case side2 => exact HC0.out); rintro e w' ⟨rfl, ⟨nd, rfl⟩⟩; refine ⟨_, rfl, ?_⟩))
   go_ret3
   exact ⟨_, rf_, ni_, bw_⟩
  ·rw [if_neg c6] at H
   have c6b0 : decide ((IntKind.u64.wrap (a1)) < t548) = false := decide_eq_false c6
   clear c6
   have H' := Aside0.mk H
   clear H
   go_enter Try.func56, Try.ntmps56
   go_wp2_with (first | ((with_reducible refine gaC_ (f := 38) rfl ?_); refine goesL_ (some 19) rfl rfl Try.func38 (by kernel_rfl) rfl #[.slice A0 l0.length c0] rfl (by (try simp only [List.map_toArray, List.map_cons, List.map_nil]); first | done | rfl | (simp only [List.length_drop, List.length_take]; rfl)) ?_; (with_reducible refine (num_Take.calls k _ _ l0 t548 t549 t550 _ ?side1 ?side2 A4.out).mono ?_); (case side1 => exact Kd.cu_ HR0.out); (case side2 => exact HC0.out); rintro e w' ⟨rfl, ⟨nd, rfl⟩⟩; refine ⟨_, rfl, ?_⟩))
   go_loopg [8, 10, 11] k (fun kq v8 v10 v11 w' => ∃ (x8_1 : Int) (x10_1 : List Int) (x11_1 : Int), v8 = .int .i64 x8_1 ∧ v11 = .int .i64 x11_1 ∧ Aside0 (pfor_TakeList.l0 kq l0 x8_1 x10_1 x11_1 = some (r1, r2, r3)) ∧ Aside0 (kq ≤ k) ∧ Aside0 (Kd.R (Kd.int .u64) 50 w' w.heap.size (fun _ => True) v10 x10_1) ∧ Aside0 (Below w.heap.size w w'))
   case atStart => exact ⟨(t549), (([] : List Int)), (wrap64 (t548)), (by first | rfl | (simp; done) | (simp [*]; done)), (by first | rfl | (simp; done) | (simp [*]; done)), H', ⟨Nat.le_refl _⟩, ⟨ni_⟩, ⟨bw_⟩⟩
   case round =>
    clear H'
    try clear p2
    try clear c3
    try clear c3b0
    try clear c5
    try clear c5b0
    try clear c5b1
    try clear c6
    try clear c6b0
    try clear p6
    obtain ⟨x8_1, x10_1, x11_1, rfl, rfl, HA, HK1, HO_10, HB⟩ := hrel
    cases gk with
    | zero => exact absurd HA.out (by simp [pfor_TakeList.l0])
    | succ k1 =>
     have H := HA.out
     clear HA
     simp only [pfor_TakeList.l0] at H
     by_cases c7 : x11_1 > 0
     rotate_left
     ·rw [if_neg c7] at H
      have c7b0 : decide (0 < x11_1) = false := decide_eq_false c7
      clear c7
      simp only [Option.some.injEq, Prod.mk.injEq] at H
      obtain ⟨rfl, rfl, rfl⟩ := H
      go_wp2
      go_ret3
      exact ⟨_, rf_, by (with_reducible repeat (first | apply Kd.rA_ | apply Kd.rN_ | apply Kd.rD_)); exact HO_10.out, bw_⟩
     rw [if_pos c7] at H
     have c7b0 : decide (0 < x11_1) = true := decide_eq_true c7
     clear c7
     by_cases c8 : 0 ≤ x8_1
     rotate_left
     ·rw [if_neg c8] at H
      exact absurd H (by simp)
     rw [if_pos c8] at H
     have c8b0 := eq_true c8
     have c8b1 : decide (0 ≤ x8_1) = true := decide_eq_true c8
     clear c8
     by_cases c9 : x8_1 ≤ (l0.length : Int)
     rotate_left
     ·rw [if_neg c9] at H
      exact absurd H (by simp)
     rw [if_pos c9] at H
     have c9b0 := eq_true c9
     have c9b1 : decide (x8_1 ≤ (l0.length : Int)) = true := decide_eq_true c9
     clear c9
     replace H := Option.bind_eq_some_iff.mp H
     obtain ⟨⟨t552, t553, t554⟩, A100, H⟩ := H
     replace H : (if t554 = 0 then (if (t552.length : Int) = (mn x11_1 32) then (if x10_1.length + t552.length < 17592186044416 then (pfor_TakeList.l0 k1 l0 (wrap64 (x8_1 + t553)) (x10_1 ++ t552) (wrap64 (x11_1 - (t552.length : Int)))) else (none)) else (some (([] : List Int), 0, 2))) else (some (([] : List Int), 0, 2))) = some (r1, r2, r3) := H
     have A10 := Aside0.mk A100
     clear A100
     by_cases c11 : t554 = 0
     rotate_left
     ·rw [if_neg c11] at H
      have c11b0 : (t554 == 0) = false := beq_eq_false_iff_ne.mpr c11
      have c11b1 : (t554 != 0) = true := bne_iff_ne.mpr c11
      simp only [Option.some.injEq, Prod.mk.injEq] at H
      obtain ⟨rfl, rfl, rfl⟩ := H
      obtain ⟨i022, hi022, _, hsz22, _⟩ := info_parts info5
      obtain ⟨A22, hcut22, hA22, hC22⟩ := print_drop_of (P := Try.prog) (Value.int .u8) 0 22 5 .i64 Try.underlying22 hi022 hsz22 A0 c0 l0 x8_1 od_ od_ HC0.out
      have HR551 := Aside0.mk (Kd.C_of_reads (h1 := fun _ => rfl) (hA22 _ (Kd.reads_of_C HR0.out)))
      have HC551 := Aside0.mk hC22
      clear hA22 hC22 hi022 hsz22
      go_wp2_with (first | ((with_reducible refine gaC_ (f := 65) rfl ?_); refine goesL_ (some 37) rfl rfl Try.func65 (by kernel_rfl) rfl #[.slice A22 (l0.drop (x8_1 : Int).toNat).length (c0 - x8_1.toNat)] rfl (by (try simp only [List.map_toArray, List.map_cons, List.map_nil]); first | done | (rw [show (l0.drop (x8_1 : Int).toNat).length = (l0.length - x8_1.toNat) from List.length_drop] <;> rfl) | rfl | (simp only [List.length_drop, List.length_take]; rfl)) ?_; (with_reducible refine (pfor_TakeBlock.calls k1 _ _ (l0.drop (x8_1 : Int).toNat) t552 t553 t554 _ ?side1 ?side2 A10.out).mono ?_); (case side1 => exact Kd.cu_ (Kd.C_below HR551.out HB.out)); (case side2 => exact HC551.out); rintro e w23 ⟨v555, rfl, ho0, hb⟩; refine ⟨_, rfl, ?_⟩; have n0_ := Aside0.mk (Kd.R_elder' (Kd.ru_ HO_10.out) (Kd.R_base ho0) hb); have n1_ := Aside0.mk (Kd.R_lower (Kd.R_new' ho0 (Kd.R_lt (Kd.ru_ HO_10.out))) (pbS_ bw_)); have n2_ := Aside0.mk (below_step bw_ hb); clear HO_10; clear HB; have HO_10 := n0_; have HO556 := n1_; have HB := n2_; clear n0_ n1_ n2_; (try clear hb); (try clear hb2); (try clear hk); (try clear hi); (try clear ho0)))
      go_ret3
      exact ⟨_, rf_, ni_, bw_⟩
     rw [if_pos c11] at H
     have c11b0 : (t554 == 0) = true := beq_iff_eq.mpr c11
     have c11b1 : (t554 != 0) = false := bne_eq_false_iff_eq.mpr c11
     clear c11
     obtain ⟨ji12, hji12⟩ : ∃ j_ : Int, (mn x11_1 32) = j_ := ⟨_, rfl⟩
     replace H : (if (t552.length : Int) = (ji12) then (if x10_1.length + t552.length < 17592186044416 then (pfor_TakeList.l0 k1 l0 (wrap64 (x8_1 + t553)) (x10_1 ++ t552) (wrap64 (x11_1 - (t552.length : Int)))) else (none)) else (some (([] : List Int), 0, 2))) = some (r1, r2, r3) := by first | (rw [hji12] at H; exact H) | (simp only [hji12] at H ⊢; exact H)
     (try rw [hji12] at A10)
     have hji12_ : (if 32 < x11_1 then 32 else x11_1) = ji12 := hji12
     by_cases c13 : (t552.length : Int) = (ji12)
     rotate_left
     ·rw [if_neg c13] at H
      have c13b0 : ((t552.length : Int) == (ji12)) = false := beq_eq_false_iff_ne.mpr c13
      have c13b1 : ((t552.length : Int) != (ji12)) = true := bne_iff_ne.mpr c13
      simp only [Option.some.injEq, Prod.mk.injEq] at H
      obtain ⟨rfl, rfl, rfl⟩ := H
      obtain ⟨i019, hi019, _, hsz19, _⟩ := info_parts info5
      obtain ⟨A19, hcut19, hA19, hC19⟩ := print_drop_of (P := Try.prog) (Value.int .u8) 0 22 5 .i64 Try.underlying22 hi019 hsz19 A0 c0 l0 x8_1 od_ od_ HC0.out
      have HR551 := Aside0.mk (Kd.C_of_reads (h1 := fun _ => rfl) (hA19 _ (Kd.reads_of_C HR0.out)))
      have HC551 := Aside0.mk hC19
      clear hA19 hC19 hi019 hsz19
      go_wp2_with (first | ((with_reducible refine gaC_ (f := 65) rfl ?_); refine goesL_ (some 37) rfl rfl Try.func65 (by kernel_rfl) rfl #[.slice A19 (l0.drop (x8_1 : Int).toNat).length (c0 - x8_1.toNat)] rfl (by (try simp only [List.map_toArray, List.map_cons, List.map_nil]); first | done | (rw [show (l0.drop (x8_1 : Int).toNat).length = (l0.length - x8_1.toNat) from List.length_drop] <;> rfl) | rfl | (simp only [List.length_drop, List.length_take]; rfl)) ?_; (with_reducible refine (pfor_TakeBlock.calls k1 _ _ (l0.drop (x8_1 : Int).toNat) t552 t553 t554 _ ?side1 ?side2 A10.out).mono ?_); (case side1 => exact Kd.cu_ (Kd.C_below HR551.out HB.out)); (case side2 => exact HC551.out); rintro e w20 ⟨v555, rfl, ho0, hb⟩; refine ⟨_, rfl, ?_⟩; have n0_ := Aside0.mk (Kd.R_elder' (Kd.ru_ HO_10.out) (Kd.R_base ho0) hb); have n1_ := Aside0.mk (Kd.R_lower (Kd.R_new' ho0 (Kd.R_lt (Kd.ru_ HO_10.out))) (pbS_ bw_)); have n2_ := Aside0.mk (below_step bw_ hb); clear HO_10; clear HB; have HO_10 := n0_; have HO556 := n1_; have HB := n2_; clear n0_ n1_ n2_; (try clear hb); (try clear hb2); (try clear hk); (try clear hi); (try clear ho0); obtain ⟨Ao21, co21, eo21⟩ := Kd.R_slice HO556.out; subst eo21))
      go_ret3
      exact ⟨_, by first | rfl | (simp [eWn_, eWs_] <;> rfl) | (simp only [← hji12]; first | rfl | (simp [eWn_, eWs_] <;> rfl)) | (simp [*, eWn_, eWs_] <;> rfl), ni_, bw_⟩
     rw [if_pos c13] at H
     have c13b0 : ((t552.length : Int) == (ji12)) = true := beq_iff_eq.mpr c13
     have c13b1 : ((t552.length : Int) != (ji12)) = false := bne_eq_false_iff_eq.mpr c13
     clear c13
     by_cases c14 : x10_1.length + t552.length < 17592186044416
     rotate_left
     ·rw [if_neg c14] at H
      exact absurd H (by simp)
     rw [if_pos c14] at H
     have LMc14 := Aside0.mk c14
     clear c14
     obtain ⟨y557, hy557⟩ : ∃ y_ : List Int, y_ = (x10_1 ++ t552) := ⟨_, rfl⟩
     replace H : (pfor_TakeList.l0 k1 l0 (wrap64 (x8_1 + t553)) y557 (wrap64 (x11_1 - (t552.length : Int)))) = some (r1, r2, r3) := by first | (rw [hy557]; with_reducible exact H) | (have H2_ := (Option.bind_some _ _).symm.trans H; rw [hy557]; with_reducible exact H2_) | (have H2_ := (Option.bind_some _ _).symm.trans H; with_reducible exact H2_) | with_reducible exact H | (rw [hy557]; exact H) | exact H
     have Ny557 := Aside0.mk hy557
     clear hy557
     have H' := Aside0.mk H
     clear H
     obtain ⟨i015, hi015, _, hsz15, _⟩ := info_parts info5
     obtain ⟨A15, hcut15, hA15, hC15⟩ := print_drop_of (P := Try.prog) (Value.int .u8) 0 22 5 .i64 Try.underlying22 hi015 hsz15 A0 c0 l0 x8_1 od_ od_ HC0.out
     have HR551 := Aside0.mk (Kd.C_of_reads (h1 := fun _ => rfl) (hA15 _ (Kd.reads_of_C HR0.out)))
     have HC551 := Aside0.mk hC15
     clear hA15 hC15 hi015 hsz15
     go_wp2_with (first | ((with_reducible refine gaC_ (f := 65) rfl ?_); refine goesL_ (some 37) rfl rfl Try.func65 (by kernel_rfl) rfl #[.slice A15 (l0.drop (x8_1 : Int).toNat).length (c0 - x8_1.toNat)] rfl (by (try simp only [List.map_toArray, List.map_cons, List.map_nil]); first | done | (rw [show (l0.drop (x8_1 : Int).toNat).length = (l0.length - x8_1.toNat) from List.length_drop] <;> rfl) | rfl | (simp only [List.length_drop, List.length_take]; rfl)) ?_; (with_reducible refine (pfor_TakeBlock.calls k1 _ _ (l0.drop (x8_1 : Int).toNat) t552 t553 t554 _ ?side1 ?side2 A10.out).mono ?_); (case side1 => exact Kd.cu_ (Kd.C_below HR551.out HB.out)); (case side2 => exact HC551.out); rintro e w16 ⟨v555, rfl, ho0, hb⟩; refine ⟨_, rfl, ?_⟩; have n0_ := Aside0.mk (Kd.R_elder' (Kd.ru_ HO_10.out) (Kd.R_base ho0) hb); have n1_ := Aside0.mk (Kd.R_lower (Kd.R_new' ho0 (Kd.R_lt (Kd.ru_ HO_10.out))) (pbS_ bw_)); have n2_ := Aside0.mk (below_step bw_ hb); clear HO_10; clear HB; have HO_10 := n0_; have HO556 := n1_; have HB := n2_; clear n0_ n1_ n2_; (try clear hb); (try clear hb2); (try clear hk); (try clear hi); (try clear ho0); obtain ⟨Ao17, co17, eo17⟩ := Kd.R_slice HO556.out; subst eo17) | ((with_reducible refine gate_builtin (b := .append) (xs := #[.tmp 50, .tmp 51]) rfl ?_); (try (refine gate_guard (by rfl) ?_; dsimp only)); at_builtin; refine Kd.R_append_rows (Kd.int .u64) (w0 := w) w.heap.size rfl (.tmp 50) (.tmp 51) 49 50 (.int .u64 0) 8 rfl Try.underlying49 info50 rfl (by decide) (by omega) u10 x10_1 t552 _ _ _ (fun k_ => some k_ ≠ (.slice Ao17 t552.length co17 : Value).ownBlock) (fun _ => False) rfl rfl ?aO ?aR (fun _ _ h => h) (fun _ h => h.elim) ?aF ?aB ?aS ?aL ?_; (case aR => exact Kd.cu_ (Kd.R_reads' HO556.out).2.2); (case aB => exact bw_); (case aF => exact (fun k_ hk => Kd.fresh' (Kd.R_lt (Kd.ru_ HO556.out)) k_ hk)); (case aO => exact (by (with_reducible repeat (first | apply Kd.rA_ | apply Kd.rN_ | apply Kd.rD_)); exact Kd.R_mono HO_10.out (fun _ hk => hk.2))); (case aS => exact (pbS_ bw_)); (case aL => have := LMc14.out; omega); intro v558 w18 ho hb hg hat; rw [← Ny557.out] at ho; have n0_ := Aside0.mk (Kd.R_after (ok := (fun _ => True)) (Kd.ru_ HO556.out) hg hat); have n1_ := Aside0.mk (hb); have n2_ := Aside0.mk (ho); clear HO556; clear HB; clear HO_10; have HO556 := n0_; have HB := n1_; have HO559 := n2_; clear n0_ n1_ n2_; clear ho hb hg hat))
     (try subst hji12)
     go_roundg k1
     case measure => have := HK1.out; omega
     case rel => exact ⟨(wrap64 (x8_1 + t553)), (y557), (wrap64 (x11_1 - (t552.length : Int))), (by first | rfl | (simp; done) | (simp [*]; done)), (by first | rfl | (simp; done) | (simp [*]; done)), H', ⟨by have := HK1.out; omega⟩, ⟨by (with_reducible repeat (first | apply Kd.rA_ | apply Kd.rN_ | apply Kd.rD_)); exact Kd.R_mono HO559.out (fun _ hk => trivial)⟩, ⟨bw_⟩⟩
noncomputable def num_Unfold.f (a0 : Int) : Option (Int) := some (Go.bits .xor .i64 (wrap64 (a0 / 2)) (wrap64 (-(wrap64 (Go.bits .and .u64 a0 1)))))
set_option maxHeartbeats 8000000 in
set_option maxRecDepth 100000 in
theorem num_Unfold.calls (a0 : Int) (r : Int) (w : World) (h : num_Unfold.f a0 = some r) :
  Calls Try.prog 57 #[.int .u64 a0] w fun e w' => e = .returned (.int .i64 r) ∧ Drawn0 w w' := by
 have H : (some (Go.bits .xor .i64 (wrap64 (a0 / 2)) (wrap64 (-(wrap64 (Go.bits .and .u64 a0 1)))))) = some r := h
 clear h
 obtain rfl := Option.some.inj H
 go_enter Try.func57, Try.ntmps57
 go_wp2
 go_ret
 exact ⟨by first | rfl | (simp; done) | (simp [*]; done), by repeat (first | exact Drawn0.refl _ | apply Drawn0.step)⟩
noncomputable def pfor_TakeInts.l0 : Nat → Int → List Int → List Int → Int → Int → Option (List Int × Int × Int)
 | 0, _, _, _, _, _ => none
 | k + 1, x8, x10, x26, x27, x28 => if x28 < x27 then (if 0 ≤ x28 then (if x28 < (x26.length : Int) then ((num_Unfold.f (rd x26 x28)).bind fun t569 => (if x28 < (x10.length : Int) then (pfor_TakeInts.l0 k x8 (x10.set (x28 : Int).toNat t569) x26 x27 (wrap64 (x28 + 1))) else (none))) else (none)) else (none)) else (some (x10, x8, 0))
noncomputable def pfor_TakeInts.f (k : Nat) (l0 : List Int) (a1 : Int) : Option (List Int × Int × Int) := (pfor_TakeList.f k l0 a1).bind fun bt560 => (if bt560.2.2 = 0 then (if 0 ≤ (bt560.1.length : Int) then (if ((bt560.1.length : Int) : Int).toNat ≤ 35184372088832 then (pfor_TakeInts.l0 k bt560.2.1 (List.replicate ((bt560.1.length : Int) : Int).toNat 0) bt560.1 (bt560.1.length : Int) 0) else (none)) else (none)) else (some (([] : List Int), 0, bt560.2.2)))
theorem pfor_TakeInts.mono_l : ∀ k, (∀ y0 y1 y2 y3 y4, LeO (pfor_TakeInts.l0 k y0 y1 y2 y3 y4) (pfor_TakeInts.l0 (k + 1) y0 y1 y2 y3 y4))
 | 0 => fun _ _ _ _ _ r h => by simp [pfor_TakeInts.l0] at h
 | k + 1 => by
  have ih0 := pfor_TakeInts.mono_l k
  ·intro y0 y1 y2 y3 y4
   unfold pfor_TakeInts.l0
   repeat' first
   | (with_reducible exact ih0 _ _ _ _ _)
   | (with_reducible exact pfor_TakeList.mono _ _ _)
   | (with_reducible exact LeO.refl _)
   | (with_reducible exact LeO.none _)
   | (with_reducible refine LeO.ite ?_ ?_)
   | (with_reducible refine LeO.bind ?_ (fun _ => ?_))
theorem pfor_TakeInts.mono : ∀ a0 a1 k, LeO (pfor_TakeInts.f k a0 a1) (pfor_TakeInts.f (k + 1) a0 a1) := by
 intro a0 a1 k
 have ih0 := pfor_TakeInts.mono_l k
 unfold pfor_TakeInts.f
 repeat' first
   | (with_reducible exact ih0 _ _ _ _ _)
   | (with_reducible exact pfor_TakeList.mono _ _ _)
   | (with_reducible exact LeO.refl _)
   | (with_reducible exact LeO.none _)
   | (with_reducible refine LeO.ite ?_ ?_)
   | (with_reducible refine LeO.bind ?_ (fun _ => ?_))
set_option maxHeartbeats 8000000 in
set_option maxRecDepth 100000 in
theorem pfor_TakeInts.calls (k : Nat) (A0 : Option Addr) (c0 : Nat) (l0 : List Int) (a1 : Int) (r1 : List Int) (r2 : Int) (r3 : Int) (w : World) (hr0 : Kd.C (Kd.int .u8) w A0 l0.length l0) (hc0 : l0.length ≤ c0) (h : pfor_TakeInts.f k l0 a1 = some (r1, r2, r3)) :
  Calls Try.prog 40 #[.slice A0 l0.length c0, .int .i64 a1] w fun e w' => ∃ v0_ : Value, e = .returned (.tuple #[v0_, .int .i64 r2, .int .i64 r3]) ∧ Kd.R (Kd.int .i64) 3 w' w.heap.size (fun _ => True) v0_ r1 ∧ Below w.heap.size w w' := by
 have HR0 := Aside0.mk hr0
 have HC0 := Aside0.mk hc0
 clear hr0 hc0
 have HB := Aside0.mk (Below.refl w.heap.size w)
 have H : ((pfor_TakeList.f k l0 a1).bind fun bt560 => (if bt560.2.2 = 0 then (if 0 ≤ (bt560.1.length : Int) then (if ((bt560.1.length : Int) : Int).toNat ≤ 35184372088832 then (pfor_TakeInts.l0 k bt560.2.1 (List.replicate ((bt560.1.length : Int) : Int).toNat 0) bt560.1 (bt560.1.length : Int) 0) else (none)) else (none)) else (some (([] : List Int), 0, bt560.2.2)))) = some (r1, r2, r3) := h
 clear h
 replace H := Option.bind_eq_some_iff.mp H
 obtain ⟨⟨t560, t561, t562⟩, A30, H⟩ := H
 replace H : (if t562 = 0 then (if 0 ≤ (t560.length : Int) then (if ((t560.length : Int) : Int).toNat ≤ 35184372088832 then (pfor_TakeInts.l0 k t561 (List.replicate ((t560.length : Int) : Int).toNat 0) t560 (t560.length : Int) 0) else (none)) else (none)) else (some (([] : List Int), 0, t562))) = some (r1, r2, r3) := H
 have A3 := Aside0.mk A30
 clear A30
 by_cases c4 : t562 = 0
 rotate_left
 ·rw [if_neg c4] at H
  have c4b0 : (t562 == 0) = false := beq_eq_false_iff_ne.mpr c4
  have c4b1 : (t562 != 0) = true := bne_iff_ne.mpr c4
  simp only [Option.some.injEq, Prod.mk.injEq] at H
  obtain ⟨rfl, rfl, rfl⟩ := H
  go_enter Try.func40, Try.ntmps40
  go_wp2_with (first | ((with_reducible refine gaC_ (f := 56) rfl ?_); refine goesL_ (some 16) rfl rfl Try.func56 (by kernel_rfl) rfl #[.slice A0 l0.length c0, .int .i64 a1] rfl (by (try simp only [List.map_toArray, List.map_cons, List.map_nil]); first | done | rfl | (simp only [List.length_drop, List.length_take]; rfl)) ?_; (with_reducible refine (pfor_TakeList.calls k _ _ l0 a1 t560 t561 t562 _ ?side1 ?side2 A3.out).mono ?_); (case side1 => exact Kd.cu_ HR0.out); (case side2 => exact HC0.out); rintro e w19 ⟨v563, rfl, ho0, hb⟩; refine ⟨_, rfl, ?_⟩; have HO564 := Aside0.mk (Kd.R_lower ho0 (pbS_ bw_)); replace HB := Aside0.mk (below_step bw_ hb); (try clear hb); (try clear hb2); (try clear hk); (try clear hi); (try clear ho0)))
  go_ret3
  exact ⟨_, rf_, ni_, bw_⟩
 rw [if_pos c4] at H
 have c4b0 : (t562 == 0) = true := beq_iff_eq.mpr c4
 have c4b1 : (t562 != 0) = false := bne_eq_false_iff_eq.mpr c4
 clear c4
 by_cases c5 : 0 ≤ (t560.length : Int)
 rotate_left
 ·rw [if_neg c5] at H
  exact absurd H (by simp)
 rw [if_pos c5] at H
 have c5b0 := eq_true c5
 have c5b1 : decide (0 ≤ (t560.length : Int)) = true := decide_eq_true c5
 clear c5
 by_cases c6 : ((t560.length : Int) : Int).toNat ≤ 35184372088832
 rotate_left
 ·rw [if_neg c6] at H
  exact absurd H (by simp)
 rw [if_pos c6] at H
 have c6b0 := eq_true c6
 have c6b1 : decide (((t560.length : Int) : Int).toNat ≤ 35184372088832) = true := decide_eq_true c6
 clear c6
 obtain ⟨y565, hy565⟩ : ∃ y_ : List Int, y_ = (List.replicate ((t560.length : Int) : Int).toNat 0) := ⟨_, rfl⟩
 replace H : (pfor_TakeInts.l0 k t561 y565 t560 (t560.length : Int) 0) = some (r1, r2, r3) := by first | (rw [hy565]; with_reducible exact H) | (have H2_ := (Option.bind_some _ _).symm.trans H; rw [hy565]; with_reducible exact H2_) | (have H2_ := (Option.bind_some _ _).symm.trans H; with_reducible exact H2_) | with_reducible exact H | (rw [hy565]; exact H) | exact H
 have Ny565 := Aside0.mk hy565
 clear hy565
 have H' := Aside0.mk H
 clear H
 go_enter Try.func40, Try.ntmps40
 go_wp2_with (first | ((with_reducible refine gaC_ (f := 56) rfl ?_); refine goesL_ (some 16) rfl rfl Try.func56 (by kernel_rfl) rfl #[.slice A0 l0.length c0, .int .i64 a1] rfl (by (try simp only [List.map_toArray, List.map_cons, List.map_nil]); first | done | rfl | (simp only [List.length_drop, List.length_take]; rfl)) ?_; (with_reducible refine (pfor_TakeList.calls k _ _ l0 a1 t560 t561 t562 _ ?side1 ?side2 A3.out).mono ?_); (case side1 => exact Kd.cu_ HR0.out); (case side2 => exact HC0.out); rintro e w7 ⟨v563, rfl, ho0, hb⟩; refine ⟨_, rfl, ?_⟩; have HO564 := Aside0.mk (Kd.R_lower ho0 (pbS_ bw_)); replace HB := Aside0.mk (below_step bw_ hb); (try clear hb); (try clear hb2); (try clear hk); (try clear hi); (try clear ho0); obtain ⟨Ao8, co8, eo8⟩ := Kd.R_slice HO564.out; subst eo8) | ((with_reducible refine gate_dst (N := 25) rfl ?_); refine Kd.R_make (Kd.int .i64) _ 3 rfl (N := 25) rfl 39 _ _ rfl (t560.length : Int) rfl rfl Try.underlying39 (.int .i64 0) 8 info3 rfl (by decide) (by omega) 0 (ok := fun _ => True) (okp := fun _ => True) rfl (fun _ hk => hk) trivial od_ (Nat.le_trans (Nat.mul_le_mul_right _ (od_ : (t560.length : Int).toNat ≤ 35184372088832)) (by omega)) (Below.refl _ _) (Nat.le_refl _) ?_; intro v566 w9 ho10 hb hg_ hnew_; clear hg_ hnew_; (first | rw [← Ny565.out] at ho10 | (simp only [Int.reduceToNat] at ho10; rw [← Ny565.out] at ho10)); replace HO564 := Aside0.mk (Kd.R_below (Kd.ru_ HO564.out) hb); have HO567 := Aside0.mk (Kd.R_lower ho10 (pbS_ bw_)); replace HB := Aside0.mk (below_step bw_ hb); clear hb ho10))
 go_loopg [28] k (fun kq v28 w' => ∃ (x10_1 : List Int) (x28_1 : Int), v28 = .int .i64 x28_1 ∧ Aside0 (pfor_TakeInts.l0 kq t561 x10_1 t560 (t560.length : Int) x28_1 = some (r1, r2, r3)) ∧ Aside0 (kq ≤ k) ∧ Aside0 (Kd.R (Kd.int .i64) 3 w' w.heap.size (fun _ => True) v566 x10_1) ∧ Aside0 (Kd.R (Kd.int .u64) 50 w' w.heap.size (fun _ => True) (.slice Ao8 t560.length co8) t560) ∧ Aside0 (Below w.heap.size w w'))
 case atStart => exact ⟨(y565), (0), (by first | rfl | (simp; done) | (simp [*]; done)), H', ⟨Nat.le_refl _⟩, ⟨Kd.ru_ HO567.out⟩, ⟨Kd.ru_ HO564.out⟩, ⟨bw_⟩⟩
 case round =>
  clear H'
  try clear p2
  try clear c4
  try clear c4b0
  try clear c4b1
  try clear c5
  try clear c5b0
  try clear c5b1
  try clear c6
  try clear c6b0
  try clear c6b1
  obtain ⟨x10_1, x28_1, rfl, HA, HK1, HO_10, HO_26, HB⟩ := hrel
  cases gk with
  | zero => exact absurd HA.out (by simp [pfor_TakeInts.l0])
  | succ k1 =>
   have H := HA.out
   clear HA
   simp only [pfor_TakeInts.l0] at H
   by_cases c11 : x28_1 < (t560.length : Int)
   rotate_left
   ·rw [if_neg c11] at H
    have c11b0 : decide (x28_1 < (t560.length : Int)) = false := decide_eq_false c11
    clear c11
    simp only [Option.some.injEq, Prod.mk.injEq] at H
    obtain ⟨rfl, rfl, rfl⟩ := H
    go_wp2
    go_ret3
    exact ⟨_, rf_, by (with_reducible repeat (first | apply Kd.rA_ | apply Kd.rN_ | apply Kd.rD_)); exact HO_10.out, bw_⟩
   rw [if_pos c11] at H
   have c11b0 : decide (x28_1 < (t560.length : Int)) = true := decide_eq_true c11
   clear c11
   by_cases c12 : 0 ≤ x28_1
   rotate_left
   ·rw [if_neg c12] at H
    exact absurd H (by simp)
   rw [if_pos c12] at H
   have c12b0 : decide (0 ≤ x28_1) = true := decide_eq_true c12
   clear c12
   by_cases c13 : x28_1 < (t560.length : Int)
   rotate_left
   ·rw [if_neg c13] at H
    exact absurd H (by simp)
   rw [if_pos c13] at H
   have c13b0 : decide (x28_1 < (t560.length : Int)) = true := decide_eq_true c13
   clear c13
   replace H := Option.bind_eq_some_iff.mp H
   obtain ⟨t569, A140, H⟩ := H
   replace H : (if x28_1 < (x10_1.length : Int) then (pfor_TakeInts.l0 k1 t561 (x10_1.set (x28_1 : Int).toNat t569) t560 (t560.length : Int) (wrap64 (x28_1 + 1))) else (none)) = some (r1, r2, r3) := H
   have A14 := Aside0.mk A140
   clear A140
   by_cases c15 : x28_1 < (x10_1.length : Int)
   rotate_left
   ·rw [if_neg c15] at H
    exact absurd H (by simp)
   rw [if_pos c15] at H
   have c15b0 : decide (x28_1 < (x10_1.length : Int)) = true := decide_eq_true c15
   clear c15
   obtain ⟨y570, hy570⟩ : ∃ y_ : List Int, y_ = (x10_1.set (x28_1 : Int).toNat t569) := ⟨_, rfl⟩
   replace H : (pfor_TakeInts.l0 k1 t561 y570 t560 (t560.length : Int) (wrap64 (x28_1 + 1))) = some (r1, r2, r3) := by first | (rw [hy570]; with_reducible exact H) | (have H2_ := (Option.bind_some _ _).symm.trans H; rw [hy570]; with_reducible exact H2_) | (have H2_ := (Option.bind_some _ _).symm.trans H; with_reducible exact H2_) | with_reducible exact H | (rw [hy570]; exact H) | exact H
   have Ny570 := Aside0.mk hy570
   clear hy570
   have H' := Aside0.mk H
   clear H
   have p568 : 0 ≤ (x28_1 : Int) := od_
   have q568 : x28_1 < (t560.length : Int) := od_
   obtain ⟨ad568, e568, hx568_0⟩ := Kd.at_int (Kd.R_reads' HO_26.out).2.2 x28_1 p568 q568
   cases e568
   replace p568 := eq_true p568
   replace q568 := eq_true q568
   go_wp2_with (first | ((with_reducible refine gaC_ (f := 57) rfl ?_); refine goesL_ (some 36) rfl rfl Try.func57 (by kernel_rfl) rfl #[.int .u64 (rd t560 x28_1)] rfl (by (try simp only [List.map_toArray, List.map_cons, List.map_nil]); first | done | rfl | (simp only [List.length_drop, List.length_take]; rfl)) ?_; (with_reducible refine (num_Unfold.calls (rd t560 x28_1) t569 _ A14.out).mono ?_); rintro e w' ⟨rfl, ⟨nd, rfl⟩⟩; refine ⟨_, rfl, ?_⟩; (try (rw [drewN_self wr]; generalize hq_ : World.drewN wr _ = wr; have n0_ : Aside0 (Kd.R (Kd.int .i64) 3 wr w.heap.size (fun _ => True) v566 x10_1) := ⟨by rw [← hq_]; exact (Kd.ru_ HO_10.out)⟩; have n1_ : Aside0 (Kd.R (Kd.int .u64) 50 wr w.heap.size (fun _ => True) (.slice (some ad568) t560.length co8) t560) := ⟨by rw [← hq_]; exact (Kd.ru_ HO_26.out)⟩; have n2_ : Aside0 (Below w.heap.size w wr) := ⟨by rw [← hq_]; exact bw_⟩; clear HO_10 HO_26 HB hq_; have HO_10 := n0_; have HO_26 := n1_; have HB := n2_; clear n0_ n1_ n2_)); have p16 : 0 ≤ (x28_1 : Int) := od_; have q16 : (x28_1 : Int) < ((x10_1.length : Int) : Int) := od_; obtain ⟨go16, co16, eo16, gb16, gl16, cl16, HG16⟩ := Kd.R_form HO_10.out (by omega); (first | cases eo16 | (injection eo16 with ea_ en_ ec_; (first | subst ea_ | (injection ea_ with ea_; subst ea_)); subst ec_; clear en_)); have GB16 := Aside0.mk gb16; have GG16 := Aside0.mk HG16; clear gb16 gl16 HG16; obtain ⟨hx16_0, hf16_0⟩ := Kd.R_celln 0 HO_10.out (x28_1 : Int) p16 q16; replace p16 := eq_true p16; replace q16 := eq_true q16; obtain ⟨hy17_, hz17_⟩ := Kd.R_celln 0 HO_10.out (x28_1 : Int) od_ od_; have HP17 := Kd.R_putg HO_10.out (x28_1 : Int) t569) | ((with_reducible refine gate_store (t := 3) (p := 37) rfl ?_); refine store_event (t := 3) (p := 37) (v := ?vo_w18) (w1 := (wr.setCell ⟨go16, (x28_1 : Int).toNat, none⟩ (.int .i64 t569))) ?hg ?ho ?hn ?hr ?_; (case ho => rfl); (case hg => rfl); (case hn => rfl); (case hr => first | (go_simp; done) | (go_simp; rfl)); intro w18 hw; have hg : wr.grownBy w18 (some go16) := (by rw [hw]; exact HP17.2); have hp_ : Kd.R (Kd.int .i64) 3 w18 w.heap.size (fun _ => True) (.slice (some ⟨go16, 0, none⟩) x10_1.length co16) y570 := (by rw [hw, Ny570.out]; exact HP17.1); clear HP17; have n0_ := Aside0.mk (hp_); have n1_ := Aside0.mk (Kd.R_over' (v := (.slice (some ⟨go16, 0, none⟩) x10_1.length co16)) (Kd.ru_ HO_26.out) (Kd.R_typed HO_10.out) (by decide) hg); have n2_ := Aside0.mk ((by rw [hw]; exact below_set (HB.out) GB16.out : Below w.heap.size w w18)); clear HO_10; clear HO_26; clear HB; have HO_10 := n0_; have HO_26 := n1_; have HB := n2_; clear n0_ n1_ n2_; clear hg hw hp_))
   go_roundg k1
   case measure => have := HK1.out; omega
   case rel => exact ⟨(y570), (wrap64 (x28_1 + 1)), (by first | rfl | (simp; done) | (simp [*]; done)), H', ⟨by have := HK1.out; omega⟩, ⟨Kd.ru_ HO_10.out⟩, ⟨Kd.ru_ HO_26.out⟩, ⟨bw_⟩⟩
mutual
noncomputable def ints_Take.j0 : Nat → List Int → Int → Int → Bool → Option ((List (S42)) × Int × Int)
 | 0, _, _, _, _ => none
 | k + 1, x0, x5, x6, x26 => if x26 = true then (some (([] : List (S42)), 0, 2)) else (if (wrap64 (x6 + (wrap64 (Int.tdiv (wrap64 ((wrap64 (x5)) + 7)) 8)))) > (x0.length : Int) then (some (([] : List (S42)), 0, 2)) else (if 0 ≤ x6 then (if x6 ≤ (wrap64 (x6 + (wrap64 (Int.tdiv (wrap64 ((wrap64 (x5)) + 7)) 8)))) then (if (wrap64 (x6 + (wrap64 (Int.tdiv (wrap64 ((wrap64 (x5)) + 7)) 8)))) ≤ (x0.length : Int) then ((bits_Unpack.f k ((x0.take ((wrap64 (x6 + (wrap64 (Int.tdiv (wrap64 ((wrap64 (x5)) + 7)) 8)))) : Int).toNat).drop (x6 : Int).toNat) (wrap64 (x5)) 1).bind fun bt575 => (if bt575.2 = 0 then (if 0 ≤ (wrap64 (x6 + (wrap64 (Int.tdiv (wrap64 ((wrap64 (x5)) + 7)) 8)))) then ((pfor_TakeInts.f k (x0.drop ((wrap64 (x6 + (wrap64 (Int.tdiv (wrap64 ((wrap64 (x5)) + 7)) 8)))) : Int).toNat) 4096).bind fun bt580 => (if bt580.2.2 = 0 then (if 0 ≤ x5 then (if (x5 : Int).toNat ≤ 17592186044416 then (ints_Take.l0 k (wrap64 (x6 + (wrap64 (Int.tdiv (wrap64 ((wrap64 (x5)) + 7)) 8)))) bt580.1 bt580.2.1 (List.replicate (x5 : Int).toNat z42) bt575.1 (bt575.1.length : Int) 0) else (none)) else (none)) else (some (([] : List (S42)), 0, 2)))) else (none)) else (some (([] : List (S42)), 0, 2)))) else (none)) else (none)) else (none)))
noncomputable def ints_Take.l0 : Nat → Int → List Int → Int → List (S42) → List Int → Int → Int → Option ((List (S42)) × Int × Int)
 | 0, _, _, _, _, _, _, _ => none
 | k + 1, x8, x10, x11, x12, x61, x62, x63 => if x63 < x62 then (if 0 ≤ x63 then (if x63 < (x61.length : Int) then (if (rd x61 x63) = 0 then (ints_Take.l0 k x8 x10 x11 x12 x61 x62 (wrap64 (x63 + 1))) else (if (x10.length : Int) = 0 then (some (([] : List (S42)), 0, 2)) else (if 0 < (x10.length : Int) then (if 1 ≤ (x10.length : Int) then (if x63 < (x12.length : Int) then (ints_Take.l0 k x8 (x10.drop (1 : Int).toNat) x11 (x12.set (x63 : Int).toNat (⟨true, rd x10 0⟩ : S42)) x61 x62 (wrap64 (x63 + 1))) else (none)) else (none)) else (none)))) else (none)) else (none)) else (if (x10.length : Int) > 0 then (some (([] : List (S42)), 0, 2)) else (some (x12, wrap64 (x8 + x11), 0)))
end
noncomputable def ints_Take.f (k : Nat) (l0 : List Int) : Option ((List (S42)) × Int × Int) := (num_Take.f k l0).bind fun bt571 => (if bt571.2.2 = 0 then (ints_Take.j0 k l0 bt571.1 bt571.2.1 (decide (bt571.1 > 4096))) else (ints_Take.j0 k l0 bt571.1 bt571.2.1 true))
theorem ints_Take.mono_l : ∀ k, (∀ y0 y1 y2 y3, LeO (ints_Take.j0 k y0 y1 y2 y3) (ints_Take.j0 (k + 1) y0 y1 y2 y3)) ∧ (∀ y0 y1 y2 y3 y4 y5 y6, LeO (ints_Take.l0 k y0 y1 y2 y3 y4 y5 y6) (ints_Take.l0 (k + 1) y0 y1 y2 y3 y4 y5 y6))
 | 0 => ⟨fun _ _ _ _ r h => by simp [ints_Take.j0] at h, fun _ _ _ _ _ _ _ r h => by simp [ints_Take.l0] at h⟩
 | k + 1 => by
  obtain ⟨ih0, ih1⟩ := ints_Take.mono_l k
  refine ⟨?_, ?_⟩
  ·intro y0 y1 y2 y3
   unfold ints_Take.j0
   repeat' first
   | (with_reducible exact ih0 _ _ _ _)
   | (with_reducible exact ih1 _ _ _ _ _ _ _)
   | (with_reducible exact bits_Unpack.mono _ _ _ _)
   | (with_reducible exact num_Take.mono _ _)
   | (with_reducible exact pfor_TakeInts.mono _ _ _)
   | (with_reducible exact LeO.refl _)
   | (with_reducible exact LeO.none _)
   | (with_reducible refine LeO.ite ?_ ?_)
   | (with_reducible refine LeO.bind ?_ (fun _ => ?_))
  ·intro y0 y1 y2 y3 y4 y5 y6
   unfold ints_Take.l0
   repeat' first
   | (with_reducible exact ih0 _ _ _ _)
   | (with_reducible exact ih1 _ _ _ _ _ _ _)
   | (with_reducible exact bits_Unpack.mono _ _ _ _)
   | (with_reducible exact num_Take.mono _ _)
   | (with_reducible exact pfor_TakeInts.mono _ _ _)
   | (with_reducible exact LeO.refl _)
   | (with_reducible exact LeO.none _)
   | (with_reducible refine LeO.ite ?_ ?_)
   | (with_reducible refine LeO.bind ?_ (fun _ => ?_))
theorem ints_Take.mono : ∀ a0 k, LeO (ints_Take.f k a0) (ints_Take.f (k + 1) a0) := by
 intro a0 k
 obtain ⟨ih0, ih1⟩ := ints_Take.mono_l k
 unfold ints_Take.f
 repeat' first
   | (with_reducible exact ih0 _ _ _ _)
   | (with_reducible exact ih1 _ _ _ _ _ _ _)
   | (with_reducible exact bits_Unpack.mono _ _ _ _)
   | (with_reducible exact num_Take.mono _ _)
   | (with_reducible exact pfor_TakeInts.mono _ _ _)
   | (with_reducible exact LeO.refl _)
   | (with_reducible exact LeO.none _)
   | (with_reducible refine LeO.ite ?_ ?_)
   | (with_reducible refine LeO.bind ?_ (fun _ => ?_))
def ints_Take.T20 : Bool × List (List Nat × List Nat) := (true, [([], []), ([], []), ([], []), ([2], [2]), ([3], [3]), ([4], [4]), ([], []), ([6], [6]), ([0, 1, 0, 1, 2, 3, 4, 5], [0, 1]), ([8, 5, 0, 1, 2, 3, 4, 5], [5, 8]), ([7, 9, 0, 1, 2, 3, 4, 5, 6, 7, 8, 9], [2, 6, 7])])
def ints_Take.B20 : List Nat := [0, 0, 0, 4, 12, 28, 0, 64, 63, 319, 1023]
theorem ints_Take.tab20 : rtab .any (opsOf Try.f24 20) = ints_Take.T20 := by kernel_rfl
theorem ints_Take.bits20 : waitsOk ints_Take.T20.2 ints_Take.B20 = true := by kernel_rfl
set_option maxHeartbeats 8000000 in
set_option maxRecDepth 100000 in
theorem ints_Take.calls (k : Nat) (A0 : Option Addr) (c0 : Nat) (l0 : List Int) (r1 : List (S42)) (r2 : Int) (r3 : Int) (w : World) (hr0 : Kd.C (Kd.int .u8) w A0 l0.length l0) (hc0 : l0.length ≤ c0) (h : ints_Take.f k l0 = some (r1, r2, r3)) :
  Calls Try.prog 24 #[.slice A0 l0.length c0] w fun e w' => ∃ v0_ : Value, e = .returned (.tuple #[v0_, .int .i64 r2, .int .i64 r3]) ∧ Kd.R k42 42 w' w.heap.size (fun _ => True) v0_ r1 ∧ Below w.heap.size w w' := by
 have hu42 := Try.underlying42
 have HR0 := Aside0.mk hr0
 have HC0 := Aside0.mk hc0
 clear hr0 hc0
 have HB := Aside0.mk (Below.refl w.heap.size w)
 have H : ((num_Take.f k l0).bind fun bt571 => (if bt571.2.2 = 0 then (ints_Take.j0 k l0 bt571.1 bt571.2.1 (decide (bt571.1 > 4096))) else (ints_Take.j0 k l0 bt571.1 bt571.2.1 true))) = some (r1, r2, r3) := h
 clear h
 replace H := Option.bind_eq_some_iff.mp H
 obtain ⟨⟨t571, t572, t573⟩, A20, H⟩ := H
 replace H : (if t573 = 0 then (ints_Take.j0 k l0 t571 t572 (decide (t571 > 4096))) else (ints_Take.j0 k l0 t571 t572 true)) = some (r1, r2, r3) := H
 have A2 := Aside0.mk A20
 clear A20
 have HC3 := Aside0.mk H
 clear H
 go_enter Try.func24, Try.ntmps24
 go_upto_region 2 with (first | ((with_reducible refine gaC_ (f := 38) rfl ?_); refine goesL_ (some 17) rfl rfl Try.func38 (by kernel_rfl) rfl #[.slice A0 l0.length c0] rfl (by (try simp only [List.map_toArray, List.map_cons, List.map_nil]); first | done | rfl | (simp only [List.length_drop, List.length_take]; rfl)) ?_; (with_reducible refine (num_Take.calls k _ _ l0 t571 t572 t573 _ ?side1 ?side2 A2.out).mono ?_); (case side1 => exact Kd.cu_ HR0.out); (case side2 => exact HC0.out); rintro e w' ⟨rfl, ⟨nd, rfl⟩⟩; refine ⟨_, rfl, ?_⟩))
 (try simp only [Act.put, List.setIfInBounds_toArray, List.set_cons_zero, List.set_cons_succ])
 go_cut [26] (fun v26 wc => ∃ (kq : Nat) (x26_2 : Bool), v26 = .bool x26_2 ∧ Aside0 (ints_Take.j0 kq l0 t571 t572 x26_2 = some (r1, r2, r3)) ∧ Aside0 (kq ≤ k) ∧ Aside0 (Below w.heap.size w wc))
 case first =>
  have H := HC3.out
  clear HC3
  by_cases c4 : t573 = 0
  rotate_left
  ·rw [if_neg c4] at H
   have c4b0 : (t573 == 0) = false := beq_eq_false_iff_ne.mpr c4
   have c4b1 : (t573 != 0) = true := bne_iff_ne.mpr c4
   (first | rw [c4b0] | (simp only [i64_w, i32_w]; rw [c4b0]) | skip)
   have H' := Aside0.mk H
   clear H
   go_wp2
   go_meet
   case rel => exact ⟨_, (true), (by first | rfl | (simp; done) | (simp [*]; done)), H', ⟨by first | omega | exact Nat.le_refl _⟩, ⟨bw_⟩⟩
  rw [if_pos c4] at H
  have c4b0 : (t573 == 0) = true := beq_iff_eq.mpr c4
  have c4b1 : (t573 != 0) = false := bne_eq_false_iff_eq.mpr c4
  clear c4
  (first | rw [c4b0] | (simp only [i64_w, i32_w]; rw [c4b0]) | skip)
  have H' := Aside0.mk H
  clear H
  go_wp2
  go_meet
  case rel => exact ⟨_, (decide (t571 > 4096)), (by first | rfl | (simp; done) | (simp [*]; done)), H', ⟨by first | omega | exact Nat.le_refl _⟩, ⟨bw_⟩⟩
 case rest =>
  clear HC3
  try clear c2
  try clear p2
  try clear c3
  try clear c4
  try clear c4b0
  try clear c4b1
  obtain ⟨kq, x26_2, rfl, HA, HJ2, HB⟩ := hcut
  cases kq with
  | zero => exact absurd HA.out (by simp [ints_Take.j0])
  | succ kj2 =>
   have H := HA.out
   clear HA
   simp only [ints_Take.j0] at H
   by_cases c5 : x26_2 = true
   ·subst c5
    have H1 : (some (([] : List (S42)), 0, 2)) = some (r1, r2, r3) := by rw [if_pos rfl] at H; exact H
    clear H
    have H := H1
    clear H1
    simp only [Option.some.injEq, Prod.mk.injEq] at H
    obtain ⟨rfl, rfl, rfl⟩ := H
    go_wp2
    go_ret3
    exact ⟨_, rf_, ni_, bw_⟩
   ·replace c5 := Bool.eq_false_iff.mpr c5
    subst c5
    have H1 : (if (wrap64 (t572 + (wrap64 (Int.tdiv (wrap64 ((wrap64 (t571)) + 7)) 8)))) > (l0.length : Int) then (some (([] : List (S42)), 0, 2)) else (if 0 ≤ t572 then (if t572 ≤ (wrap64 (t572 + (wrap64 (Int.tdiv (wrap64 ((wrap64 (t571)) + 7)) 8)))) then (if (wrap64 (t572 + (wrap64 (Int.tdiv (wrap64 ((wrap64 (t571)) + 7)) 8)))) ≤ (l0.length : Int) then ((bits_Unpack.f kj2 ((l0.take ((wrap64 (t572 + (wrap64 (Int.tdiv (wrap64 ((wrap64 (t571)) + 7)) 8)))) : Int).toNat).drop (t572 : Int).toNat) (wrap64 (t571)) 1).bind fun bt575 => (if bt575.2 = 0 then (if 0 ≤ (wrap64 (t572 + (wrap64 (Int.tdiv (wrap64 ((wrap64 (t571)) + 7)) 8)))) then ((pfor_TakeInts.f kj2 (l0.drop ((wrap64 (t572 + (wrap64 (Int.tdiv (wrap64 ((wrap64 (t571)) + 7)) 8)))) : Int).toNat) 4096).bind fun bt580 => (if bt580.2.2 = 0 then (if 0 ≤ t571 then (if (t571 : Int).toNat ≤ 17592186044416 then (ints_Take.l0 kj2 (wrap64 (t572 + (wrap64 (Int.tdiv (wrap64 ((wrap64 (t571)) + 7)) 8)))) bt580.1 bt580.2.1 (List.replicate (t571 : Int).toNat z42) bt575.1 (bt575.1.length : Int) 0) else (none)) else (none)) else (some (([] : List (S42)), 0, 2)))) else (none)) else (some (([] : List (S42)), 0, 2)))) else (none)) else (none)) else (none))) = some (r1, r2, r3) := by rw [if_neg (show ¬ (false = true) by decide)] at H; exact H
    clear H
    have H := H1
    clear H1
    by_cases c6 : (wrap64 (t572 + (wrap64 (Int.tdiv (wrap64 ((wrap64 (t571)) + 7)) 8)))) > (l0.length : Int)
    ·rw [if_pos c6] at H
     have c6b0 : decide ((l0.length : Int) < (wrap64 (t572 + (wrap64 (Int.tdiv (wrap64 ((wrap64 (t571)) + 7)) 8))))) = true := decide_eq_true c6
     clear c6
     simp only [Option.some.injEq, Prod.mk.injEq] at H
     obtain ⟨rfl, rfl, rfl⟩ := H
     go_wp2
     go_ret3
     exact ⟨_, rf_, ni_, bw_⟩
    ·rw [if_neg c6] at H
     have c6b0 : decide ((l0.length : Int) < (wrap64 (t572 + (wrap64 (Int.tdiv (wrap64 ((wrap64 (t571)) + 7)) 8))))) = false := decide_eq_false c6
     clear c6
     by_cases c7 : 0 ≤ t572
     rotate_left
     ·rw [if_neg c7] at H
      exact absurd H (by simp)
     rw [if_pos c7] at H
     have c7b0 := eq_true c7
     have c7b1 : decide (0 ≤ t572) = true := decide_eq_true c7
     clear c7
     by_cases c8 : t572 ≤ (wrap64 (t572 + (wrap64 (Int.tdiv (wrap64 ((wrap64 (t571)) + 7)) 8))))
     rotate_left
     ·rw [if_neg c8] at H
      exact absurd H (by simp)
     rw [if_pos c8] at H
     have c8b0 := eq_true c8
     have c8b1 : decide (t572 ≤ (wrap64 (t572 + (wrap64 (Int.tdiv (wrap64 ((wrap64 (t571)) + 7)) 8))))) = true := decide_eq_true c8
     by_cases c9 : (wrap64 (t572 + (wrap64 (Int.tdiv (wrap64 ((wrap64 (t571)) + 7)) 8)))) ≤ (l0.length : Int)
     rotate_left
     ·rw [if_neg c9] at H
      exact absurd H (by simp)
     rw [if_pos c9] at H
     have c9b0 := eq_true c9
     have c9b1 : decide ((wrap64 (t572 + (wrap64 (Int.tdiv (wrap64 ((wrap64 (t571)) + 7)) 8)))) ≤ (l0.length : Int)) = true := decide_eq_true c9
     replace H := Option.bind_eq_some_iff.mp H
     obtain ⟨⟨t575, t576⟩, A100, H⟩ := H
     replace H : (if t576 = 0 then (if 0 ≤ (wrap64 (t572 + (wrap64 (Int.tdiv (wrap64 ((wrap64 (t571)) + 7)) 8)))) then ((pfor_TakeInts.f kj2 (l0.drop ((wrap64 (t572 + (wrap64 (Int.tdiv (wrap64 ((wrap64 (t571)) + 7)) 8)))) : Int).toNat) 4096).bind fun bt580 => (if bt580.2.2 = 0 then (if 0 ≤ t571 then (if (t571 : Int).toNat ≤ 17592186044416 then (ints_Take.l0 kj2 (wrap64 (t572 + (wrap64 (Int.tdiv (wrap64 ((wrap64 (t571)) + 7)) 8)))) bt580.1 bt580.2.1 (List.replicate (t571 : Int).toNat z42) t575 (t575.length : Int) 0) else (none)) else (none)) else (some (([] : List (S42)), 0, 2)))) else (none)) else (some (([] : List (S42)), 0, 2))) = some (r1, r2, r3) := H
     have A10 := Aside0.mk A100
     clear A100
     by_cases c11 : t576 = 0
     rotate_left
     ·rw [if_neg c11] at H
      have c11b0 : (t576 == 0) = false := beq_eq_false_iff_ne.mpr c11
      have c11b1 : (t576 != 0) = true := bne_iff_ne.mpr c11
      simp only [Option.some.injEq, Prod.mk.injEq] at H
      obtain ⟨rfl, rfl, rfl⟩ := H
      obtain ⟨i047, hi047, _, hsz47, _⟩ := info_parts info5
      obtain ⟨A47, hcut47, hA47, hC47⟩ := print_mid_of (P := Try.prog) (Value.int .u8) 0 22 5 .i64 .i64 Try.underlying22 hi047 hsz47 A0 c0 l0 t572 (wrap64 (t572 + (wrap64 (Int.tdiv (wrap64 ((wrap64 (t571)) + 7)) 8)))) od_ (by first | omega | exact od_) od_ HC0.out
      have HR574 := Aside0.mk (Kd.C_of_reads (h1 := fun _ => rfl) (hA47 _ (Kd.reads_of_C HR0.out)))
      have HC574 := Aside0.mk hC47
      clear hA47 hC47 hi047 hsz47
      go_wp2_with (first | ((with_reducible refine gaC_ (f := 39) rfl ?_); refine goesL_ (some 44) rfl rfl Try.func39 (by kernel_rfl) rfl #[.slice A47 ((l0.take ((wrap64 (t572 + (wrap64 (Int.tdiv (wrap64 ((wrap64 (t571)) + 7)) 8)))) : Int).toNat).drop (t572 : Int).toNat).length (c0 - t572.toNat), .int .i64 (wrap64 (t571)), .int .i64 1] rfl (by (try simp only [List.map_toArray, List.map_cons, List.map_nil]); first | done | (rw [show ((l0.take ((wrap64 (t572 + (wrap64 (Int.tdiv (wrap64 ((wrap64 (t571)) + 7)) 8)))) : Int).toNat).drop (t572 : Int).toNat).length = ((wrap64 (t572 + (wrap64 (Int.tdiv (wrap64 ((wrap64 (t571)) + 7)) 8)))).toNat - t572.toNat) from (by rw [List.length_drop, List.length_take]; have h_ : ((wrap64 (t572 + (wrap64 (Int.tdiv (wrap64 ((wrap64 (t571)) + 7)) 8)))) : Int) ≤ (l0.length : Int) := od_; omega)] <;> rfl) | rfl | (simp only [List.length_drop, List.length_take]; rfl)) ?_; (with_reducible refine (bits_Unpack.calls kj2 _ _ ((l0.take ((wrap64 (t572 + (wrap64 (Int.tdiv (wrap64 ((wrap64 (t571)) + 7)) 8)))) : Int).toNat).drop (t572 : Int).toNat) (wrap64 (t571)) 1 t575 t576 _ ?side1 ?side2 A10.out).mono ?_); (case side1 => exact Kd.cu_ (Kd.C_below HR574.out HB.out)); (case side2 => exact HC574.out); rintro e w48 ⟨v577, rfl, ho0, hb⟩; refine ⟨_, rfl, ?_⟩; have HO578 := Aside0.mk (Kd.R_lower ho0 (pbS_ bw_)); replace HB := Aside0.mk (below_step bw_ hb); (try clear hb); (try clear hb2); (try clear hk); (try clear hi); (try clear ho0)))
      go_ret3
      exact ⟨_, rf_, ni_, bw_⟩
     rw [if_pos c11] at H
     have c11b0 : (t576 == 0) = true := beq_iff_eq.mpr c11
     have c11b1 : (t576 != 0) = false := bne_eq_false_iff_eq.mpr c11
     clear c11
     obtain ⟨ji12, hji12⟩ : ∃ j_ : Int, (wrap64 (t572 + (wrap64 (Int.tdiv (wrap64 ((wrap64 (t571)) + 7)) 8)))) = j_ := ⟨_, rfl⟩
     replace H : (if 0 ≤ (ji12) then ((pfor_TakeInts.f kj2 (l0.drop ((ji12) : Int).toNat) 4096).bind fun bt580 => (if bt580.2.2 = 0 then (if 0 ≤ t571 then (if (t571 : Int).toNat ≤ 17592186044416 then (ints_Take.l0 kj2 ji12 bt580.1 bt580.2.1 (List.replicate (t571 : Int).toNat z42) t575 (t575.length : Int) 0) else (none)) else (none)) else (some (([] : List (S42)), 0, 2)))) else (none)) = some (r1, r2, r3) := by first | (rw [hji12] at H; exact H) | (simp only [hji12] at H ⊢; exact H)
     (try rw [hji12] at c6b0)
     (try rw [hji12] at c8b0)
     (try rw [hji12] at c8b1)
     (try rw [hji12] at c8)
     (try rw [hji12] at c9b0)
     (try rw [hji12] at c9b1)
     (try rw [hji12] at c9)
     (try rw [hji12] at A10)
     have hji12w : (IntKind.i64.wrap (t572 + (wrap64 (Int.tdiv (wrap64 ((wrap64 (t571)) + 7)) 8)))) = ji12 := (i64_w _).trans hji12
     by_cases c13 : 0 ≤ (ji12)
     rotate_left
     ·rw [if_neg c13] at H
      exact absurd H (by simp)
     rw [if_pos c13] at H
     have c13b0 := eq_true c13
     have c13b1 : decide (0 ≤ (ji12)) = true := decide_eq_true c13
     clear c13
     have c14b0 := eq_true (od_ : (ji12) ≤ (l0.length : Int))
     replace H := Option.bind_eq_some_iff.mp H
     obtain ⟨⟨t580, t581, t582⟩, A150, H⟩ := H
     replace H : (if t582 = 0 then (if 0 ≤ t571 then (if (t571 : Int).toNat ≤ 17592186044416 then (ints_Take.l0 kj2 ji12 t580 t581 (List.replicate (t571 : Int).toNat z42) t575 (t575.length : Int) 0) else (none)) else (none)) else (some (([] : List (S42)), 0, 2))) = some (r1, r2, r3) := H
     have A15 := Aside0.mk A150
     clear A150
     by_cases c16 : t582 = 0
     rotate_left
     ·rw [if_neg c16] at H
      have c16b0 : (t582 == 0) = false := beq_eq_false_iff_ne.mpr c16
      have c16b1 : (t582 != 0) = true := bne_iff_ne.mpr c16
      simp only [Option.some.injEq, Prod.mk.injEq] at H
      obtain ⟨rfl, rfl, rfl⟩ := H
      obtain ⟨i043, hi043, _, hsz43, _⟩ := info_parts info5
      obtain ⟨A43, hcut43, hA43, hC43⟩ := print_mid_of (P := Try.prog) (Value.int .u8) 0 22 5 .i64 .i64 Try.underlying22 hi043 hsz43 A0 c0 l0 t572 (ji12) od_ (by first | omega | exact od_) od_ HC0.out
      have HR574 := Aside0.mk (Kd.C_of_reads (h1 := fun _ => rfl) (hA43 _ (Kd.reads_of_C HR0.out)))
      have HC574 := Aside0.mk hC43
      clear hA43 hC43 hi043 hsz43
      go_wp2_with (first | ((with_reducible refine gaC_ (f := 39) rfl ?_); refine goesL_ (some 44) rfl rfl Try.func39 (by kernel_rfl) rfl #[.slice A43 ((l0.take ((ji12) : Int).toNat).drop (t572 : Int).toNat).length (c0 - t572.toNat), .int .i64 (wrap64 (t571)), .int .i64 1] rfl (by (try simp only [List.map_toArray, List.map_cons, List.map_nil]); first | done | (rw [show ((l0.take ((ji12) : Int).toNat).drop (t572 : Int).toNat).length = ((ji12).toNat - t572.toNat) from (by rw [List.length_drop, List.length_take]; have h_ : ((ji12) : Int) ≤ (l0.length : Int) := od_; omega)] <;> rfl) | (simp only [hji12]; rfl) | rfl | (simp only [List.length_drop, List.length_take]; rfl)) ?_; (with_reducible refine (bits_Unpack.calls kj2 _ _ ((l0.take ((ji12) : Int).toNat).drop (t572 : Int).toNat) (wrap64 (t571)) 1 t575 t576 _ ?side1 ?side2 A10.out).mono ?_); (case side1 => exact Kd.cu_ (Kd.C_below HR574.out HB.out)); (case side2 => exact HC574.out); rintro e w44 ⟨v577, rfl, ho0, hb⟩; refine ⟨_, rfl, ?_⟩; have HO578 := Aside0.mk (Kd.R_lower ho0 (pbS_ bw_)); replace HB := Aside0.mk (below_step bw_ hb); (try clear hb); (try clear hb2); (try clear hk); (try clear hi); (try clear ho0); obtain ⟨i045, hi045, _, hsz45, _⟩ := info_parts info5; obtain ⟨A45, hcut45, hA45, hC45⟩ := print_drop_of (P := Try.prog) (Value.int .u8) 0 22 5 .i64 Try.underlying22 hi045 hsz45 A0 c0 l0 (ji12) od_ od_ HC0.out; have HR579 := Aside0.mk (Kd.C_of_reads (h1 := fun _ => rfl) (hA45 _ (Kd.reads_of_C HR0.out))); have HC579 := Aside0.mk hC45; clear hA45 hC45 hi045 hsz45) | ((with_reducible refine gaC_ (f := 40) rfl ?_); refine goesL_ (some 53) rfl rfl Try.func40 (by kernel_rfl) rfl #[.slice A45 (l0.drop ((ji12) : Int).toNat).length (c0 - (ji12).toNat), .int .i64 4096] rfl (by (try simp only [List.map_toArray, List.map_cons, List.map_nil]); first | done | (rw [show (l0.drop ((ji12) : Int).toNat).length = (l0.length - (ji12).toNat) from List.length_drop] <;> rfl) | (simp only [hji12]; rfl) | rfl | (simp only [List.length_drop, List.length_take]; rfl)) ?_; (with_reducible refine (pfor_TakeInts.calls kj2 _ _ (l0.drop ((ji12) : Int).toNat) 4096 t580 t581 t582 _ ?side1 ?side2 A15.out).mono ?_); (case side1 => exact Kd.cu_ (Kd.C_below HR579.out HB.out)); (case side2 => exact HC579.out); rintro e w46 ⟨v583, rfl, ho0, hb⟩; refine ⟨_, rfl, ?_⟩; replace HO578 := Aside0.mk (Kd.R_below (Kd.ru_ HO578.out) hb); have HO584 := Aside0.mk (Kd.R_lower ho0 (pbS_ bw_)); replace HB := Aside0.mk (below_step bw_ hb); (try clear hb); (try clear hb2); (try clear hk); (try clear hi); (try clear ho0)))
      go_ret3
      exact ⟨_, by first | rfl | (simp [eWn_, eWs_] <;> rfl) | (simp only [← hji12]; first | rfl | (simp [eWn_, eWs_] <;> rfl)) | (simp [*, eWn_, eWs_] <;> rfl), ni_, bw_⟩
     rw [if_pos c16] at H
     have c16b0 : (t582 == 0) = true := beq_iff_eq.mpr c16
     have c16b1 : (t582 != 0) = false := bne_eq_false_iff_eq.mpr c16
     clear c16
     by_cases c17 : 0 ≤ t571
     rotate_left
     ·rw [if_neg c17] at H
      exact absurd H (by simp)
     rw [if_pos c17] at H
     have c17b0 := eq_true c17
     have c17b1 : decide (0 ≤ t571) = true := decide_eq_true c17
     clear c17
     by_cases c18 : (t571 : Int).toNat ≤ 17592186044416
     rotate_left
     ·rw [if_neg c18] at H
      exact absurd H (by simp)
     rw [if_pos c18] at H
     have c18b0 := eq_true c18
     have c18b1 : decide ((t571 : Int).toNat ≤ 17592186044416) = true := decide_eq_true c18
     clear c18
     obtain ⟨y585, hy585⟩ : ∃ y_ : List (S42), y_ = (List.replicate (t571 : Int).toNat z42) := ⟨_, rfl⟩
     replace H : (ints_Take.l0 kj2 ji12 t580 t581 y585 t575 (t575.length : Int) 0) = some (r1, r2, r3) := by first | (rw [hy585]; with_reducible exact H) | (have H2_ := (Option.bind_some _ _).symm.trans H; rw [hy585]; with_reducible exact H2_) | (have H2_ := (Option.bind_some _ _).symm.trans H; with_reducible exact H2_) | with_reducible exact H | (rw [hy585]; exact H) | exact H
     have Ny585 := Aside0.mk hy585
     clear hy585
     have H' := Aside0.mk H
     clear H
     obtain ⟨i019, hi019, _, hsz19, _⟩ := info_parts info5
     obtain ⟨A19, hcut19, hA19, hC19⟩ := print_mid_of (P := Try.prog) (Value.int .u8) 0 22 5 .i64 .i64 Try.underlying22 hi019 hsz19 A0 c0 l0 t572 (ji12) od_ (by first | omega | exact od_) od_ HC0.out
     have HR574 := Aside0.mk (Kd.C_of_reads (h1 := fun _ => rfl) (hA19 _ (Kd.reads_of_C HR0.out)))
     have HC574 := Aside0.mk hC19
     clear hA19 hC19 hi019 hsz19
     go_wp2_with (first | ((with_reducible refine gaC_ (f := 39) rfl ?_); refine goesL_ (some 44) rfl rfl Try.func39 (by kernel_rfl) rfl #[.slice A19 ((l0.take ((ji12) : Int).toNat).drop (t572 : Int).toNat).length (c0 - t572.toNat), .int .i64 (wrap64 (t571)), .int .i64 1] rfl (by (try simp only [List.map_toArray, List.map_cons, List.map_nil]); first | done | (rw [show ((l0.take ((ji12) : Int).toNat).drop (t572 : Int).toNat).length = ((ji12).toNat - t572.toNat) from (by rw [List.length_drop, List.length_take]; have h_ : ((ji12) : Int) ≤ (l0.length : Int) := od_; omega)] <;> rfl) | (simp only [hji12]; rfl) | rfl | (simp only [List.length_drop, List.length_take]; rfl)) ?_; (with_reducible refine (bits_Unpack.calls kj2 _ _ ((l0.take ((ji12) : Int).toNat).drop (t572 : Int).toNat) (wrap64 (t571)) 1 t575 t576 _ ?side1 ?side2 A10.out).mono ?_); (case side1 => exact Kd.cu_ (Kd.C_below HR574.out HB.out)); (case side2 => exact HC574.out); rintro e w20 ⟨v577, rfl, ho0, hb⟩; refine ⟨_, rfl, ?_⟩; have HO578 := Aside0.mk (Kd.R_lower ho0 (pbS_ bw_)); replace HB := Aside0.mk (below_step bw_ hb); (try clear hb); (try clear hb2); (try clear hk); (try clear hi); (try clear ho0); obtain ⟨i021, hi021, _, hsz21, _⟩ := info_parts info5; obtain ⟨A21, hcut21, hA21, hC21⟩ := print_drop_of (P := Try.prog) (Value.int .u8) 0 22 5 .i64 Try.underlying22 hi021 hsz21 A0 c0 l0 (ji12) od_ od_ HC0.out; have HR579 := Aside0.mk (Kd.C_of_reads (h1 := fun _ => rfl) (hA21 _ (Kd.reads_of_C HR0.out))); have HC579 := Aside0.mk hC21; clear hA21 hC21 hi021 hsz21) | ((with_reducible refine gaC_ (f := 40) rfl ?_); refine goesL_ (some 53) rfl rfl Try.func40 (by kernel_rfl) rfl #[.slice A21 (l0.drop ((ji12) : Int).toNat).length (c0 - (ji12).toNat), .int .i64 4096] rfl (by (try simp only [List.map_toArray, List.map_cons, List.map_nil]); first | done | (rw [show (l0.drop ((ji12) : Int).toNat).length = (l0.length - (ji12).toNat) from List.length_drop] <;> rfl) | (simp only [hji12]; rfl) | rfl | (simp only [List.length_drop, List.length_take]; rfl)) ?_; (with_reducible refine (pfor_TakeInts.calls kj2 _ _ (l0.drop ((ji12) : Int).toNat) 4096 t580 t581 t582 _ ?side1 ?side2 A15.out).mono ?_); (case side1 => exact Kd.cu_ (Kd.C_below HR579.out HB.out)); (case side2 => exact HC579.out); rintro e w22 ⟨v583, rfl, ho0, hb⟩; refine ⟨_, rfl, ?_⟩; replace HO578 := Aside0.mk (Kd.R_below (Kd.ru_ HO578.out) hb); have HO584 := Aside0.mk (Kd.R_lower ho0 (pbS_ bw_)); replace HB := Aside0.mk (below_step bw_ hb); (try clear hb); (try clear hb2); (try clear hk); (try clear hi); (try clear ho0)) | ((with_reducible refine gate_dst (N := 60) rfl ?_); refine Kd.R_makeu k42 _ 42 rfl (N := 60) rfl 23 _ _ rfl t571 rfl rfl Try.underlying23 (.agg #[(.bool false), (.int .i64 0)]) 16 info42 rfl (by decide) (by omega) z42 (ok := fun _ => True) (okp := fun _ => True) (k42_mkM _ _ _ z42 ) (fun _ hk => hk) trivial od_ (Nat.le_trans (Nat.mul_le_mul_right _ (od_ : t571.toNat ≤ 17592186044416)) (by omega)) (Below.refl _ _) (Nat.le_refl _) ?_; intro v586 w23 ho24 hb hg_ hnew_; clear hg_ hnew_; (first | rw [← Ny585.out] at ho24 | (simp only [Int.reduceToNat] at ho24; rw [← Ny585.out] at ho24)); replace HO578 := Aside0.mk (Kd.R_below (Kd.ru_ HO578.out) hb); replace HO584 := Aside0.mk (Kd.R_below (Kd.ru_ HO584.out) hb); have HO587 := Aside0.mk (Kd.R_lower ho24 (pbS_ bw_)); replace HB := Aside0.mk (below_step bw_ hb); clear hb ho24; obtain ⟨Ao25, co25, eo25⟩ := Kd.R_slice HO578.out; subst eo25))
     go_loopg [10, 63] kj2 (fun kq v10 v63 w' => ∃ (x10_2 : List Int) (x12_2 : List (S42)) (x63_2 : Int), v63 = .int .i64 x63_2 ∧ Aside0 (ints_Take.l0 kq ji12 x10_2 t581 x12_2 t575 (t575.length : Int) x63_2 = some (r1, r2, r3)) ∧ Aside0 (kq ≤ kj2) ∧ Aside0 (Kd.Q (Kd.int .i64) 3 w' w.heap.size (fun _ => True) v10 x10_2) ∧ Aside0 (Kd.R k42 42 w' w.heap.size (fun _ => True) v586 x12_2) ∧ Aside0 (Kd.R (Kd.int .u64) 50 w' w.heap.size (fun _ => True) (.slice Ao25 t575.length co25) t575) ∧ Aside0 (Below w.heap.size w w'))
     case atStart => exact ⟨(t580), (y585), (0), (by first | rfl | (simp; done) | (simp [*]; done)), H', ⟨Nat.le_refl _⟩, ⟨Kd.Q_of_R (Kd.ru_ HO584.out)⟩, ⟨Kd.ru_ HO587.out⟩, ⟨Kd.ru_ HO578.out⟩, ⟨bw_⟩⟩
     case round =>
      clear H'
      try clear c1
      try clear c2
      try clear p2
      try clear c3
      try clear c4
      try clear c4b0
      try clear c4b1
      try clear c5
      try clear c6
      try clear c6b0
      try clear p6
      try clear c7
      try clear c7b0
      try clear c7b1
      try clear c8
      try clear c8b0
      try clear c8b1
      try clear c9
      try clear c9b0
      try clear c9b1
      try clear c11
      try clear c11b0
      try clear c11b1
      try clear c13
      try clear c13b0
      try clear c13b1
      try clear c14
      try clear c14b0
      try clear c16
      try clear c16b0
      try clear c16b1
      try clear c17
      try clear c17b0
      try clear c17b1
      try clear c18
      try clear c18b0
      try clear c18b1
      try clear c24
      try clear p2
      obtain ⟨x10_2, x12_2, x63_2, rfl, HA, HK2, HO_10, HO_12, HO_61, HB⟩ := hrel
      cases gk with
      | zero => exact absurd HA.out (by simp [ints_Take.l0])
      | succ k2 =>
       have H := HA.out
       clear HA
       simp only [ints_Take.l0] at H
       by_cases c26 : x63_2 < (t575.length : Int)
       rotate_left
       ·rw [if_neg c26] at H
        have c26b0 : decide (x63_2 < (t575.length : Int)) = false := decide_eq_false c26
        clear c26
        by_cases c40 : (x10_2.length : Int) > 0
        rotate_left
        ·rw [if_neg c40] at H
         have c40b0 : decide (0 < (x10_2.length : Int)) = false := decide_eq_false c40
         have c40b1 : decide (0 < x10_2.length) = false := decide_eq_false (by omega)
         clear c40
         simp only [Option.some.injEq, Prod.mk.injEq] at H
         obtain ⟨rfl, rfl, rfl⟩ := H
         obtain ⟨Ao42, co42, eo42, _⟩ := Kd.Q_slice HO_10.out
         subst eo42
         go_wp2
         go_ret3
         exact ⟨_, by first | rfl | (simp [eWn_, eWs_] <;> rfl) | (simp only [← hji12]; first | rfl | (simp [eWn_, eWs_] <;> rfl)) | (simp [*, eWn_, eWs_] <;> rfl), by (with_reducible repeat (first | apply Kd.rA_ | apply Kd.rN_ | apply Kd.rD_)); exact HO_12.out, bw_⟩
        rw [if_pos c40] at H
        have c40b0 : decide (0 < (x10_2.length : Int)) = true := decide_eq_true c40
        have c40b1 : decide (0 < x10_2.length) = true := decide_eq_true (by omega)
        clear c40
        simp only [Option.some.injEq, Prod.mk.injEq] at H
        obtain ⟨rfl, rfl, rfl⟩ := H
        obtain ⟨Ao41, co41, eo41, _⟩ := Kd.Q_slice HO_10.out
        subst eo41
        go_wp2
        go_ret3
        exact ⟨_, by first | rfl | (simp [eWn_, eWs_] <;> rfl) | (simp only [← hji12]; first | rfl | (simp [eWn_, eWs_] <;> rfl)) | (simp [*, eWn_, eWs_] <;> rfl), ni_, bw_⟩
       rw [if_pos c26] at H
       have c26b0 : decide (x63_2 < (t575.length : Int)) = true := decide_eq_true c26
       clear c26
       by_cases c27 : 0 ≤ x63_2
       rotate_left
       ·rw [if_neg c27] at H
        exact absurd H (by simp)
       rw [if_pos c27] at H
       have c27b0 : decide (0 ≤ x63_2) = true := decide_eq_true c27
       clear c27
       by_cases c28 : x63_2 < (t575.length : Int)
       rotate_left
       ·rw [if_neg c28] at H
        exact absurd H (by simp)
       rw [if_pos c28] at H
       have c28b0 : decide (x63_2 < (t575.length : Int)) = true := decide_eq_true c28
       clear c28
       by_cases c29 : (rd t575 x63_2) = 0
       ·rw [if_pos c29] at H
        have c29b0 : ((rd t575 x63_2) == 0) = true := beq_iff_eq.mpr c29
        have c29b1 : ((rd t575 x63_2) != 0) = false := bne_eq_false_iff_eq.mpr c29
        clear c29
        have H' := Aside0.mk H
        clear H
        have p588 : 0 ≤ (x63_2 : Int) := od_
        have q588 : x63_2 < (t575.length : Int) := od_
        obtain ⟨ad588, e588, hx588_0⟩ := Kd.at_int (Kd.R_reads' HO_61.out).2.2 x63_2 p588 q588
        cases e588
        replace p588 := eq_true p588
        replace q588 := eq_true q588
        go_wp2
        go_roundg k2
        case measure => have := HJ2.out; have := HK2.out; omega
        case rel => exact ⟨(x10_2), (x12_2), (wrap64 (x63_2 + 1)), (by first | rfl | (simp; done) | (simp [*]; done)), H', ⟨by have := HJ2.out; have := HK2.out; omega⟩, ⟨by (with_reducible repeat (first | apply Kd.Q_alloc | apply Kd.Q_drewN | apply Kd.Q_drew)); exact HO_10.out⟩, ⟨Kd.ru_ HO_12.out⟩, ⟨Kd.ru_ HO_61.out⟩, ⟨bw_⟩⟩
       ·rw [if_neg c29] at H
        have c29b0 : ((rd t575 x63_2) == 0) = false := beq_eq_false_iff_ne.mpr c29
        have c29b1 : ((rd t575 x63_2) != 0) = true := bne_iff_ne.mpr c29
        by_cases c30 : (x10_2.length : Int) = 0
        ·rw [if_pos c30] at H
         have c30b0 : ((x10_2.length : Int) == 0) = true := beq_iff_eq.mpr c30
         have c30b1 : ((x10_2.length : Int) != 0) = false := bne_eq_false_iff_eq.mpr c30
         clear c30
         simp only [Option.some.injEq, Prod.mk.injEq] at H
         obtain ⟨rfl, rfl, rfl⟩ := H
         have p588 : 0 ≤ (x63_2 : Int) := od_
         have q588 : x63_2 < (t575.length : Int) := od_
         obtain ⟨ad588, e588, hx588_0⟩ := Kd.at_int (Kd.R_reads' HO_61.out).2.2 x63_2 p588 q588
         cases e588
         replace p588 := eq_true p588
         replace q588 := eq_true q588
         obtain ⟨Ao31, co31, eo31, _⟩ := Kd.Q_slice HO_10.out
         subst eo31
         go_wp2
         go_ret3
         exact ⟨_, by first | rfl | (simp [eWn_, eWs_] <;> rfl) | (simp only [← hji12]; first | rfl | (simp [eWn_, eWs_] <;> rfl)) | (simp [*, eWn_, eWs_] <;> rfl), ni_, bw_⟩
        ·rw [if_neg c30] at H
         have c30b0 : ((x10_2.length : Int) == 0) = false := beq_eq_false_iff_ne.mpr c30
         have c30b1 : ((x10_2.length : Int) != 0) = true := bne_iff_ne.mpr c30
         have c30b2 : ¬ (x10_2 = []) := fun h_ => c30 (by rw [h_]; rfl)
         by_cases c32 : 0 < (x10_2.length : Int)
         rotate_left
         ·rw [if_neg c32] at H
          exact absurd H (by simp)
         rw [if_pos c32] at H
         have c32b0 : decide (0 < (x10_2.length : Int)) = true := decide_eq_true c32
         have c32b1 : decide (0 < x10_2.length) = true := decide_eq_true (by omega)
         clear c32
         by_cases c33 : 1 ≤ (x10_2.length : Int)
         rotate_left
         ·rw [if_neg c33] at H
          exact absurd H (by simp)
         rw [if_pos c33] at H
         have c33b0 := eq_true c33
         have c33b1 : decide (1 ≤ (x10_2.length : Int)) = true := decide_eq_true c33
         clear c33
         obtain ⟨y590, hy590⟩ : ∃ y_ : List Int, y_ = (x10_2.drop (1 : Int).toNat) := ⟨_, rfl⟩
         replace H : (if x63_2 < (x12_2.length : Int) then (ints_Take.l0 k2 ji12 y590 t581 (x12_2.set (x63_2 : Int).toNat (⟨true, rd x10_2 0⟩ : S42)) t575 (t575.length : Int) (wrap64 (x63_2 + 1))) else (none)) = some (r1, r2, r3) := by first | (rw [hy590]; with_reducible exact H) | (have H2_ := (Option.bind_some _ _).symm.trans H; rw [hy590]; with_reducible exact H2_) | (have H2_ := (Option.bind_some _ _).symm.trans H; with_reducible exact H2_) | with_reducible exact H | (rw [hy590]; exact H) | exact H
         have Ny590 := Aside0.mk hy590
         clear hy590
         by_cases c34 : x63_2 < (x12_2.length : Int)
         rotate_left
         ·rw [if_neg c34] at H
          exact absurd H (by simp)
         rw [if_pos c34] at H
         have c34b0 : decide (x63_2 < (x12_2.length : Int)) = true := decide_eq_true c34
         clear c34
         obtain ⟨y593, hy593⟩ : ∃ y_ : List (S42), y_ = (x12_2.set (x63_2 : Int).toNat (⟨true, rd x10_2 0⟩ : S42)) := ⟨_, rfl⟩
         replace H : (ints_Take.l0 k2 ji12 y590 t581 y593 t575 (t575.length : Int) (wrap64 (x63_2 + 1))) = some (r1, r2, r3) := by first | (rw [hy593]; with_reducible exact H) | (have H2_ := (Option.bind_some _ _).symm.trans H; rw [hy593]; with_reducible exact H2_) | (have H2_ := (Option.bind_some _ _).symm.trans H; with_reducible exact H2_) | with_reducible exact H | (rw [hy593]; exact H) | exact H
         have Ny593 := Aside0.mk hy593
         clear hy593
         have H' := Aside0.mk H
         clear H
         have p588 : 0 ≤ (x63_2 : Int) := od_
         have q588 : x63_2 < (t575.length : Int) := od_
         obtain ⟨ad588, e588, hx588_0⟩ := Kd.at_int (Kd.R_reads' HO_61.out).2.2 x63_2 p588 q588
         cases e588
         replace p588 := eq_true p588
         replace q588 := eq_true q588
         obtain ⟨Ao36, co36, eo36, _⟩ := Kd.Q_slice HO_10.out
         subst eo36
         try go_wp2
         (try (rw [drewN_self wr]; generalize hq_ : World.drewN wr _ = wr; have n0_ : Aside0 (Kd.Q (Kd.int .i64) 3 wr w.heap.size (fun _ => True) (.slice Ao36 x10_2.length co36) x10_2) := ⟨by rw [← hq_]; exact (by (with_reducible repeat (first | apply Kd.Q_alloc | apply Kd.Q_drewN | apply Kd.Q_drew)); exact HO_10.out)⟩; have n1_ : Aside0 (Kd.R k42 42 wr w.heap.size (fun _ => True) v586 x12_2) := ⟨by rw [← hq_]; exact (Kd.ru_ HO_12.out)⟩; have n2_ : Aside0 (Kd.R (Kd.int .u64) 50 wr w.heap.size (fun _ => True) (.slice (some ad588) t575.length co25) t575) := ⟨by rw [← hq_]; exact (Kd.ru_ HO_61.out)⟩; have n3_ : Aside0 (Below w.heap.size w wr) := ⟨by rw [← hq_]; exact bw_⟩; clear HO_10 HO_12 HO_61 HB hq_; have HO_10 := n0_; have HO_12 := n1_; have HO_61 := n2_; have HB := n3_; clear n0_ n1_ n2_ n3_))
         have n0_ := Aside0.mk (Kd.Q_drew HO_10.out)
         have n1_ := Aside0.mk (Kd.rD_ HO_12.out)
         have n2_ := Aside0.mk (Kd.rD_ HO_61.out)
         have n3_ := Aside0.mk (pb1_ HB.out)
         clear HO_10
         clear HO_12
         clear HO_61
         clear HB
         have HO_10 := n0_
         have HO_12 := n1_
         have HO_61 := n2_
         have HB := n3_
         clear n0_ n1_ n2_ n3_
         have p589 : 0 ≤ (0 : Int) := (by omega)
         have q589 : 0 < (x10_2.length : Int) := od_
         obtain ⟨ad589, e589, hx589_0⟩ := Kd.at_int (Kd.Q_reads' HO_10.out).2.2 0 p589 q589
         cases e589
         have qi589 : (0 < x10_2.length) = True := eq_true (by omega)
         (try rw [show ((0 : Int)).toNat = 0 from rfl] at hx589_0)
         (try rw [Addr.add_zero'] at hx589_0)
         replace p589 := eq_true p589
         replace q589 := eq_true q589
         have q38 : (1 : Int) ≤ ((x10_2.length : Int) : Int) := od_
         obtain ⟨i038, hi038, _, hsz38, _⟩ := info_parts info3
         have hcut38 := cut_from (P := Try.prog) 39 3 .i64 Try.underlying39 hi038 1 hsz38 (some ad589) x10_2.length co36 1 (by omega) q38
         have hr38 := Kd.Q_drop (k := (1 : Int).toNat) HO_10.out (by omega)
         obtain ⟨A38, hA38⟩ : ∃ A1, A1 = (if co36 = (1 : Int).toNat then (some ad589) else ((some ad589) : Option Addr).map (·.add ((1 : Int).toNat * 1))) := ⟨_, rfl⟩
         obtain ⟨c38, hc38⟩ : ∃ c1, c1 = co36 - (1 : Int).toNat := ⟨_, rfl⟩
         have hy38 : y590.length = x10_2.length - (1 : Int).toNat := (by rw [Ny590.out, List.length_drop])
         rw [← Ny590.out] at hr38
         rw [← hy38, ← hA38, ← hc38] at hcut38
         replace hr38 : Kd.Q (Kd.int .i64) 3 _ w.heap.size (fun _ => True) (.slice A38 y590.length c38) y590 := (by rw [hA38, hc38, hy38]; exact hr38)
         have HE38 : Aside0 ((Value.slice A38 y590.length c38).ownBlock = (.slice (some ad589) x10_2.length co36 : Value).ownBlock) := ⟨by rw [hA38]; split <;> (cases ((some ad589) : Option Addr) <;> rfl)⟩
         clear hy38 hi038 hsz38 HO_10 hA38 hc38
         have HO592 := Aside0.mk hr38
         clear hr38
         replace q38 := eq_true q38
         have p35 : 0 ≤ (x63_2 : Int) := od_
         have q35 : (x63_2 : Int) < ((x12_2.length : Int) : Int) := od_
         obtain ⟨go35, co35, eo35, gb35, gl35, cl35, HG35⟩ := Kd.R_form HO_12.out (by omega)
         (first | cases eo35 | (injection eo35 with ea_ en_ ec_; (first | subst ea_ | (injection ea_ with ea_; subst ea_)); subst ec_; clear en_))
         have GB35 := Aside0.mk gb35
         have GG35 := Aside0.mk HG35
         clear gb35 gl35 HG35
         obtain ⟨ce35, hcl35, hM35, hcc35, hfr35⟩ := Kd.R_elem HO_12.out z42 (x63_2 : Int) p35 q35
         obtain rfl := k42_openM hM35
         have hx35_0 : World.cell? _ ⟨go35, (x63_2 : Int).toNat * 2, none⟩ = some (.bool ((rd_T42 x12_2 x63_2).f0)) := hcc35 0 _ rfl
         have hx35_1 : World.cell? _ ⟨go35, (x63_2 : Int).toNat * 2 + 1, none⟩ = some (.int .i64 ((rd_T42 x12_2 x63_2).f1)) := hcc35 1 _ rfl
         have hf35_0 : World.frozen? _ ⟨go35, (x63_2 : Int).toNat * 2, none⟩ = false := hfr35 0
         have hf35_1 : World.frozen? _ ⟨go35, (x63_2 : Int).toNat * 2 + 1, none⟩ = false := hfr35 1
         clear hcl35 hcc35 hfr35 hM35
         replace p35 := eq_true p35
         replace q35 := eq_true q35
         obtain ⟨ce39, hcl39, hM39, hcc39, hfr39⟩ := Kd.R_elem HO_12.out z42 (x63_2 : Int) od_ (by have h_ : (x63_2 : Int) < ((x12_2.length : Int) : Int) := od_; first | exact h_ | (have e_ := (Kd.R_reads' HO_12.out).1; omega) | simpa using h_)
         obtain rfl := k42_openM hM39
         have HP39 := (Kd.R_seg HO_12.out (x63_2 : Int) od_ (by have h_ : (x63_2 : Int) < ((x12_2.length : Int) : Int) := od_; first | exact h_ | (have e_ := (Kd.R_reads' HO_12.out).1; omega) | simpa using h_) (seg := [.bool true, .int .i64 (rd x10_2 0)]) (j := 0) hcl39 hcc39 (show 2 ≤ 2 from by decide) (x' := (⟨true, rd x10_2 0⟩ : S42)) (k42_mkM _ _ _ (⟨true, rd x10_2 0⟩ : S42) ) (fun _ hk => hk)).1
         rw [← Ny593.out] at HP39
         have HQ39 := Aside0.mk HP39
         clear hcl39 hcc39 hfr39 hM39 HP39
         refine start_ (n := 11) (S := fun w' => w'.cell? ad589 = some (.int .i64 (rd x10_2 0))) (ds := [9]) #[false, false, false, false, false, false, false, false, false, false, false] (by kernel_rfl) rfl rfl (hx589_0) (fun hHeld => ?_); refine with_tabW ints_Take.tab20 ints_Take.bits20 (fun HT_ HW_ => ?_)
         generalize wr.drew = w37 at HO_12 HO_61 HB GG35 HO592 HQ39 hf35_0 hf35_1 hx35_0 hx35_1 hx589_0 hHeld ⊢
         refine pu_ (i := 0) (N := some 73) HT_ #[true, false, false, false, false, false, false, false, false, false, false] ?_
         refine pu_ (i := 1) (N := some 74) HT_ #[true, true, false, false, false, false, false, false, false, false, false] ?_
         refine pu_ (i := 2) (N := some 75) HT_ #[true, true, true, false, false, false, false, false, false, false, false] ?_
         refine pu_ (i := 3) (N := some 76) HT_ #[true, true, true, true, false, false, false, false, false, false, false] ?_
         refine pu_ (i := 6) (N := some 79) HT_ #[true, true, true, true, false, false, true, false, false, false, false] ?_
         refine pu_ (i := 7) (N := some 80) HT_ #[true, true, true, true, false, false, true, true, false, false, false] ?_
         refine ta_ (i := 4) (N := some 77) HT_ HW_ #[true, true, true, true, true, false, true, true, false, false, false] hHeld ?_
         refine pu_ (i := 5) (N := some 78) HT_ #[true, true, true, true, true, true, true, true, false, false, false] ?_
         refine pu_ (i := 8) (N := some 81) HT_ #[true, true, true, true, true, true, true, true, true, false, false] ?_
         refine last_ (i := 9) (N := none) #[tT,tT,tT,tT,tT,tT,tT,tT,tT,tT,fF] rfl rfl (one_of HT_.out (by kernel_rfl)) (by decide) (fun K hK => ?_)
         refine skip_ (w1 := ?_) (by rfl) rfl ?_ ?_
         rotate_left
         ·go_simp
          rfl
         refine hK.out _ _ ?_
         clear hK K
         refine pu_ (i := 10) (N := some 10) HT_ #[true, true, true, true, true, true, true, true, true, true, true] ?_
         refine done_ (done_of HT_.out (by kernel_rfl)) ?_
         try go_wp2
         go_roundg k2
         case measure => have := HJ2.out; have := HK2.out; omega
         case rel => exact ⟨(y590), (y593), (wrap64 (x63_2 + 1)), (by first | rfl | (simp; done) | (simp [*]; done)), H', ⟨by have := HJ2.out; have := HK2.out; omega⟩, ⟨by (with_reducible repeat (first | apply Kd.Q_alloc | apply Kd.Q_drewN | apply Kd.Q_drew)); exact Kd.Q_mono (Kd.Q_far (p := ⟨go35, (x63_2 : Int).toNat * 2 + 1, none⟩) (Kd.Q_far (p := ⟨go35, (x63_2 : Int).toNat * 2, none⟩) (Kd.Q_types HO592.out GG35.out (by decide)) (fun _ hk => hk.2) (.bool true)) (fun _ hk => hk.2) (.int .i64 (rd x10_2 0))) (fun _ hk => trivial)⟩, ⟨Kd.ru_ HQ39.out⟩, ⟨by (with_reducible repeat (first | apply Kd.rA_ | apply Kd.rN_ | apply Kd.rD_)); exact Kd.R_mono (Kd.R_far (p := ⟨go35, (x63_2 : Int).toNat * 2 + 1, none⟩) (Kd.R_far (p := ⟨go35, (x63_2 : Int).toNat * 2, none⟩) (Kd.R_types HO_61.out GG35.out (by decide)) (fun _ hk => hk.2) (.bool true)) (fun _ hk => hk.2) (.int .i64 (rd x10_2 0))) (fun _ hk => trivial)⟩, ⟨by repeat (first | (with_reducible first | exact HB.out | apply pbA_ | apply pbN_ | apply pb1_ | refine below_set ?_ GB35.out | refine below_set ?_ GB35.out) | exact HB.out)⟩⟩
noncomputable def dragnetref02_Take.l0 : Nat → List Int → Int → Int → Int → Option (Int × Int × Int)
 | 0, _, _, _, _ => none
 | k + 1, x0, x5, x6, x7 => if x7 > 0 then (if 0 ≤ x7 then (if x7 < (x0.length : Int) then (dragnetref02_Take.l0 k x0 x5 (IntKind.u64.wrap ((IntKind.u64.wrap (x6 * 256)) + (IntKind.u64.wrap (rd x0 x7)))) (wrap64 (x7 - 1))) else (none)) else (none)) else ((dragnetref02_Bytes.f k x6).bind fun t598 => (if (t598.length : Int) = (wrap64 (1 + x5)) then (some (x6, wrap64 (1 + x5), 0)) else (some (0, 0, 2))))
noncomputable def dragnetref02_Take.f (k : Nat) (l0 : List Int) : Option (Int × Int × Int) := if (l0.length : Int) = 0 then (some (0, 0, 3)) else (if 0 < (l0.length : Int) then (if (rd l0 0) ≤ 247 then (some (IntKind.u64.wrap (rd l0 0), 1, 0)) else (if (wrap64 ((l0.length : Int) - 1)) < (wrap64 ((wrap64 (rd l0 0)) - 247)) then (some (0, 0, 3)) else (dragnetref02_Take.l0 k l0 (wrap64 ((wrap64 (rd l0 0)) - 247)) 0 (wrap64 ((wrap64 (rd l0 0)) - 247))))) else (none))
theorem dragnetref02_Take.mono_l : ∀ k, (∀ y0 y1 y2 y3, LeO (dragnetref02_Take.l0 k y0 y1 y2 y3) (dragnetref02_Take.l0 (k + 1) y0 y1 y2 y3))
 | 0 => fun _ _ _ _ r h => by simp [dragnetref02_Take.l0] at h
 | k + 1 => by
  have ih0 := dragnetref02_Take.mono_l k
  ·intro y0 y1 y2 y3
   unfold dragnetref02_Take.l0
   repeat' first
   | (with_reducible exact ih0 _ _ _ _)
   | (with_reducible exact dragnetref02_Bytes.mono _ _)
   | (with_reducible exact LeO.refl _)
   | (with_reducible exact LeO.none _)
   | (with_reducible refine LeO.ite ?_ ?_)
   | (with_reducible refine LeO.bind ?_ (fun _ => ?_))
theorem dragnetref02_Take.mono : ∀ a0 k, LeO (dragnetref02_Take.f k a0) (dragnetref02_Take.f (k + 1) a0) := by
 intro a0 k
 have ih0 := dragnetref02_Take.mono_l k
 unfold dragnetref02_Take.f
 repeat' first
   | (with_reducible exact ih0 _ _ _ _)
   | (with_reducible exact dragnetref02_Bytes.mono _ _)
   | (with_reducible exact LeO.refl _)
   | (with_reducible exact LeO.none _)
   | (with_reducible refine LeO.ite ?_ ?_)
   | (with_reducible refine LeO.bind ?_ (fun _ => ?_))
set_option maxHeartbeats 8000000 in
set_option maxRecDepth 100000 in
theorem dragnetref02_Take.calls (k : Nat) (A0 : Option Addr) (c0 : Nat) (l0 : List Int) (r1 : Int) (r2 : Int) (r3 : Int) (w : World) (hr0 : Kd.C (Kd.int .u8) w A0 l0.length l0) (hc0 : l0.length ≤ c0) (h : dragnetref02_Take.f k l0 = some (r1, r2, r3)) :
  Calls Try.prog 41 #[.slice A0 l0.length c0] w fun e w' => e = .returned (.tuple #[.int .u64 r1, .int .i64 r2, .int .i64 r3]) ∧ Below w.heap.size w w' := by
 have HR0 := Aside0.mk hr0
 have HC0 := Aside0.mk hc0
 clear hr0 hc0
 have HB := Aside0.mk (Below.refl w.heap.size w)
 have H : (if (l0.length : Int) = 0 then (some (0, 0, 3)) else (if 0 < (l0.length : Int) then (if (rd l0 0) ≤ 247 then (some (IntKind.u64.wrap (rd l0 0), 1, 0)) else (if (wrap64 ((l0.length : Int) - 1)) < (wrap64 ((wrap64 (rd l0 0)) - 247)) then (some (0, 0, 3)) else (dragnetref02_Take.l0 k l0 (wrap64 ((wrap64 (rd l0 0)) - 247)) 0 (wrap64 ((wrap64 (rd l0 0)) - 247))))) else (none))) = some (r1, r2, r3) := h
 clear h
 by_cases c2 : (l0.length : Int) = 0
 ·rw [if_pos c2] at H
  have c2b0 : ((l0.length : Int) == 0) = true := beq_iff_eq.mpr c2
  have c2b1 : ((l0.length : Int) != 0) = false := bne_eq_false_iff_eq.mpr c2
  clear c2
  simp only [Option.some.injEq, Prod.mk.injEq] at H
  obtain ⟨rfl, rfl, rfl⟩ := H
  go_enter Try.func41, Try.ntmps41
  go_wp2
  go_ret3
  exact ⟨rf_, bw_⟩
 ·rw [if_neg c2] at H
  have c2b0 : ((l0.length : Int) == 0) = false := beq_eq_false_iff_ne.mpr c2
  have c2b1 : ((l0.length : Int) != 0) = true := bne_iff_ne.mpr c2
  have c2b2 : ¬ (l0 = []) := fun h_ => c2 (by rw [h_]; rfl)
  by_cases c3 : 0 < (l0.length : Int)
  rotate_left
  ·rw [if_neg c3] at H
   exact absurd H (by simp)
  rw [if_pos c3] at H
  have c3b0 : decide (0 < (l0.length : Int)) = true := decide_eq_true c3
  have c3b1 : decide (0 < l0.length) = true := decide_eq_true (by omega)
  clear c3
  by_cases c4 : (rd l0 0) ≤ 247
  ·rw [if_pos c4] at H
   have c4b0 : decide ((rd l0 0) ≤ 247) = true := decide_eq_true c4
   clear c4
   simp only [Option.some.injEq, Prod.mk.injEq] at H
   obtain ⟨rfl, rfl, rfl⟩ := H
   have p594 : 0 ≤ (0 : Int) := (by omega)
   have q594 : 0 < (l0.length : Int) := od_
   obtain ⟨ad594, e594, hx594_0⟩ := Kd.at_int HR0.out 0 p594 q594
   cases e594
   have qi594 : (0 < l0.length) = True := eq_true (by omega)
   (try rw [show ((0 : Int)).toNat = 0 from rfl] at hx594_0)
   (try rw [Addr.add_zero'] at hx594_0)
   replace p594 := eq_true p594
   replace q594 := eq_true q594
   have p595 : 0 ≤ (0 : Int) := (by omega)
   have q595 : 0 < (l0.length : Int) := od_
   obtain ⟨ad595, e595, hx595_0⟩ := Kd.at_int HR0.out 0 p595 q595
   obtain rfl : ad594 = ad595 := (by injection e595)
   have qi595 : (0 < l0.length) = True := eq_true (by omega)
   (try rw [show ((0 : Int)).toNat = 0 from rfl] at hx595_0)
   (try rw [Addr.add_zero'] at hx595_0)
   replace p595 := eq_true p595
   replace q595 := eq_true q595
   go_enter Try.func41, Try.ntmps41
   go_wp2
   go_ret3
   exact ⟨rf_, bw_⟩
  ·rw [if_neg c4] at H
   have c4b0 : decide ((rd l0 0) ≤ 247) = false := decide_eq_false c4
   clear c4
   by_cases c5 : (wrap64 ((l0.length : Int) - 1)) < (wrap64 ((wrap64 (rd l0 0)) - 247))
   ·rw [if_pos c5] at H
    have c5b0 : decide ((wrap64 ((l0.length : Int) - 1)) < (wrap64 ((wrap64 (rd l0 0)) - 247))) = true := decide_eq_true c5
    clear c5
    simp only [Option.some.injEq, Prod.mk.injEq] at H
    obtain ⟨rfl, rfl, rfl⟩ := H
    have p594 : 0 ≤ (0 : Int) := (by omega)
    have q594 : 0 < (l0.length : Int) := od_
    obtain ⟨ad594, e594, hx594_0⟩ := Kd.at_int HR0.out 0 p594 q594
    cases e594
    have qi594 : (0 < l0.length) = True := eq_true (by omega)
    (try rw [show ((0 : Int)).toNat = 0 from rfl] at hx594_0)
    (try rw [Addr.add_zero'] at hx594_0)
    replace p594 := eq_true p594
    replace q594 := eq_true q594
    have p596 : 0 ≤ (0 : Int) := (by omega)
    have q596 : 0 < (l0.length : Int) := od_
    obtain ⟨ad596, e596, hx596_0⟩ := Kd.at_int HR0.out 0 p596 q596
    obtain rfl : ad594 = ad596 := (by injection e596)
    have qi596 : (0 < l0.length) = True := eq_true (by omega)
    (try rw [show ((0 : Int)).toNat = 0 from rfl] at hx596_0)
    (try rw [Addr.add_zero'] at hx596_0)
    replace p596 := eq_true p596
    replace q596 := eq_true q596
    go_enter Try.func41, Try.ntmps41
    go_wp2
    go_ret3
    exact ⟨rf_, bw_⟩
   ·rw [if_neg c5] at H
    have c5b0 : decide ((wrap64 ((l0.length : Int) - 1)) < (wrap64 ((wrap64 (rd l0 0)) - 247))) = false := decide_eq_false c5
    clear c5
    have H' := Aside0.mk H
    clear H
    have p594 : 0 ≤ (0 : Int) := (by omega)
    have q594 : 0 < (l0.length : Int) := od_
    obtain ⟨ad594, e594, hx594_0⟩ := Kd.at_int HR0.out 0 p594 q594
    cases e594
    have qi594 : (0 < l0.length) = True := eq_true (by omega)
    (try rw [show ((0 : Int)).toNat = 0 from rfl] at hx594_0)
    (try rw [Addr.add_zero'] at hx594_0)
    replace p594 := eq_true p594
    replace q594 := eq_true q594
    have p596 : 0 ≤ (0 : Int) := (by omega)
    have q596 : 0 < (l0.length : Int) := od_
    obtain ⟨ad596, e596, hx596_0⟩ := Kd.at_int HR0.out 0 p596 q596
    obtain rfl : ad594 = ad596 := (by injection e596)
    have qi596 : (0 < l0.length) = True := eq_true (by omega)
    (try rw [show ((0 : Int)).toNat = 0 from rfl] at hx596_0)
    (try rw [Addr.add_zero'] at hx596_0)
    replace p596 := eq_true p596
    replace q596 := eq_true q596
    go_enter Try.func41, Try.ntmps41
    go_wp2
    go_loopg [6, 7] k (fun kq v6 v7 w' => ∃ (x6_1 : Int) (x7_1 : Int), v6 = .int .u64 x6_1 ∧ v7 = .int .i64 x7_1 ∧ Aside0 (dragnetref02_Take.l0 kq l0 (wrap64 ((wrap64 (rd l0 0)) - 247)) x6_1 x7_1 = some (r1, r2, r3)) ∧ Aside0 (kq ≤ k) ∧ Aside0 (Below w.heap.size w w'))
    case atStart => exact ⟨(0), (wrap64 ((wrap64 (rd l0 0)) - 247)), (by first | rfl | (simp; done) | (simp [*]; done)), (by first | rfl | (simp; done) | (simp [*]; done)), H', ⟨Nat.le_refl _⟩, ⟨bw_⟩⟩
    case round =>
     clear H'
     try clear c2
     try clear c2b0
     try clear c2b1
     try clear c2b2
     try clear p2
     try clear c3
     try clear c3b0
     try clear c3b1
     try clear c4
     try clear c4b0
     try clear c5
     try clear c5b0
     try clear p5
     try clear q5
     try clear hx5
     try clear qi5
     try clear hx594_0
     try clear hx595_0
     try clear hx596_0
     try clear p594
     try clear p595
     try clear p596
     try clear q594
     try clear q595
     try clear q596
     obtain ⟨x6_1, x7_1, rfl, rfl, HA, HK1, HB⟩ := hrel
     cases gk with
     | zero => exact absurd HA.out (by simp [dragnetref02_Take.l0])
     | succ k1 =>
      have H := HA.out
      clear HA
      simp only [dragnetref02_Take.l0] at H
      by_cases c6 : x7_1 > 0
      rotate_left
      ·rw [if_neg c6] at H
       have c6b0 : decide (0 < x7_1) = false := decide_eq_false c6
       clear c6
       replace H := Option.bind_eq_some_iff.mp H
       obtain ⟨t598, A90, H⟩ := H
       replace H : (if (t598.length : Int) = (wrap64 (1 + (wrap64 ((wrap64 (rd l0 0)) - 247)))) then (some (x6_1, wrap64 (1 + (wrap64 ((wrap64 (rd l0 0)) - 247))), 0)) else (some (0, 0, 2))) = some (r1, r2, r3) := H
       have A9 := Aside0.mk A90
       clear A90
       by_cases c10 : (t598.length : Int) = (wrap64 (1 + (wrap64 ((wrap64 (rd l0 0)) - 247))))
       rotate_left
       ·rw [if_neg c10] at H
        have c10b0 : ((t598.length : Int) == (wrap64 (1 + (wrap64 ((wrap64 (rd l0 0)) - 247))))) = false := beq_eq_false_iff_ne.mpr c10
        have c10b1 : ((t598.length : Int) != (wrap64 (1 + (wrap64 ((wrap64 (rd l0 0)) - 247))))) = true := bne_iff_ne.mpr c10
        simp only [Option.some.injEq, Prod.mk.injEq] at H
        obtain ⟨rfl, rfl, rfl⟩ := H
        go_wp2_with (first | ((with_reducible refine gaC_ (f := 32) rfl ?_); refine goesL_ (some 43) rfl rfl Try.func32 (by kernel_rfl) rfl #[.int .u64 x6_1] rfl (by (try simp only [List.map_toArray, List.map_cons, List.map_nil]); first | done | rfl | (simp only [List.length_drop, List.length_take]; rfl)) ?_; (with_reducible refine (dragnetref02_Bytes.calls k1 x6_1 t598 _ A9.out).mono ?_); rintro e w13 ⟨v599, rfl, ho0, hb⟩; refine ⟨_, rfl, ?_⟩; have HO600 := Aside0.mk (Kd.R_lower ho0 (pbS_ bw_)); replace HB := Aside0.mk (below_step bw_ hb); (try clear hb); (try clear hb2); (try clear hk); (try clear hi); (try clear ho0); obtain ⟨Ao14, co14, eo14⟩ := Kd.R_slice HO600.out; subst eo14))
        go_ret3
        exact ⟨rf_, bw_⟩
       rw [if_pos c10] at H
       have c10b0 : ((t598.length : Int) == (wrap64 (1 + (wrap64 ((wrap64 (rd l0 0)) - 247))))) = true := beq_iff_eq.mpr c10
       have c10b1 : ((t598.length : Int) != (wrap64 (1 + (wrap64 ((wrap64 (rd l0 0)) - 247))))) = false := bne_eq_false_iff_eq.mpr c10
       clear c10
       simp only [Option.some.injEq, Prod.mk.injEq] at H
       obtain ⟨rfl, rfl, rfl⟩ := H
       go_wp2_with (first | ((with_reducible refine gaC_ (f := 32) rfl ?_); refine goesL_ (some 43) rfl rfl Try.func32 (by kernel_rfl) rfl #[.int .u64 x6_1] rfl (by (try simp only [List.map_toArray, List.map_cons, List.map_nil]); first | done | rfl | (simp only [List.length_drop, List.length_take]; rfl)) ?_; (with_reducible refine (dragnetref02_Bytes.calls k1 x6_1 t598 _ A9.out).mono ?_); rintro e w11 ⟨v599, rfl, ho0, hb⟩; refine ⟨_, rfl, ?_⟩; have HO600 := Aside0.mk (Kd.R_lower ho0 (pbS_ bw_)); replace HB := Aside0.mk (below_step bw_ hb); (try clear hb); (try clear hb2); (try clear hk); (try clear hi); (try clear ho0); obtain ⟨Ao12, co12, eo12⟩ := Kd.R_slice HO600.out; subst eo12))
       go_ret3
       exact ⟨rf_, bw_⟩
      rw [if_pos c6] at H
      have c6b0 : decide (0 < x7_1) = true := decide_eq_true c6
      clear c6
      by_cases c7 : 0 ≤ x7_1
      rotate_left
      ·rw [if_neg c7] at H
       exact absurd H (by simp)
      rw [if_pos c7] at H
      have c7b0 : decide (0 ≤ x7_1) = true := decide_eq_true c7
      clear c7
      by_cases c8 : x7_1 < (l0.length : Int)
      rotate_left
      ·rw [if_neg c8] at H
       exact absurd H (by simp)
      rw [if_pos c8] at H
      have c8b0 : decide (x7_1 < (l0.length : Int)) = true := decide_eq_true c8
      clear c8
      have H' := Aside0.mk H
      clear H
      have p597 : 0 ≤ (x7_1 : Int) := od_
      have q597 : x7_1 < (l0.length : Int) := od_
      obtain ⟨ad597, e597, hx597_0⟩ := Kd.at_int HR0.out x7_1 p597 q597
      obtain rfl : ad594 = ad597 := (by injection e597)
      replace hx597_0 := (HB.out.cell (World.block_lt_of_cell? w _ hx597_0)).trans hx597_0
      replace p597 := eq_true p597
      replace q597 := eq_true q597
      go_wp2
      go_roundg k1
      case measure => have := HK1.out; omega
      case rel => exact ⟨(IntKind.u64.wrap ((IntKind.u64.wrap (x6_1 * 256)) + (IntKind.u64.wrap (rd l0 x7_1)))), (wrap64 (x7_1 - 1)), (by first | rfl | (simp; done) | (simp [*]; done)), (by first | rfl | (simp; done) | (simp [*]; done)), H', ⟨by have := HK1.out; omega⟩, ⟨bw_⟩⟩
mutual
def dragnetref03_Unpack.j0 : Nat → List Int → Int → Int → Bool → Option (List Int × Int)
 | 0, _, _, _, _ => none
 | k + 1, x0, x1, x2, x26 => if x26 = true then (some (([] : List Int), 1)) else ((dragnetref03_Size.f x1 x2).bind fun t601 => (if (x0.length : Int) < t601 then (some (([] : List Int), 3)) else ((dragnetref03_Size.f x1 x2).bind fun t602 => (if (x0.length : Int) > t602 then (some (([] : List Int), 2)) else (dragnetref03_Unpack.l0 k x0 x1 x2 ([] : List Int) 0)))))
def dragnetref03_Unpack.l0 : Nat → List Int → Int → Int → List Int → Int → Option (List Int × Int)
 | 0, _, _, _, _, _ => none
 | k + 1, x0, x1, x2, x8, x9 => if x9 < x1 then (dragnetref03_Unpack.l1 k x0 x1 x2 x8 x9 0 0) else (dragnetref03_Unpack.l2 k x0 x8 (wrap64 (x1 * x2)))
def dragnetref03_Unpack.l1 : Nat → List Int → Int → Int → List Int → Int → Int → Int → Option (List Int × Int)
 | 0, _, _, _, _, _, _, _ => none
 | k + 1, x0, x1, x2, x8, x9, x10, x11 => if x11 < x2 then (if 0 ≤ (wrap64 (Int.tdiv (wrap64 ((wrap64 (x9 * x2)) + x11)) 8)) then (if (wrap64 (Int.tdiv (wrap64 ((wrap64 (x9 * x2)) + x11)) 8)) < (x0.length : Int) then (if 0 ≤ (Int.tmod (wrap64 ((wrap64 (x9 * x2)) + x11)) 8) then (if (Int.tmod (shr .u8 (rd x0 (wrap64 (Int.tdiv (wrap64 ((wrap64 (x9 * x2)) + x11)) 8))) (Int.tmod (wrap64 ((wrap64 (x9 * x2)) + x11)) 8)) 2) = 1 then (if 0 ≤ x11 then (dragnetref03_Unpack.l1 k x0 x1 x2 x8 x9 (IntKind.u64.wrap (x10 + (shl .u64 1 x11))) (wrap64 (x11 + 1))) else (none)) else (dragnetref03_Unpack.l1 k x0 x1 x2 x8 x9 x10 (wrap64 (x11 + 1)))) else (none)) else (none)) else (none)) else (if x8.length < 17592186044416 then (dragnetref03_Unpack.l0 k x0 x1 x2 (x8 ++ [x10]) (wrap64 (x9 + 1))) else (none))
def dragnetref03_Unpack.l2 : Nat → List Int → List Int → Int → Option (List Int × Int)
 | 0, _, _, _ => none
 | k + 1, x0, x8, x12 => if x12 < (wrap64 (8 * (x0.length : Int))) then (if 0 ≤ (wrap64 (Int.tdiv x12 8)) then (if (wrap64 (Int.tdiv x12 8)) < (x0.length : Int) then (if 0 ≤ (Int.tmod x12 8) then (if (Int.tmod (shr .u8 (rd x0 (wrap64 (Int.tdiv x12 8))) (Int.tmod x12 8)) 2) = 1 then (some (([] : List Int), 2)) else (dragnetref03_Unpack.l2 k x0 x8 (wrap64 (x12 + 1)))) else (none)) else (none)) else (none)) else (some (x8, 0))
end
def dragnetref03_Unpack.f (k : Nat) (l0 : List Int) (a1 : Int) (a2 : Int) : Option (List Int × Int) := if a2 < 0 then (dragnetref03_Unpack.j0 k l0 a1 a2 true) else (if a2 > 64 then (dragnetref03_Unpack.j0 k l0 a1 a2 true) else (if a1 < 0 then (dragnetref03_Unpack.j0 k l0 a1 a2 true) else (dragnetref03_Unpack.j0 k l0 a1 a2 (decide (a1 > 4096)))))
theorem dragnetref03_Unpack.mono_l : ∀ k, (∀ y0 y1 y2 y3, LeO (dragnetref03_Unpack.j0 k y0 y1 y2 y3) (dragnetref03_Unpack.j0 (k + 1) y0 y1 y2 y3)) ∧ (∀ y0 y1 y2 y3 y4, LeO (dragnetref03_Unpack.l0 k y0 y1 y2 y3 y4) (dragnetref03_Unpack.l0 (k + 1) y0 y1 y2 y3 y4)) ∧ (∀ y0 y1 y2 y3 y4 y5 y6, LeO (dragnetref03_Unpack.l1 k y0 y1 y2 y3 y4 y5 y6) (dragnetref03_Unpack.l1 (k + 1) y0 y1 y2 y3 y4 y5 y6)) ∧ (∀ y0 y1 y2, LeO (dragnetref03_Unpack.l2 k y0 y1 y2) (dragnetref03_Unpack.l2 (k + 1) y0 y1 y2))
 | 0 => ⟨fun _ _ _ _ r h => by simp [dragnetref03_Unpack.j0] at h, fun _ _ _ _ _ r h => by simp [dragnetref03_Unpack.l0] at h, fun _ _ _ _ _ _ _ r h => by simp [dragnetref03_Unpack.l1] at h, fun _ _ _ r h => by simp [dragnetref03_Unpack.l2] at h⟩
 | k + 1 => by
  obtain ⟨ih0, ih1, ih2, ih3⟩ := dragnetref03_Unpack.mono_l k
  refine ⟨?_, ?_, ?_, ?_⟩
  ·intro y0 y1 y2 y3
   unfold dragnetref03_Unpack.j0
   repeat' first
   | (with_reducible exact ih0 _ _ _ _)
   | (with_reducible exact ih1 _ _ _ _ _)
   | (with_reducible exact ih2 _ _ _ _ _ _ _)
   | (with_reducible exact ih3 _ _ _)
   | (with_reducible exact LeO.refl _)
   | (with_reducible exact LeO.none _)
   | (with_reducible refine LeO.ite ?_ ?_)
   | (with_reducible refine LeO.bind ?_ (fun _ => ?_))
  ·intro y0 y1 y2 y3 y4
   unfold dragnetref03_Unpack.l0
   repeat' first
   | (with_reducible exact ih0 _ _ _ _)
   | (with_reducible exact ih1 _ _ _ _ _)
   | (with_reducible exact ih2 _ _ _ _ _ _ _)
   | (with_reducible exact ih3 _ _ _)
   | (with_reducible exact LeO.refl _)
   | (with_reducible exact LeO.none _)
   | (with_reducible refine LeO.ite ?_ ?_)
   | (with_reducible refine LeO.bind ?_ (fun _ => ?_))
  ·intro y0 y1 y2 y3 y4 y5 y6
   unfold dragnetref03_Unpack.l1
   repeat' first
   | (with_reducible exact ih0 _ _ _ _)
   | (with_reducible exact ih1 _ _ _ _ _)
   | (with_reducible exact ih2 _ _ _ _ _ _ _)
   | (with_reducible exact ih3 _ _ _)
   | (with_reducible exact LeO.refl _)
   | (with_reducible exact LeO.none _)
   | (with_reducible refine LeO.ite ?_ ?_)
   | (with_reducible refine LeO.bind ?_ (fun _ => ?_))
  ·intro y0 y1 y2
   unfold dragnetref03_Unpack.l2
   repeat' first
   | (with_reducible exact ih0 _ _ _ _)
   | (with_reducible exact ih1 _ _ _ _ _)
   | (with_reducible exact ih2 _ _ _ _ _ _ _)
   | (with_reducible exact ih3 _ _ _)
   | (with_reducible exact LeO.refl _)
   | (with_reducible exact LeO.none _)
   | (with_reducible refine LeO.ite ?_ ?_)
   | (with_reducible refine LeO.bind ?_ (fun _ => ?_))
theorem dragnetref03_Unpack.mono : ∀ a0 a1 a2 k, LeO (dragnetref03_Unpack.f k a0 a1 a2) (dragnetref03_Unpack.f (k + 1) a0 a1 a2) := by
 intro a0 a1 a2 k
 obtain ⟨ih0, ih1, ih2, ih3⟩ := dragnetref03_Unpack.mono_l k
 unfold dragnetref03_Unpack.f
 repeat' first
   | (with_reducible exact ih0 _ _ _ _)
   | (with_reducible exact ih1 _ _ _ _ _)
   | (with_reducible exact ih2 _ _ _ _ _ _ _)
   | (with_reducible exact ih3 _ _ _)
   | (with_reducible exact LeO.refl _)
   | (with_reducible exact LeO.none _)
   | (with_reducible refine LeO.ite ?_ ?_)
   | (with_reducible refine LeO.bind ?_ (fun _ => ?_))
set_option maxHeartbeats 8000000 in
set_option maxRecDepth 100000 in
theorem dragnetref03_Unpack.calls (k : Nat) (A0 : Option Addr) (c0 : Nat) (l0 : List Int) (a1 : Int) (a2 : Int) (r1 : List Int) (r2 : Int) (w : World) (hr0 : Kd.C (Kd.int .u8) w A0 l0.length l0) (hc0 : l0.length ≤ c0) (h : dragnetref03_Unpack.f k l0 a1 a2 = some (r1, r2)) :
  Calls Try.prog 43 #[.slice A0 l0.length c0, .int .i64 a1, .int .i64 a2] w fun e w' => ∃ v0_ : Value, e = .returned (.tuple #[v0_, .int .i64 r2]) ∧ Kd.R (Kd.int .u64) 50 w' w.heap.size (fun _ => True) v0_ r1 ∧ Below w.heap.size w w' := by
 have HR0 := Aside0.mk hr0
 have HC0 := Aside0.mk hc0
 clear hr0 hc0
 have HB := Aside0.mk (Below.refl w.heap.size w)
 have H : (if a2 < 0 then (dragnetref03_Unpack.j0 k l0 a1 a2 true) else (if a2 > 64 then (dragnetref03_Unpack.j0 k l0 a1 a2 true) else (if a1 < 0 then (dragnetref03_Unpack.j0 k l0 a1 a2 true) else (dragnetref03_Unpack.j0 k l0 a1 a2 (decide (a1 > 4096)))))) = some (r1, r2) := h
 clear h
 have HC4 := Aside0.mk H
 clear H
 go_enter Try.func43, Try.ntmps43
 go_upto_region 1 with (fail)
 go_cut [26] (fun v26 wc => ∃ (kq : Nat) (x26_3 : Bool), v26 = .bool x26_3 ∧ Aside0 (dragnetref03_Unpack.j0 kq l0 a1 a2 x26_3 = some (r1, r2)) ∧ Aside0 (kq ≤ k) ∧ Aside0 (Below w.heap.size w wc))
 case first =>
  have H := HC4.out
  clear HC4
  by_cases c5 : a2 < 0
  ·rw [if_pos c5] at H
   have c5b0 : decide (a2 < 0) = true := decide_eq_true c5
   clear c5
   (first | rw [c5b0] | (simp only [i64_w, i32_w]; rw [c5b0]) | skip)
   have H' := Aside0.mk H
   clear H
   go_wp2
   go_meet
   case rel => exact ⟨_, (true), (by first | rfl | (simp; done) | (simp [*]; done)), H', ⟨by first | omega | exact Nat.le_refl _⟩, ⟨bw_⟩⟩
  ·rw [if_neg c5] at H
   have c5b0 : decide (a2 < 0) = false := decide_eq_false c5
   clear c5
   (first | rw [c5b0] | (simp only [i64_w, i32_w]; rw [c5b0]) | skip)
   by_cases c6 : a2 > 64
   ·rw [if_pos c6] at H
    have c6b0 : decide (64 < a2) = true := decide_eq_true c6
    clear c6
    have H' := Aside0.mk H
    clear H
    go_wp2
    go_meet
    case rel => exact ⟨_, (true), (by first | rfl | (simp; done) | (simp [*]; done)), H', ⟨by first | omega | exact Nat.le_refl _⟩, ⟨bw_⟩⟩
   ·rw [if_neg c6] at H
    have c6b0 : decide (64 < a2) = false := decide_eq_false c6
    clear c6
    by_cases c7 : a1 < 0
    rotate_left
    ·rw [if_neg c7] at H
     have c7b0 : decide (a1 < 0) = false := decide_eq_false c7
     clear c7
     have H' := Aside0.mk H
     clear H
     go_wp2
     go_meet
     case rel => exact ⟨_, (decide (a1 > 4096)), (by first | rfl | (simp; done) | (simp [*]; done)), H', ⟨by first | omega | exact Nat.le_refl _⟩, ⟨bw_⟩⟩
    rw [if_pos c7] at H
    have c7b0 : decide (a1 < 0) = true := decide_eq_true c7
    clear c7
    have H' := Aside0.mk H
    clear H
    go_wp2
    go_meet
    case rel => exact ⟨_, (true), (by first | rfl | (simp; done) | (simp [*]; done)), H', ⟨by first | omega | exact Nat.le_refl _⟩, ⟨bw_⟩⟩
 case rest =>
  clear HC4
  try clear p2
  try clear c4
  try clear c5
  try clear c5b0
  try clear c6
  try clear c6b0
  try clear c7
  try clear c7b0
  obtain ⟨kq, x26_3, rfl, HA, HJ3, HB⟩ := hcut
  cases kq with
  | zero => exact absurd HA.out (by simp [dragnetref03_Unpack.j0])
  | succ kj3 =>
   have H := HA.out
   clear HA
   simp only [dragnetref03_Unpack.j0] at H
   by_cases c8 : x26_3 = true
   ·subst c8
    have H1 : (some (([] : List Int), 1)) = some (r1, r2) := by rw [if_pos rfl] at H; exact H
    clear H
    have H := H1
    clear H1
    simp only [Option.some.injEq, Prod.mk.injEq] at H
    obtain ⟨rfl, rfl⟩ := H
    go_wp2
    go_ret2
    exact ⟨_, rf_, ni_, bw_⟩
   ·replace c8 := Bool.eq_false_iff.mpr c8
    subst c8
    have H1 : ((dragnetref03_Size.f a1 a2).bind fun t601 => (if (l0.length : Int) < t601 then (some (([] : List Int), 3)) else ((dragnetref03_Size.f a1 a2).bind fun t602 => (if (l0.length : Int) > t602 then (some (([] : List Int), 2)) else (dragnetref03_Unpack.l0 kj3 l0 a1 a2 ([] : List Int) 0))))) = some (r1, r2) := by rw [if_neg (show ¬ (false = true) by decide)] at H; exact H
    clear H
    have H := H1
    clear H1
    replace H := Option.bind_eq_some_iff.mp H
    obtain ⟨t601, A90, H⟩ := H
    replace H : (if (l0.length : Int) < t601 then (some (([] : List Int), 3)) else ((dragnetref03_Size.f a1 a2).bind fun t602 => (if (l0.length : Int) > t602 then (some (([] : List Int), 2)) else (dragnetref03_Unpack.l0 kj3 l0 a1 a2 ([] : List Int) 0)))) = some (r1, r2) := H
    have A9 := Aside0.mk A90
    clear A90
    by_cases c10 : (l0.length : Int) < t601
    ·rw [if_pos c10] at H
     have c10b0 : decide ((l0.length : Int) < t601) = true := decide_eq_true c10
     clear c10
     simp only [Option.some.injEq, Prod.mk.injEq] at H
     obtain ⟨rfl, rfl⟩ := H
     go_wp2_with (first | ((with_reducible refine gaC_ (f := 42) rfl ?_); refine goesL_ (some 31) rfl rfl Try.func42 (by kernel_rfl) rfl #[.int .i64 a1, .int .i64 a2] rfl (by (try simp only [List.map_toArray, List.map_cons, List.map_nil]); first | done | rfl | (simp only [List.length_drop, List.length_take]; rfl)) ?_; (with_reducible refine (dragnetref03_Size.calls a1 a2 t601 _ A9.out).mono ?_); rintro e w' ⟨rfl, ⟨nd, rfl⟩⟩; refine ⟨_, rfl, ?_⟩))
     go_ret2
     exact ⟨_, rf_, ni_, bw_⟩
    ·rw [if_neg c10] at H
     have c10b0 : decide ((l0.length : Int) < t601) = false := decide_eq_false c10
     clear c10
     replace H := Option.bind_eq_some_iff.mp H
     obtain ⟨t602, A110, H⟩ := H
     replace H : (if (l0.length : Int) > t602 then (some (([] : List Int), 2)) else (dragnetref03_Unpack.l0 kj3 l0 a1 a2 ([] : List Int) 0)) = some (r1, r2) := H
     have A11 := Aside0.mk A110
     clear A110
     by_cases c12 : (l0.length : Int) > t602
     ·rw [if_pos c12] at H
      have c12b0 : decide (t602 < (l0.length : Int)) = true := decide_eq_true c12
      clear c12
      simp only [Option.some.injEq, Prod.mk.injEq] at H
      obtain ⟨rfl, rfl⟩ := H
      go_wp2_with (first | ((with_reducible refine gaC_ (f := 42) rfl ?_); refine goesL_ (some 31) rfl rfl Try.func42 (by kernel_rfl) rfl #[.int .i64 a1, .int .i64 a2] rfl (by (try simp only [List.map_toArray, List.map_cons, List.map_nil]); first | done | rfl | (simp only [List.length_drop, List.length_take]; rfl)) ?_; (with_reducible refine (dragnetref03_Size.calls a1 a2 t601 _ A9.out).mono ?_); rintro e w' ⟨rfl, ⟨nd, rfl⟩⟩; refine ⟨_, rfl, ?_⟩) | ((with_reducible refine gaC_ (f := 42) rfl ?_); refine goesL_ (some 37) rfl rfl Try.func42 (by kernel_rfl) rfl #[.int .i64 a1, .int .i64 a2] rfl (by (try simp only [List.map_toArray, List.map_cons, List.map_nil]); first | done | rfl | (simp only [List.length_drop, List.length_take]; rfl)) ?_; (with_reducible refine (dragnetref03_Size.calls a1 a2 t602 _ A11.out).mono ?_); rintro e w' ⟨rfl, ⟨nd, rfl⟩⟩; refine ⟨_, rfl, ?_⟩))
      go_ret2
      exact ⟨_, rf_, ni_, bw_⟩
     ·rw [if_neg c12] at H
      have c12b0 : decide (t602 < (l0.length : Int)) = false := decide_eq_false c12
      clear c12
      have H' := Aside0.mk H
      clear H
      go_wp2_with (first | ((with_reducible refine gaC_ (f := 42) rfl ?_); refine goesL_ (some 31) rfl rfl Try.func42 (by kernel_rfl) rfl #[.int .i64 a1, .int .i64 a2] rfl (by (try simp only [List.map_toArray, List.map_cons, List.map_nil]); first | done | rfl | (simp only [List.length_drop, List.length_take]; rfl)) ?_; (with_reducible refine (dragnetref03_Size.calls a1 a2 t601 _ A9.out).mono ?_); rintro e w' ⟨rfl, ⟨nd, rfl⟩⟩; refine ⟨_, rfl, ?_⟩) | ((with_reducible refine gaC_ (f := 42) rfl ?_); refine goesL_ (some 37) rfl rfl Try.func42 (by kernel_rfl) rfl #[.int .i64 a1, .int .i64 a2] rfl (by (try simp only [List.map_toArray, List.map_cons, List.map_nil]); first | done | rfl | (simp only [List.length_drop, List.length_take]; rfl)) ?_; (with_reducible refine (dragnetref03_Size.calls a1 a2 t602 _ A11.out).mono ?_); rintro e w' ⟨rfl, ⟨nd, rfl⟩⟩; refine ⟨_, rfl, ?_⟩))
      go_loopg [8, 9] kj3 (fun kq v8 v9 w' => ∃ (x8_2 : List Int) (x9_2 : Int), v9 = .int .i64 x9_2 ∧ Aside0 (dragnetref03_Unpack.l0 kq l0 a1 a2 x8_2 x9_2 = some (r1, r2)) ∧ Aside0 (kq ≤ kj3) ∧ Aside0 (Kd.R (Kd.int .u64) 50 w' w.heap.size (fun _ => True) v8 x8_2) ∧ Aside0 (Below w.heap.size w w'))
      case atStart => exact ⟨(([] : List Int)), (0), (by first | rfl | (simp; done) | (simp [*]; done)), H', ⟨Nat.le_refl _⟩, ⟨ni_⟩, ⟨bw_⟩⟩
      case round =>
       clear H'
       try clear c1
       try clear p2
       try clear c4
       try clear c5
       try clear c5b0
       try clear c6
       try clear c6b0
       try clear c7
       try clear c7b0
       try clear c8
       try clear c10
       try clear c10b0
       try clear c12
       try clear c12b0
       try clear p2
       obtain ⟨x8_2, x9_2, rfl, HA, HK2, HO_8, HB⟩ := hrel
       cases gk with
       | zero => exact absurd HA.out (by simp [dragnetref03_Unpack.l0])
       | succ k2 =>
        have H := HA.out
        clear HA
        simp only [dragnetref03_Unpack.l0] at H
        by_cases c13 : x9_2 < a1
        rotate_left
        ·rw [if_neg c13] at H
         have c13b0 : decide (x9_2 < a1) = false := decide_eq_false c13
         clear c13
         have H' := Aside0.mk H
         clear H
         go_wp2
         go_loopg [12] k2 (fun kq v12 w' => ∃ (x12_3 : Int), v12 = .int .i64 x12_3 ∧ Aside0 (dragnetref03_Unpack.l2 kq l0 x8_2 x12_3 = some (r1, r2)) ∧ Aside0 (kq ≤ k2) ∧ Aside0 (Kd.R (Kd.int .u64) 50 w' w.heap.size (fun _ => True) u8 x8_2) ∧ Aside0 (Below w.heap.size w w'))
         case atStart => exact ⟨(wrap64 (a1 * a2)), (by first | rfl | (simp; done) | (simp [*]; done)), H', ⟨Nat.le_refl _⟩, ⟨Kd.ru_ HO_8.out⟩, ⟨bw_⟩⟩
         case round =>
          clear H'
          try clear c1
          try clear c2
          try clear p2
          try clear c4
          try clear c5
          try clear c5b0
          try clear c6
          try clear c6b0
          try clear p6
          try clear q6
          try clear hx6
          try clear c7
          try clear c7b0
          try clear c8
          try clear c10
          try clear c10b0
          try clear c12
          try clear c12b0
          try clear c13
          try clear c13b0
          try clear c14
          try clear c14b0
          try clear c16
          try clear c16b0
          try clear c17
          try clear c17b0
          try clear c19
          try clear c19b0
          try clear c19b1
          try clear c21
          try clear c21b0
          try clear c21b1
          try clear c22
          try clear c22b0
          try clear c22b1
          try clear c24
          try clear hx603_0
          try clear p2
          try clear p603
          try clear q603
          obtain ⟨x12_3, rfl, HA, HK3, HO_8, HB⟩ := hrel
          cases gk with
          | zero => exact absurd HA.out (by simp [dragnetref03_Unpack.l2])
          | succ k3 =>
           have H := HA.out
           clear HA
           simp only [dragnetref03_Unpack.l2] at H
           by_cases c26 : x12_3 < (wrap64 (8 * (l0.length : Int)))
           rotate_left
           ·rw [if_neg c26] at H
            have c26b0 : decide (x12_3 < (wrap64 (8 * (l0.length : Int)))) = false := decide_eq_false c26
            clear c26
            simp only [Option.some.injEq, Prod.mk.injEq] at H
            obtain ⟨rfl, rfl⟩ := H
            go_wp2
            go_ret2
            exact ⟨_, rf_, by (with_reducible repeat (first | apply Kd.rA_ | apply Kd.rN_ | apply Kd.rD_)); exact HO_8.out, bw_⟩
           rw [if_pos c26] at H
           have c26b0 : decide (x12_3 < (wrap64 (8 * (l0.length : Int)))) = true := decide_eq_true c26
           clear c26
           obtain ⟨ji27, hji27⟩ : ∃ j_ : Int, (wrap64 (Int.tdiv x12_3 8)) = j_ := ⟨_, rfl⟩
           replace H : (if 0 ≤ (ji27) then (if (ji27) < (l0.length : Int) then (if 0 ≤ (Int.tmod x12_3 8) then (if (Int.tmod (shr .u8 (rd l0 (ji27)) (Int.tmod x12_3 8)) 2) = 1 then (some (([] : List Int), 2)) else (dragnetref03_Unpack.l2 k3 l0 x8_2 (wrap64 (x12_3 + 1)))) else (none)) else (none)) else (none)) = some (r1, r2) := by first | (rw [hji27] at H; exact H) | (simp only [hji27] at H ⊢; exact H)
           have hji27w : (IntKind.i64.wrap (Int.tdiv x12_3 8)) = ji27 := (i64_w _).trans hji27
           by_cases c28 : 0 ≤ (ji27)
           rotate_left
           ·rw [if_neg c28] at H
            exact absurd H (by simp)
           rw [if_pos c28] at H
           have c28b0 : decide (0 ≤ (ji27)) = true := decide_eq_true c28
           clear c28
           by_cases c29 : (ji27) < (l0.length : Int)
           rotate_left
           ·rw [if_neg c29] at H
            exact absurd H (by simp)
           rw [if_pos c29] at H
           have c29b0 : decide ((ji27) < (l0.length : Int)) = true := decide_eq_true c29
           clear c29
           obtain ⟨ji30, hji30⟩ : ∃ j_ : Int, (Int.tmod x12_3 8) = j_ := ⟨_, rfl⟩
           replace H : (if 0 ≤ (ji30) then (if (Int.tmod (shr .u8 (rd l0 (ji27)) (ji30)) 2) = 1 then (some (([] : List Int), 2)) else (dragnetref03_Unpack.l2 k3 l0 x8_2 (wrap64 (x12_3 + 1)))) else (none)) = some (r1, r2) := by first | (rw [hji30] at H; exact H) | (simp only [hji30] at H ⊢; exact H)
           by_cases c31 : 0 ≤ (ji30)
           rotate_left
           ·rw [if_neg c31] at H
            exact absurd H (by simp)
           rw [if_pos c31] at H
           have c31b0 := eq_true c31
           have c31b1 : decide (0 ≤ (ji30)) = true := decide_eq_true c31
           clear c31
           obtain ⟨ji32, hji32⟩ : ∃ j_ : Int, (shr .u8 (rd l0 (ji27)) (ji30)) = j_ := ⟨_, rfl⟩
           replace H : (if (Int.tmod (ji32) 2) = 1 then (some (([] : List Int), 2)) else (dragnetref03_Unpack.l2 k3 l0 x8_2 (wrap64 (x12_3 + 1)))) = some (r1, r2) := by first | (rw [hji32] at H; exact H) | (simp only [hji32] at H ⊢; exact H)
           have hji32_ : ((rd l0 (ji27)) / 2 ^ min (ji30).toNat 8) = ji32 := hji32
           have hji32z : (ji30) ≤ 8 → ((rd l0 (ji27)) / 2 ^ (ji30).toNat) = ji32 := shr_small hji32
           by_cases c33 : (Int.tmod (ji32) 2) = 1
           ·rw [if_pos c33] at H
            have c33b0 : ((Int.tmod (ji32) 2) == 1) = true := beq_iff_eq.mpr c33
            have c33b1 : ((Int.tmod (ji32) 2) != 1) = false := bne_eq_false_iff_eq.mpr c33
            clear c33
            simp only [Option.some.injEq, Prod.mk.injEq] at H
            obtain ⟨rfl, rfl⟩ := H
            have p607 : 0 ≤ ((ji27) : Int) := od_
            have q607 : (ji27) < (l0.length : Int) := od_
            obtain ⟨ad607, e607, hx607_0⟩ := Kd.at_int HR0.out (ji27) p607 q607
            cases e607
            replace hx607_0 := (HB.out.cell (World.block_lt_of_cell? w _ hx607_0)).trans hx607_0
            replace p607 := eq_true p607
            replace q607 := eq_true q607
            go_wp2
            go_ret2
            exact ⟨_, by first | rfl | (simp [eWn_, eWs_] <;> rfl) | (simp only [← hji27, ← hji30, ← hji32]; first | rfl | (simp [eWn_, eWs_] <;> rfl)) | (simp [*, eWn_, eWs_] <;> rfl), ni_, bw_⟩
           ·rw [if_neg c33] at H
            have c33b0 : ((Int.tmod (ji32) 2) == 1) = false := beq_eq_false_iff_ne.mpr c33
            have c33b1 : ((Int.tmod (ji32) 2) != 1) = true := bne_iff_ne.mpr c33
            have H' := Aside0.mk H
            clear H
            have p607 : 0 ≤ ((ji27) : Int) := od_
            have q607 : (ji27) < (l0.length : Int) := od_
            obtain ⟨ad607, e607, hx607_0⟩ := Kd.at_int HR0.out (ji27) p607 q607
            cases e607
            replace hx607_0 := (HB.out.cell (World.block_lt_of_cell? w _ hx607_0)).trans hx607_0
            replace p607 := eq_true p607
            replace q607 := eq_true q607
            go_wp2
            (try subst hji32 hji30 hji27)
            go_roundg k3
            case measure => have := HJ3.out; have := HK2.out; have := HK3.out; omega
            case rel => exact ⟨(wrap64 (x12_3 + 1)), (by first | rfl | (simp; done) | (simp [*]; done)), H', ⟨by have := HJ3.out; have := HK2.out; have := HK3.out; omega⟩, ⟨Kd.ru_ HO_8.out⟩, ⟨bw_⟩⟩
        rw [if_pos c13] at H
        have c13b0 : decide (x9_2 < a1) = true := decide_eq_true c13
        clear c13
        have H' := Aside0.mk H
        clear H
        go_wp2
        go_loopg [10, 11] k2 (fun kq v10 v11 w' => ∃ (x10_3 : Int) (x11_3 : Int), v10 = .int .u64 x10_3 ∧ v11 = .int .i64 x11_3 ∧ Aside0 (dragnetref03_Unpack.l1 kq l0 a1 a2 x8_2 x9_2 x10_3 x11_3 = some (r1, r2)) ∧ Aside0 (kq ≤ k2) ∧ Aside0 (Kd.R (Kd.int .u64) 50 w' w.heap.size (fun _ => True) u8 x8_2) ∧ Aside0 (Below w.heap.size w w'))
        case atStart => exact ⟨(0), (0), (by first | rfl | (simp; done) | (simp [*]; done)), (by first | rfl | (simp; done) | (simp [*]; done)), H', ⟨Nat.le_refl _⟩, ⟨Kd.ru_ HO_8.out⟩, ⟨bw_⟩⟩
        case round =>
         clear H'
         try clear c1
         try clear p2
         try clear c4
         try clear c5
         try clear c5b0
         try clear c6
         try clear c6b0
         try clear c7
         try clear c7b0
         try clear c8
         try clear c10
         try clear c10b0
         try clear c12
         try clear c12b0
         try clear c13
         try clear c13b0
         try clear p2
         obtain ⟨x10_3, x11_3, rfl, rfl, HA, HK3, HO_8, HB⟩ := hrel
         cases gk with
         | zero => exact absurd HA.out (by simp [dragnetref03_Unpack.l1])
         | succ k3 =>
          have H := HA.out
          clear HA
          simp only [dragnetref03_Unpack.l1] at H
          by_cases c14 : x11_3 < a2
          rotate_left
          ·rw [if_neg c14] at H
           have c14b0 : decide (x11_3 < a2) = false := decide_eq_false c14
           clear c14
           by_cases c24 : x8_2.length < 17592186044416
           rotate_left
           ·rw [if_neg c24] at H
            exact absurd H (by simp)
           rw [if_pos c24] at H
           have LMc24 := Aside0.mk c24
           clear c24
           obtain ⟨y604, hy604⟩ : ∃ y_ : List Int, y_ = (x8_2 ++ [x10_3]) := ⟨_, rfl⟩
           replace H : (dragnetref03_Unpack.l0 k3 l0 a1 a2 y604 (wrap64 (x9_2 + 1))) = some (r1, r2) := by first | (rw [hy604]; with_reducible exact H) | (have H2_ := (Option.bind_some _ _).symm.trans H; rw [hy604]; with_reducible exact H2_) | (have H2_ := (Option.bind_some _ _).symm.trans H; with_reducible exact H2_) | with_reducible exact H | (rw [hy604]; exact H) | exact H
           have Ny604 := Aside0.mk hy604
           clear hy604
           have H' := Aside0.mk H
           clear H
           go_wp2_with (first | ((with_reducible refine gate_builtin (b := .append) (xs := #[.tmp 71, .tmp 73]) rfl ?_); at_builtin; refine Kd.R_append (Kd.int .u64) (w0 := w) w.heap.size rfl (.tmp 71) (.tmp 73) 49 50 (.int .u64 0) 8 rfl Try.underlying49 info50 rfl (by decide) (by omega) u8 x8_2 x10_3 [.int .u64 x10_3] (fun _ => True) (fun _ => False) rfl rfl ?aP (fun _ hk => hk.elim) ?aF ?aO ?aB ?aS ?aL ?_; (case aP => exact rfl); (case aB => exact bw_); (case aF => exact (fun _ _ => trivial)); (case aO => exact (Kd.ru_ HO_8.out)); (case aS => exact (pbS_ bw_)); (case aL => have := LMc24.out; omega); intro v605 w25 ho hb hg hat; rw [← Ny604.out] at ho; have n0_ := Aside0.mk (hb); have n1_ := Aside0.mk (ho); clear HB; clear HO_8; have HB := n0_; have HO606 := n1_; clear n0_ n1_; clear ho hb hg hat))
           go_roundg k3
           case measure => have := HJ3.out; have := HK2.out; have := HK3.out; omega
           case rel => exact ⟨(y604), (wrap64 (x9_2 + 1)), (by first | rfl | (simp; done) | (simp [*]; done)), H', ⟨by have := HJ3.out; have := HK2.out; have := HK3.out; omega⟩, ⟨Kd.ru_ HO606.out⟩, ⟨bw_⟩⟩
          rw [if_pos c14] at H
          have c14b0 : decide (x11_3 < a2) = true := decide_eq_true c14
          clear c14
          obtain ⟨ji15, hji15⟩ : ∃ j_ : Int, (wrap64 (Int.tdiv (wrap64 ((wrap64 (x9_2 * a2)) + x11_3)) 8)) = j_ := ⟨_, rfl⟩
          replace H : (if 0 ≤ (ji15) then (if (ji15) < (l0.length : Int) then (if 0 ≤ (Int.tmod (wrap64 ((wrap64 (x9_2 * a2)) + x11_3)) 8) then (if (Int.tmod (shr .u8 (rd l0 (ji15)) (Int.tmod (wrap64 ((wrap64 (x9_2 * a2)) + x11_3)) 8)) 2) = 1 then (if 0 ≤ x11_3 then (dragnetref03_Unpack.l1 k3 l0 a1 a2 x8_2 x9_2 (IntKind.u64.wrap (x10_3 + (shl .u64 1 x11_3))) (wrap64 (x11_3 + 1))) else (none)) else (dragnetref03_Unpack.l1 k3 l0 a1 a2 x8_2 x9_2 x10_3 (wrap64 (x11_3 + 1)))) else (none)) else (none)) else (none)) = some (r1, r2) := by first | (rw [hji15] at H; exact H) | (simp only [hji15] at H ⊢; exact H)
          have hji15w : (IntKind.i64.wrap (Int.tdiv (wrap64 ((wrap64 (x9_2 * a2)) + x11_3)) 8)) = ji15 := (i64_w _).trans hji15
          by_cases c16 : 0 ≤ (ji15)
          rotate_left
          ·rw [if_neg c16] at H
           exact absurd H (by simp)
          rw [if_pos c16] at H
          have c16b0 : decide (0 ≤ (ji15)) = true := decide_eq_true c16
          clear c16
          by_cases c17 : (ji15) < (l0.length : Int)
          rotate_left
          ·rw [if_neg c17] at H
           exact absurd H (by simp)
          rw [if_pos c17] at H
          have c17b0 : decide ((ji15) < (l0.length : Int)) = true := decide_eq_true c17
          clear c17
          obtain ⟨ji18, hji18⟩ : ∃ j_ : Int, (Int.tmod (wrap64 ((wrap64 (x9_2 * a2)) + x11_3)) 8) = j_ := ⟨_, rfl⟩
          replace H : (if 0 ≤ (ji18) then (if (Int.tmod (shr .u8 (rd l0 (ji15)) (ji18)) 2) = 1 then (if 0 ≤ x11_3 then (dragnetref03_Unpack.l1 k3 l0 a1 a2 x8_2 x9_2 (IntKind.u64.wrap (x10_3 + (shl .u64 1 x11_3))) (wrap64 (x11_3 + 1))) else (none)) else (dragnetref03_Unpack.l1 k3 l0 a1 a2 x8_2 x9_2 x10_3 (wrap64 (x11_3 + 1)))) else (none)) = some (r1, r2) := by first | (rw [hji18] at H; exact H) | (simp only [hji18] at H ⊢; exact H)
          by_cases c19 : 0 ≤ (ji18)
          rotate_left
          ·rw [if_neg c19] at H
           exact absurd H (by simp)
          rw [if_pos c19] at H
          have c19b0 := eq_true c19
          have c19b1 : decide (0 ≤ (ji18)) = true := decide_eq_true c19
          clear c19
          obtain ⟨ji20, hji20⟩ : ∃ j_ : Int, (shr .u8 (rd l0 (ji15)) (ji18)) = j_ := ⟨_, rfl⟩
          replace H : (if (Int.tmod (ji20) 2) = 1 then (if 0 ≤ x11_3 then (dragnetref03_Unpack.l1 k3 l0 a1 a2 x8_2 x9_2 (IntKind.u64.wrap (x10_3 + (shl .u64 1 x11_3))) (wrap64 (x11_3 + 1))) else (none)) else (dragnetref03_Unpack.l1 k3 l0 a1 a2 x8_2 x9_2 x10_3 (wrap64 (x11_3 + 1)))) = some (r1, r2) := by first | (rw [hji20] at H; exact H) | (simp only [hji20] at H ⊢; exact H)
          have hji20_ : ((rd l0 (ji15)) / 2 ^ min (ji18).toNat 8) = ji20 := hji20
          have hji20z : (ji18) ≤ 8 → ((rd l0 (ji15)) / 2 ^ (ji18).toNat) = ji20 := shr_small hji20
          by_cases c21 : (Int.tmod (ji20) 2) = 1
          rotate_left
          ·rw [if_neg c21] at H
           have c21b0 : ((Int.tmod (ji20) 2) == 1) = false := beq_eq_false_iff_ne.mpr c21
           have c21b1 : ((Int.tmod (ji20) 2) != 1) = true := bne_iff_ne.mpr c21
           have H' := Aside0.mk H
           clear H
           have p603 : 0 ≤ ((ji15) : Int) := od_
           have q603 : (ji15) < (l0.length : Int) := od_
           obtain ⟨ad603, e603, hx603_0⟩ := Kd.at_int HR0.out (ji15) p603 q603
           cases e603
           replace hx603_0 := (HB.out.cell (World.block_lt_of_cell? w _ hx603_0)).trans hx603_0
           replace p603 := eq_true p603
           replace q603 := eq_true q603
           go_wp2
           (try subst hji20 hji18 hji15)
           go_roundg k3
           case measure => have := HJ3.out; have := HK2.out; have := HK3.out; omega
           case rel => exact ⟨(x10_3), (wrap64 (x11_3 + 1)), (by first | rfl | (simp; done) | (simp [*]; done)), (by first | rfl | (simp; done) | (simp [*]; done)), H', ⟨by have := HJ3.out; have := HK2.out; have := HK3.out; omega⟩, ⟨Kd.ru_ HO_8.out⟩, ⟨bw_⟩⟩
          rw [if_pos c21] at H
          have c21b0 : ((Int.tmod (ji20) 2) == 1) = true := beq_iff_eq.mpr c21
          have c21b1 : ((Int.tmod (ji20) 2) != 1) = false := bne_eq_false_iff_eq.mpr c21
          clear c21
          by_cases c22 : 0 ≤ x11_3
          rotate_left
          ·rw [if_neg c22] at H
           exact absurd H (by simp)
          rw [if_pos c22] at H
          have c22b0 := eq_true c22
          have c22b1 : decide (0 ≤ x11_3) = true := decide_eq_true c22
          clear c22
          obtain ⟨ji23, hji23⟩ : ∃ j_ : Int, (shl .u64 1 x11_3) = j_ := ⟨_, rfl⟩
          replace H : (dragnetref03_Unpack.l1 k3 l0 a1 a2 x8_2 x9_2 (IntKind.u64.wrap (x10_3 + (ji23))) (wrap64 (x11_3 + 1))) = some (r1, r2) := by first | (rw [hji23] at H; exact H) | (simp only [hji23] at H ⊢; exact H)
          have hji23_ : (IntKind.u64.wrap (1 * 2 ^ min x11_3.toNat 64)) = ji23 := hji23
          have hji23z : x11_3 ≤ 64 → (IntKind.u64.wrap (1 * 2 ^ x11_3.toNat)) = ji23 := shl_small hji23
          have hji23u : (IntKind.u64.wrap (2 ^ min x11_3.toNat 64)) = ji23 := by have h_ := hji23_; rw [Int.one_mul] at h_; exact h_
          have hji23v : x11_3 ≤ 64 → (IntKind.u64.wrap (2 ^ x11_3.toNat)) = ji23 := fun hle_ => by have h_ := hji23z hle_; rw [Int.one_mul] at h_; exact h_
          have H' := Aside0.mk H
          clear H
          have p603 : 0 ≤ ((ji15) : Int) := od_
          have q603 : (ji15) < (l0.length : Int) := od_
          obtain ⟨ad603, e603, hx603_0⟩ := Kd.at_int HR0.out (ji15) p603 q603
          cases e603
          replace hx603_0 := (HB.out.cell (World.block_lt_of_cell? w _ hx603_0)).trans hx603_0
          replace p603 := eq_true p603
          replace q603 := eq_true q603
          go_wp2
          (try subst hji23 hji20 hji18 hji15)
          go_roundg k3
          case measure => have := HJ3.out; have := HK2.out; have := HK3.out; omega
          case rel => exact ⟨(IntKind.u64.wrap (x10_3 + ((shl .u64 1 x11_3)))), (wrap64 (x11_3 + 1)), (by first | rfl | (simp; done) | (simp only [← hji23] <;> (first | rfl | simp)) | (simp [*]; done)), (by first | rfl | (simp; done) | (simp [*]; done)), H', ⟨by have := HJ3.out; have := HK2.out; have := HK3.out; omega⟩, ⟨Kd.ru_ HO_8.out⟩, ⟨bw_⟩⟩
def IsS97 (w0 W : World) (g : Nat) (f0 : List Int) (f1 : Int) (f2 : Bool) : Prop := ∃ A0 c0, W.heap[g]? = some (.cells #[.slice A0 f0.length c0, .int .i64 f1, .bool f2] 97 (0, 0)) ∧ w0.heap.size ≤ g ∧ (Kd.C (Kd.int .u8) w0 A0 f0.length f0 ∧ f0.length ≤ c0)
theorem IsS97.grown {w0 W : World} {g : Nat} {f0 : List Int} {f1 : Int} {f2 : Bool} {W1 : World} {row : Option Nat} (h : IsS97 w0 W g f0 f1 f2) (hw : W.grownBy W1 row) (hne : some g ≠ row) : IsS97 w0 W1 g f0 f1 f2 := by
 obtain ⟨A0, c0, hb, hg, hr0⟩ := h
 exact ⟨A0, c0, blk_grown hb hw hne, hg, hr0⟩
theorem IsS97.kept {w0 W : World} {g : Nat} {f0 : List Int} {f1 : Int} {f2 : Bool} {W1 : World} {S : Nat → Prop} (h : IsS97 w0 W g f0 f1 f2) (hk : Kept W W1 S) (hne : ¬ S g) : IsS97 w0 W1 g f0 f1 f2 := by
 obtain ⟨A0, c0, hb, hg, hr0⟩ := h
 exact ⟨A0, c0, blk_kept hb hk hne, hg, hr0⟩
theorem IsS97.below {w0 W : World} {g : Nat} {f0 : List Int} {f1 : Int} {f2 : Bool} {W1 : World} (h : IsS97 w0 W g f0 f1 f2) (hw : Below W.heap.size W W1) : IsS97 w0 W1 g f0 f1 f2 := h.grown (grown_of_below hw none) (by simp)
theorem IsS97.alloc {w0 W : World} {g : Nat} {f0 : List Int} {f1 : Int} {f2 : Bool} (h : IsS97 w0 W g f0 f1 f2) (o : Obj) : IsS97 w0 (W.alloc o) g f0 f1 f2 := h.below (pbA_ (Below.refl _ _) o)
theorem IsS97.drewN {w0 W : World} {g : Nat} {f0 : List Int} {f1 : Int} {f2 : Bool} (h : IsS97 w0 W g f0 f1 f2) (m : Nat) : IsS97 w0 (W.drewN m) g f0 f1 f2 := h
theorem IsS97.drew {w0 W : World} {g : Nat} {f0 : List Int} {f1 : Int} {f2 : Bool} (h : IsS97 w0 W g f0 f1 f2) : IsS97 w0 W.drew g f0 f1 f2 := h
theorem IsS97.at_ {w0 W : World} {g : Nat} {f0 : List Int} {f1 : Int} {f2 : Bool} {w' : World} {m : Nat} (hq : W.drewN m = w') (h : IsS97 w0 W g f0 f1 f2) : IsS97 w0 w' g f0 f1 f2 := by subst hq; exact IsS97.drewN h m
theorem IsS97.apart {w0 W : World} {g : Nat} {f0 : List Int} {f1 : Int} {f2 : Bool} {α : Type} {d : Kd α} {e : Nat} {base : Nat} {ok : Nat → Prop} {v : Value} {xs : List α} (h : IsS97 w0 W g f0 f1 f2) (ho : d.R e W base ok v xs) (ht : ∀ q, q ∈ e :: d.E → q ≠ 97) : d.R e W base (fun k => ok k ∧ k ≠ g) v xs := by
 obtain ⟨A0, c0, hb, hg, hr0⟩ := h
 exact Kd.R_types ho hb ht
theorem IsS97.own_ne {w0 W : World} {g : Nat} {f0 : List Int} {f1 : Int} {f2 : Bool} {α : Type} {d : Kd α} {e : Nat} {base : Nat} {ok : Nat → Prop} {v : Value} {xs : List α} (h : IsS97 w0 W g f0 f1 f2) (ho : d.R e W base ok v xs) (ht : e ≠ 97) : some g ≠ v.ownBlock := by
 obtain ⟨A0, c0, hb, hg, hr0⟩ := h
 exact Kd.R_ne ho hb ht
theorem IsS97.lt {w0 W : World} {g : Nat} {f0 : List Int} {f1 : Int} {f2 : Bool} (h : IsS97 w0 W g f0 f1 f2) : g < W.heap.size := by
 obtain ⟨A0, c0, hb, hg, hr0⟩ := h
 exact blk_lt hb
theorem IsS97.ge {w0 W : World} {g : Nat} {f0 : List Int} {f1 : Int} {f2 : Bool} (h : IsS97 w0 W g f0 f1 f2) : w0.heap.size ≤ g := by
 obtain ⟨A0, c0, hb, hg, hr0⟩ := h
 exact hg
theorem IsS97.far {w0 W : World} {g : Nat} {f0 : List Int} {f1 : Int} {f2 : Bool} {p : Addr} (h : IsS97 w0 W g f0 f1 f2) (hne : g ≠ p.block) (u : Value) : IsS97 w0 (W.setCell p u) g f0 f1 f2 := by
 obtain ⟨A0, c0, hb, hg, hr0⟩ := h
 exact ⟨A0, c0, blk_far hb hne u, hg, hr0⟩
theorem cellS97_0 {W : World} {g : Nat} {A0 : Option Addr} {c0 : Nat} {f0 : List Int} {f1 : Int} {f2 : Bool} (h : W.heap[g]? = some (.cells #[.slice A0 f0.length c0, .int .i64 f1, .bool f2] 97 (0, 0))) : W.cell? ⟨g, 0, none⟩ = some (.slice A0 f0.length c0) := (blk_cell h 0).trans rfl
theorem cellS97_1 {W : World} {g : Nat} {A0 : Option Addr} {c0 : Nat} {f0 : List Int} {f1 : Int} {f2 : Bool} (h : W.heap[g]? = some (.cells #[.slice A0 f0.length c0, .int .i64 f1, .bool f2] 97 (0, 0))) : W.cell? ⟨g, 1, none⟩ = some (.int .i64 f1) := (blk_cell h 1).trans rfl
theorem IsS97.set_1 {w0 W : World} {g : Nat} {f0 : List Int} {f1 : Int} {f2 : Bool} (h : IsS97 w0 W g f0 f1 f2) (x : Int) : IsS97 w0 (W.setCell ⟨g, 1, none⟩ (.int .i64 x)) g f0 x f2 := by
 obtain ⟨A0, c0, hb, hg, hr0⟩ := h
 exact ⟨A0, c0, by simpa using blk_set hb 1 (.int .i64 x), hg, hr0⟩
theorem cellS97_2 {W : World} {g : Nat} {A0 : Option Addr} {c0 : Nat} {f0 : List Int} {f1 : Int} {f2 : Bool} (h : W.heap[g]? = some (.cells #[.slice A0 f0.length c0, .int .i64 f1, .bool f2] 97 (0, 0))) : W.cell? ⟨g, 2, none⟩ = some (.bool f2) := (blk_cell h 2).trans rfl
theorem IsS97.set_2 {w0 W : World} {g : Nat} {f0 : List Int} {f1 : Int} {f2 : Bool} (h : IsS97 w0 W g f0 f1 f2) (x : Bool) : IsS97 w0 (W.setCell ⟨g, 2, none⟩ (.bool x)) g f0 f1 x := by
 obtain ⟨A0, c0, hb, hg, hr0⟩ := h
 exact ⟨A0, c0, by simpa using blk_set hb 2 (.bool x), hg, hr0⟩
theorem IsS97.new (w0 W : World) (A0 : Option Addr) (c0 : Nat) (f0 : List Int) (f1 : Int) (f2 : Bool) (hB : Below w0.heap.size w0 W) (hr0 : Kd.C (Kd.int .u8) w0 A0 f0.length f0 ∧ f0.length ≤ c0) : IsS97 w0 (W.alloc (.cells #[.slice A0 f0.length c0, .int .i64 f1, .bool f2] 97)) W.heap.size f0 f1 f2 := ⟨A0, c0, by simpa using heap_alloc_new W _, hB.size, hr0⟩
noncomputable def dragnetref02_Reader_Number.f (k : Nat) (s0_0 : List Int) (s0_1 : Int) (s0_2 : Bool) (a1 : Int) : Option (Int × Int × Bool) := if s0_2 = true then (some (0, s0_1, s0_2)) else (if 0 ≤ s0_1 then (if s0_1 ≤ (s0_0.length : Int) then ((dragnetref02_Take.f k (s0_0.drop (s0_1 : Int).toNat)).bind fun bt609 => (if bt609.2.2 = 0 then (if bt609.1 > a1 then (some (0, wrap64 (s0_1 + bt609.2.1), decide (bt609.1 > a1))) else (some (bt609.1, wrap64 (s0_1 + bt609.2.1), decide (bt609.1 > a1)))) else (some (0, wrap64 (s0_1 + bt609.2.1), true)))) else (none)) else (none))
theorem dragnetref02_Reader_Number.mono : ∀ a0 a1 a2 a3 k, LeO (dragnetref02_Reader_Number.f k a0 a1 a2 a3) (dragnetref02_Reader_Number.f (k + 1) a0 a1 a2 a3) := by
 intro a0 a1 a2 a3 k
 unfold dragnetref02_Reader_Number.f
 repeat' first
   | (with_reducible exact dragnetref02_Take.mono _ _)
   | (with_reducible exact LeO.refl _)
   | (with_reducible exact LeO.none _)
   | (with_reducible refine LeO.ite ?_ ?_)
   | (with_reducible refine LeO.bind ?_ (fun _ => ?_))
def dragnetref02_Reader_Number.T3 : Bool × List (List Nat × List Nat) := (true, [([], []), ([0], [0]), ([1], [1]), ([2], [2]), ([], []), ([4], [4]), ([5], [5]), ([6], [6]), ([3, 7], [3, 7]), ([8], [8]), ([9], [9]), ([10], [10]), ([10], [10]), ([10], [10]), ([11, 9, 0, 1, 2, 3, 4, 5, 6, 7, 8, 9, 10, 11], [11]), ([12, 14, 0, 1, 2, 3, 4, 5, 6, 7, 8, 9, 10, 11, 12, 14], [12]), ([13, 15, 0, 1, 2, 3, 4, 5, 6, 7, 8, 9, 10, 11, 12, 13, 14, 15], [13])])
def dragnetref02_Reader_Number.B3 : List Nat := [0, 1, 3, 7, 0, 16, 48, 112, 255, 511, 1023, 2047, 2047, 2047, 4095, 24575, 65535]
theorem dragnetref02_Reader_Number.tab3 : rtab .any (opsOf Try.f77 3) = dragnetref02_Reader_Number.T3 := by kernel_rfl
theorem dragnetref02_Reader_Number.bits3 : waitsOk dragnetref02_Reader_Number.T3.2 dragnetref02_Reader_Number.B3 = true := by kernel_rfl
set_option maxHeartbeats 8000000 in
set_option maxRecDepth 100000 in
theorem dragnetref02_Reader_Number.calls (k : Nat) (g : Nat) (s0_0 : List Int) (s0_1 : Int) (s0_2 : Bool) (a1 : Int) (r1 : Int) (r2 : Int) (r3 : Bool) (w0 w : World) (hI : IsS97 w0 w g s0_0 s0_1 s0_2) (hB : Below w0.heap.size w0 w) (h : dragnetref02_Reader_Number.f k s0_0 s0_1 s0_2 a1 = some (r1, r2, r3)) :
  Calls Try.prog 77 #[.pointer (some ⟨g, 0, none⟩), .int .u64 a1] w fun e w' => e = .returned (.int .u64 r1) ∧ IsS97 w0 w' g s0_0 r2 r3 ∧ Below w0.heap.size w0 w' ∧ KeepBut w w' g none := by
 have HI0 := Aside0.mk hI
 have HK := Aside0.mk (KeepBut.refl w g none)
 have HL := Aside0.mk hB.size
 clear hI
 have HW0 := Aside0.mk hB.size
 have HB := Aside0.mk hB
 have HBE := Aside0.mk hB
 clear hB
 have H : (if s0_2 = true then (some (0, s0_1, s0_2)) else (if 0 ≤ s0_1 then (if s0_1 ≤ (s0_0.length : Int) then ((dragnetref02_Take.f k (s0_0.drop (s0_1 : Int).toNat)).bind fun bt609 => (if bt609.2.2 = 0 then (if bt609.1 > a1 then (some (0, wrap64 (s0_1 + bt609.2.1), decide (bt609.1 > a1))) else (some (bt609.1, wrap64 (s0_1 + bt609.2.1), decide (bt609.1 > a1)))) else (some (0, wrap64 (s0_1 + bt609.2.1), true)))) else (none)) else (none))) = some (r1, r2, r3) := h
 clear h
 by_cases c3 : s0_2 = true
 ·subst c3
  have H1 : (some (0, s0_1, true)) = some (r1, r2, r3) := by rw [if_pos rfl] at H; exact H
  clear H
  have H := H1
  clear H1
  simp only [Option.some.injEq, Prod.mk.injEq] at H
  obtain ⟨rfl, rfl, rfl⟩ := H
  obtain ⟨ASz4_0, cSz4_0, HGz4, hgz4, HSz4_0⟩ := HI0.out
  have hcz4_0 := cellS97_0 HGz4
  have hcz4_1 := cellS97_1 HGz4
  have hcz4_2 := cellS97_2 HGz4
  have hfz4_1 := blk_frozen HGz4 1
  have hfz4_2 := blk_frozen HGz4 2
  clear HGz4 hgz4
  go_enter Try.func77, Try.ntmps77
  go_wp2
  go_ret
  exact ⟨rf_, by repeat (first | (with_reducible first | exact HI0.out | apply IsS97.alloc | apply IsS97.drewN | apply IsS97.drew | apply IsS97.set_1 | apply IsS97.set_2) | exact HI0.out), by repeat (first | (with_reducible first | exact HB.out | apply pbA_ | apply pbN_ | apply pb1_ | refine below_set ?_ (IsS97.ge HI0.out)) | exact HB.out), by repeat (first | (with_reducible first | exact HK.out | apply KeepBut.set_ | apply keep_drewN | apply keep_drew | apply keep_alloc) | exact HK.out)⟩
 ·replace c3 := Bool.eq_false_iff.mpr c3
  subst c3
  have H1 : (if 0 ≤ s0_1 then (if s0_1 ≤ (s0_0.length : Int) then ((dragnetref02_Take.f k (s0_0.drop (s0_1 : Int).toNat)).bind fun bt609 => (if bt609.2.2 = 0 then (if bt609.1 > a1 then (some (0, wrap64 (s0_1 + bt609.2.1), decide (bt609.1 > a1))) else (some (bt609.1, wrap64 (s0_1 + bt609.2.1), decide (bt609.1 > a1)))) else (some (0, wrap64 (s0_1 + bt609.2.1), true)))) else (none)) else (none)) = some (r1, r2, r3) := by rw [if_neg (show ¬ (false = true) by decide)] at H; exact H
  clear H
  have H := H1
  clear H1
  by_cases c5 : 0 ≤ s0_1
  rotate_left
  ·rw [if_neg c5] at H
   exact absurd H (by simp)
  rw [if_pos c5] at H
  have c5b0 := eq_true c5
  have c5b1 : decide (0 ≤ s0_1) = true := decide_eq_true c5
  clear c5
  by_cases c6 : s0_1 ≤ (s0_0.length : Int)
  rotate_left
  ·rw [if_neg c6] at H
   exact absurd H (by simp)
  rw [if_pos c6] at H
  have c6b0 := eq_true c6
  have c6b1 : decide (s0_1 ≤ (s0_0.length : Int)) = true := decide_eq_true c6
  clear c6
  replace H := Option.bind_eq_some_iff.mp H
  obtain ⟨⟨t609, t610, t611⟩, A70, H⟩ := H
  replace H : (if t611 = 0 then (if t609 > a1 then (some (0, wrap64 (s0_1 + t610), decide (t609 > a1))) else (some (t609, wrap64 (s0_1 + t610), decide (t609 > a1)))) else (some (0, wrap64 (s0_1 + t610), true))) = some (r1, r2, r3) := H
  have A7 := Aside0.mk A70
  clear A70
  by_cases c8 : t611 = 0
  rotate_left
  ·rw [if_neg c8] at H
   have c8b0 : (t611 == 0) = false := beq_eq_false_iff_ne.mpr c8
   have c8b1 : (t611 != 0) = true := bne_iff_ne.mpr c8
   simp only [Option.some.injEq, Prod.mk.injEq] at H
   obtain ⟨rfl, rfl, rfl⟩ := H
   obtain ⟨ASz22_0, cSz22_0, HGz22, hgz22, HSz22_0⟩ := HI0.out
   have hcz22_0 := cellS97_0 HGz22
   have hcz22_1 := cellS97_1 HGz22
   have hcz22_2 := cellS97_2 HGz22
   have hfz22_1 := blk_frozen HGz22 1
   have hfz22_2 := blk_frozen HGz22 2
   clear HGz22 hgz22
   go_enter Try.func77, Try.ntmps77
   try go_wp2
   (try (rw [drewN_self w]; generalize hq_ : World.drewN w _ = w; have n0_ : Aside0 (IsS97 w0 w g s0_0 s0_1 false) := ⟨by rw [← hq_]; exact (by repeat (first | (with_reducible first | exact HI0.out | apply IsS97.alloc | apply IsS97.drewN | apply IsS97.drew | apply IsS97.set_1 | apply IsS97.set_2) | exact HI0.out))⟩; have n1_ : Aside0 (KeepBut w w g none) := ⟨by rw [← hq_]; exact (by repeat (first | (with_reducible first | exact HK.out | apply KeepBut.set_ | apply keep_drewN | apply keep_drew | apply keep_alloc) | exact HK.out))⟩; have n2_ : Aside0 (Below w0.heap.size w0 w) := ⟨by rw [← hq_]; exact (by repeat (first | (with_reducible first | exact HB.out | apply pbA_ | apply pbN_ | apply pb1_ | refine below_set ?_ (IsS97.ge HI0.out)) | exact HB.out))⟩; clear HI0 HK HB hq_; have HI0 := n0_; have HK := n1_; have HB := n2_; clear n0_ n1_ n2_))
   have n0_ := Aside0.mk (IsS97.drew HI0.out)
   have n1_ := Aside0.mk (keep_drew HK.out)
   have n2_ := Aside0.mk (pb1_ HB.out)
   clear HI0
   clear HK
   clear HB
   have HI0 := n0_
   have HK := n1_
   have HB := n2_
   clear n0_ n1_ n2_
   obtain ⟨ASz24_0, cSz24_0, HGz24, hgz24, HSz24_0⟩ := HI0.out
   have hcz24_0 := cellS97_0 HGz24
   have hcz24_1 := cellS97_1 HGz24
   have hcz24_2 := cellS97_2 HGz24
   have hfz24_1 := blk_frozen HGz24 1
   have hfz24_2 := blk_frozen HGz24 2
   clear HGz24 hgz24
   obtain ⟨i025, hi025, _, hsz25, _⟩ := info_parts info5
   obtain ⟨A25, hcut25, hA25, hC25⟩ := print_drop_of (P := Try.prog) (Value.int .u8) 0 22 5 .i64 Try.underlying22 hi025 hsz25 ASz24_0 cSz24_0 s0_0 s0_1 od_ od_ HSz24_0.2
   have HR608 := Aside0.mk (Kd.C_below (Kd.C_of_reads (h1 := fun _ => rfl) (hA25 _ (Kd.reads_of_C HSz24_0.1))) HBE.out)
   have HC608 := Aside0.mk hC25
   have hf608 := Kd.far_C 0 (Kd.C_of_reads (h1 := fun _ => rfl) (hA25 _ (Kd.reads_of_C HSz24_0.1))) (IsS97.ge HI0.out)
   clear hA25 hC25 hi025 hsz25
   refine start_ (n := 17) (S := fun w' => w'.cell? ⟨g, 0, none⟩ = some (.slice ASz24_0 s0_0.length cSz24_0) ∧ w'.cell? ⟨g, 1, none⟩ = some (.int .i64 s0_1) ∧ w'.cell? ⟨g, 2, none⟩ = some (.bool false)) (ds := []) #[false, false, false, false, false, false, false, false, false, false, false, false, false, false, false, false, false] (by kernel_rfl) rfl rfl ⟨hcz24_0, hcz24_1, hcz24_2⟩ (fun hHeld => ?_); refine with_tabW dragnetref02_Reader_Number.tab3 dragnetref02_Reader_Number.bits3 (fun HT_ HW_ => ?_)
   generalize w.drew = w23 at HI0 HK HB HR608 hHeld ⊢
   refine pu_ (i := 0) (N := some 13) HT_ #[true, false, false, false, false, false, false, false, false, false, false, false, false, false, false, false, false] ?_
   refine pu_ (i := 1) (N := some 14) HT_ #[true, true, false, false, false, false, false, false, false, false, false, false, false, false, false, false, false] ?_
   refine pu_ (i := 2) (N := some 15) HT_ #[true, true, true, false, false, false, false, false, false, false, false, false, false, false, false, false, false] ?_
   refine pu_ (i := 4) (N := some 17) HT_ #[true, true, true, false, true, false, false, false, false, false, false, false, false, false, false, false, false] ?_
   refine pu_ (i := 5) (N := some 18) HT_ #[true, true, true, false, true, true, false, false, false, false, false, false, false, false, false, false, false] ?_
   refine pu_ (i := 6) (N := some 19) HT_ #[true, true, true, false, true, true, true, false, false, false, false, false, false, false, false, false, false] ?_
   refine ta_ (i := 3) (N := some 16) HT_ HW_ #[true, true, true, true, true, true, true, false, false, false, false, false, false, false, false, false, false] hHeld ?_
   refine ta_ (i := 7) (N := some 20) HT_ HW_ #[true, true, true, true, true, true, true, true, false, false, false, false, false, false, false, false, false] hHeld ?_
   refine pu_ (i := 8) (N := some 21) HT_ #[true, true, true, true, true, true, true, true, true, false, false, false, false, false, false, false, false] ?_
   refine one_ (i := 9) (N := some 22) #[tT,tT,tT,tT,tT,tT,tT,tT,tT,tT,fF,fF,fF,fF,fF,fF,fF] rfl rfl (one_of HT_.out (by kernel_rfl)) (by decide) (fun K hK => ?_)
   refine goes_ Try.func41 (by kernel_rfl) rfl #[.slice A25 (s0_0.drop (s0_1 : Int).toNat).length (cSz24_0 - s0_1.toNat)] (by rfl) rfl rfl (by (try simp only [List.map_toArray, List.map_cons, List.map_nil]); first | done | (rw [show (s0_0.drop (s0_1 : Int).toNat).length = (s0_0.length - s0_1.toNat) from List.length_drop] <;> rfl) | rfl | (simp only [List.length_drop, List.length_take]; rfl)) ?_
   with_reducible refine (dragnetref02_Take.calls k _ _ (s0_0.drop (s0_1 : Int).toNat) t609 t610 t611 _ ?side1 ?side2 A7.out).mono ?_
   (case side1 => exact Kd.C_keep 0 HR608.out (by repeat (first | (with_reducible first | exact HK.out | apply KeepBut.set_ | apply keep_drewN | apply keep_drew | apply keep_alloc) | exact HK.out)) hf608)
   (case side2 => exact HC608.out)
   rintro e w26 ⟨rfl, hb⟩
   have HS0_ := (hb.cell (World.block_lt_of_cell? _ _ (hHeld.1))).trans (hHeld.1)
   have HS1_ := (hb.cell (World.block_lt_of_cell? _ _ (hHeld.2.1))).trans (hHeld.2.1)
   have HS2_ := (hb.cell (World.block_lt_of_cell? _ _ (hHeld.2.2))).trans (hHeld.2.2)
   refine ⟨_, rfl, ?_⟩
   have n0_ := Aside0.mk (IsS97.below (by repeat (first | (with_reducible first | exact HI0.out | apply IsS97.alloc | apply IsS97.drewN | apply IsS97.drew | apply IsS97.set_1 | apply IsS97.set_2) | exact HI0.out)) hb)
   have n1_ := Aside0.mk (KeepBut.trans (by repeat (first | (with_reducible first | exact HK.out | apply KeepBut.set_ | apply keep_drewN | apply keep_drew | apply keep_alloc) | exact HK.out)) (KeepBut.of_below hb g none) (.inl rfl))
   have n2_ := Aside0.mk (below_step (by repeat (first | (with_reducible first | exact HB.out | apply pbA_ | apply pbN_ | apply pb1_ | refine below_set ?_ (IsS97.ge HI0.out)) | exact HB.out)) hb)
   clear HI0
   clear HK
   clear HB
   have HI0 := n0_
   have HK := n1_
   have HB := n2_
   clear n0_ n1_ n2_
   (try clear hb)
   (try clear hb2)
   (try clear hk)
   (try clear hi)
   refine hK.out _ _ ⟨HS0_, HS1_, HS2_⟩ (fun hHeld => ?_)
   clear hK K
   refine norm_ (a' := ?_) ?_ ?_
   rotate_left
   ·show Act.put _ (some 22) _ = _
    simp only [Act.put, List.setIfInBounds_toArray, List.set_cons_zero, List.set_cons_succ, i64_w, i32_w]
    rfl
   refine pu_ (i := 10) (N := some 12) HT_ #[true, true, true, true, true, true, true, true, true, true, true, false, false, false, false, false, false] ?_
   refine pu_ (i := 11) (N := some 23) HT_ #[true, true, true, true, true, true, true, true, true, true, true, true, false, false, false, false, false] ?_
   refine pu_ (i := 12) (N := some 24) HT_ #[true, true, true, true, true, true, true, true, true, true, true, true, true, false, false, false, false] ?_
   refine pu_ (i := 13) (N := some 25) HT_ #[true, true, true, true, true, true, true, true, true, true, true, true, true, true, false, false, false] ?_
   refine pu_ (i := 14) (N := some 5) HT_ #[true, true, true, true, true, true, true, true, true, true, true, true, true, true, true, false, false] ?_
   refine pu_ (i := 15) (N := some 6) HT_ #[true, true, true, true, true, true, true, true, true, true, true, true, true, true, true, true, false] ?_
   refine pu_ (i := 16) (N := some 7) HT_ #[true, true, true, true, true, true, true, true, true, true, true, true, true, true, true, true, true] ?_
   refine done_ (done_of HT_.out (by kernel_rfl)) ?_
   obtain ⟨ASz27_0, cSz27_0, HGz27, hgz27, HSz27_0⟩ := HI0.out
   have hcz27_0 := cellS97_0 HGz27
   have hcz27_1 := cellS97_1 HGz27
   have hcz27_2 := cellS97_2 HGz27
   have hfz27_1 := blk_frozen HGz27 1
   have hfz27_2 := blk_frozen HGz27 2
   clear HGz27 hgz27
   try go_wp2
   go_ret
   exact ⟨rf_, by first | ((repeat (first | (with_reducible first | exact HI0.out | apply IsS97.alloc | apply IsS97.drewN | apply IsS97.drew | apply IsS97.set_1 | apply IsS97.set_2) | exact HI0.out)); done) | ((try simp only [gt_iff_lt, ge_iff_le]); (try simp only [c8b0]); repeat (first | (with_reducible first | exact HI0.out | apply IsS97.alloc | apply IsS97.drewN | apply IsS97.drew | apply IsS97.set_1 | apply IsS97.set_2) | exact HI0.out)), by repeat (first | (with_reducible first | exact HB.out | apply pbA_ | apply pbN_ | apply pb1_ | refine below_set ?_ (IsS97.ge HI0.out)) | exact HB.out), by repeat (first | (with_reducible first | exact HK.out | apply KeepBut.set_ | apply keep_drewN | apply keep_drew | apply keep_alloc) | exact HK.out)⟩
  rw [if_pos c8] at H
  have c8b0 : (t611 == 0) = true := beq_iff_eq.mpr c8
  have c8b1 : (t611 != 0) = false := bne_eq_false_iff_eq.mpr c8
  clear c8
  by_cases c9 : t609 > a1
  rotate_left
  ·rw [if_neg c9] at H
   have c9b0 : decide (a1 < t609) = false := decide_eq_false c9
   clear c9
   simp only [Option.some.injEq, Prod.mk.injEq] at H
   obtain ⟨rfl, rfl, rfl⟩ := H
   obtain ⟨ASz16_0, cSz16_0, HGz16, hgz16, HSz16_0⟩ := HI0.out
   have hcz16_0 := cellS97_0 HGz16
   have hcz16_1 := cellS97_1 HGz16
   have hcz16_2 := cellS97_2 HGz16
   have hfz16_1 := blk_frozen HGz16 1
   have hfz16_2 := blk_frozen HGz16 2
   clear HGz16 hgz16
   go_enter Try.func77, Try.ntmps77
   try go_wp2
   (try (rw [drewN_self w]; generalize hq_ : World.drewN w _ = w; have n0_ : Aside0 (IsS97 w0 w g s0_0 s0_1 false) := ⟨by rw [← hq_]; exact (by repeat (first | (with_reducible first | exact HI0.out | apply IsS97.alloc | apply IsS97.drewN | apply IsS97.drew | apply IsS97.set_1 | apply IsS97.set_2) | exact HI0.out))⟩; have n1_ : Aside0 (KeepBut w w g none) := ⟨by rw [← hq_]; exact (by repeat (first | (with_reducible first | exact HK.out | apply KeepBut.set_ | apply keep_drewN | apply keep_drew | apply keep_alloc) | exact HK.out))⟩; have n2_ : Aside0 (Below w0.heap.size w0 w) := ⟨by rw [← hq_]; exact (by repeat (first | (with_reducible first | exact HB.out | apply pbA_ | apply pbN_ | apply pb1_ | refine below_set ?_ (IsS97.ge HI0.out)) | exact HB.out))⟩; clear HI0 HK HB hq_; have HI0 := n0_; have HK := n1_; have HB := n2_; clear n0_ n1_ n2_))
   have n0_ := Aside0.mk (IsS97.drew HI0.out)
   have n1_ := Aside0.mk (keep_drew HK.out)
   have n2_ := Aside0.mk (pb1_ HB.out)
   clear HI0
   clear HK
   clear HB
   have HI0 := n0_
   have HK := n1_
   have HB := n2_
   clear n0_ n1_ n2_
   obtain ⟨ASz18_0, cSz18_0, HGz18, hgz18, HSz18_0⟩ := HI0.out
   have hcz18_0 := cellS97_0 HGz18
   have hcz18_1 := cellS97_1 HGz18
   have hcz18_2 := cellS97_2 HGz18
   have hfz18_1 := blk_frozen HGz18 1
   have hfz18_2 := blk_frozen HGz18 2
   clear HGz18 hgz18
   obtain ⟨i019, hi019, _, hsz19, _⟩ := info_parts info5
   obtain ⟨A19, hcut19, hA19, hC19⟩ := print_drop_of (P := Try.prog) (Value.int .u8) 0 22 5 .i64 Try.underlying22 hi019 hsz19 ASz18_0 cSz18_0 s0_0 s0_1 od_ od_ HSz18_0.2
   have HR608 := Aside0.mk (Kd.C_below (Kd.C_of_reads (h1 := fun _ => rfl) (hA19 _ (Kd.reads_of_C HSz18_0.1))) HBE.out)
   have HC608 := Aside0.mk hC19
   have hf608 := Kd.far_C 0 (Kd.C_of_reads (h1 := fun _ => rfl) (hA19 _ (Kd.reads_of_C HSz18_0.1))) (IsS97.ge HI0.out)
   clear hA19 hC19 hi019 hsz19
   refine start_ (n := 17) (S := fun w' => w'.cell? ⟨g, 0, none⟩ = some (.slice ASz18_0 s0_0.length cSz18_0) ∧ w'.cell? ⟨g, 1, none⟩ = some (.int .i64 s0_1) ∧ w'.cell? ⟨g, 2, none⟩ = some (.bool false)) (ds := []) #[false, false, false, false, false, false, false, false, false, false, false, false, false, false, false, false, false] (by kernel_rfl) rfl rfl ⟨hcz18_0, hcz18_1, hcz18_2⟩ (fun hHeld => ?_); refine with_tabW dragnetref02_Reader_Number.tab3 dragnetref02_Reader_Number.bits3 (fun HT_ HW_ => ?_)
   generalize w.drew = w17 at HI0 HK HB HR608 hHeld ⊢
   refine pu_ (i := 0) (N := some 13) HT_ #[true, false, false, false, false, false, false, false, false, false, false, false, false, false, false, false, false] ?_
   refine pu_ (i := 1) (N := some 14) HT_ #[true, true, false, false, false, false, false, false, false, false, false, false, false, false, false, false, false] ?_
   refine pu_ (i := 2) (N := some 15) HT_ #[true, true, true, false, false, false, false, false, false, false, false, false, false, false, false, false, false] ?_
   refine pu_ (i := 4) (N := some 17) HT_ #[true, true, true, false, true, false, false, false, false, false, false, false, false, false, false, false, false] ?_
   refine pu_ (i := 5) (N := some 18) HT_ #[true, true, true, false, true, true, false, false, false, false, false, false, false, false, false, false, false] ?_
   refine pu_ (i := 6) (N := some 19) HT_ #[true, true, true, false, true, true, true, false, false, false, false, false, false, false, false, false, false] ?_
   refine ta_ (i := 3) (N := some 16) HT_ HW_ #[true, true, true, true, true, true, true, false, false, false, false, false, false, false, false, false, false] hHeld ?_
   refine ta_ (i := 7) (N := some 20) HT_ HW_ #[true, true, true, true, true, true, true, true, false, false, false, false, false, false, false, false, false] hHeld ?_
   refine pu_ (i := 8) (N := some 21) HT_ #[true, true, true, true, true, true, true, true, true, false, false, false, false, false, false, false, false] ?_
   refine one_ (i := 9) (N := some 22) #[tT,tT,tT,tT,tT,tT,tT,tT,tT,tT,fF,fF,fF,fF,fF,fF,fF] rfl rfl (one_of HT_.out (by kernel_rfl)) (by decide) (fun K hK => ?_)
   refine goes_ Try.func41 (by kernel_rfl) rfl #[.slice A19 (s0_0.drop (s0_1 : Int).toNat).length (cSz18_0 - s0_1.toNat)] (by rfl) rfl rfl (by (try simp only [List.map_toArray, List.map_cons, List.map_nil]); first | done | (rw [show (s0_0.drop (s0_1 : Int).toNat).length = (s0_0.length - s0_1.toNat) from List.length_drop] <;> rfl) | rfl | (simp only [List.length_drop, List.length_take]; rfl)) ?_
   with_reducible refine (dragnetref02_Take.calls k _ _ (s0_0.drop (s0_1 : Int).toNat) t609 t610 t611 _ ?side1 ?side2 A7.out).mono ?_
   (case side1 => exact Kd.C_keep 0 HR608.out (by repeat (first | (with_reducible first | exact HK.out | apply KeepBut.set_ | apply keep_drewN | apply keep_drew | apply keep_alloc) | exact HK.out)) hf608)
   (case side2 => exact HC608.out)
   rintro e w20 ⟨rfl, hb⟩
   have HS0_ := (hb.cell (World.block_lt_of_cell? _ _ (hHeld.1))).trans (hHeld.1)
   have HS1_ := (hb.cell (World.block_lt_of_cell? _ _ (hHeld.2.1))).trans (hHeld.2.1)
   have HS2_ := (hb.cell (World.block_lt_of_cell? _ _ (hHeld.2.2))).trans (hHeld.2.2)
   refine ⟨_, rfl, ?_⟩
   have n0_ := Aside0.mk (IsS97.below (by repeat (first | (with_reducible first | exact HI0.out | apply IsS97.alloc | apply IsS97.drewN | apply IsS97.drew | apply IsS97.set_1 | apply IsS97.set_2) | exact HI0.out)) hb)
   have n1_ := Aside0.mk (KeepBut.trans (by repeat (first | (with_reducible first | exact HK.out | apply KeepBut.set_ | apply keep_drewN | apply keep_drew | apply keep_alloc) | exact HK.out)) (KeepBut.of_below hb g none) (.inl rfl))
   have n2_ := Aside0.mk (below_step (by repeat (first | (with_reducible first | exact HB.out | apply pbA_ | apply pbN_ | apply pb1_ | refine below_set ?_ (IsS97.ge HI0.out)) | exact HB.out)) hb)
   clear HI0
   clear HK
   clear HB
   have HI0 := n0_
   have HK := n1_
   have HB := n2_
   clear n0_ n1_ n2_
   (try clear hb)
   (try clear hb2)
   (try clear hk)
   (try clear hi)
   refine hK.out _ _ ⟨HS0_, HS1_, HS2_⟩ (fun hHeld => ?_)
   clear hK K
   refine norm_ (a' := ?_) ?_ ?_
   rotate_left
   ·show Act.put _ (some 22) _ = _
    simp only [Act.put, List.setIfInBounds_toArray, List.set_cons_zero, List.set_cons_succ, i64_w, i32_w]
    rfl
   refine pu_ (i := 10) (N := some 12) HT_ #[true, true, true, true, true, true, true, true, true, true, true, false, false, false, false, false, false] ?_
   refine pu_ (i := 11) (N := some 23) HT_ #[true, true, true, true, true, true, true, true, true, true, true, true, false, false, false, false, false] ?_
   refine pu_ (i := 12) (N := some 24) HT_ #[true, true, true, true, true, true, true, true, true, true, true, true, true, false, false, false, false] ?_
   refine pu_ (i := 13) (N := some 25) HT_ #[true, true, true, true, true, true, true, true, true, true, true, true, true, true, false, false, false] ?_
   refine pu_ (i := 14) (N := some 5) HT_ #[true, true, true, true, true, true, true, true, true, true, true, true, true, true, true, false, false] ?_
   refine pu_ (i := 15) (N := some 6) HT_ #[true, true, true, true, true, true, true, true, true, true, true, true, true, true, true, true, false] ?_
   refine pu_ (i := 16) (N := some 7) HT_ #[true, true, true, true, true, true, true, true, true, true, true, true, true, true, true, true, true] ?_
   refine done_ (done_of HT_.out (by kernel_rfl)) ?_
   obtain ⟨ASz21_0, cSz21_0, HGz21, hgz21, HSz21_0⟩ := HI0.out
   have hcz21_0 := cellS97_0 HGz21
   have hcz21_1 := cellS97_1 HGz21
   have hcz21_2 := cellS97_2 HGz21
   have hfz21_1 := blk_frozen HGz21 1
   have hfz21_2 := blk_frozen HGz21 2
   clear HGz21 hgz21
   try go_wp2
   go_ret
   exact ⟨rf_, by first | ((repeat (first | (with_reducible first | exact HI0.out | apply IsS97.alloc | apply IsS97.drewN | apply IsS97.drew | apply IsS97.set_1 | apply IsS97.set_2) | exact HI0.out)); done) | ((try simp only [gt_iff_lt, ge_iff_le]); (try simp only [c8b0]); (try simp only [c9b0]); repeat (first | (with_reducible first | exact HI0.out | apply IsS97.alloc | apply IsS97.drewN | apply IsS97.drew | apply IsS97.set_1 | apply IsS97.set_2) | exact HI0.out)), by repeat (first | (with_reducible first | exact HB.out | apply pbA_ | apply pbN_ | apply pb1_ | refine below_set ?_ (IsS97.ge HI0.out)) | exact HB.out), by repeat (first | (with_reducible first | exact HK.out | apply KeepBut.set_ | apply keep_drewN | apply keep_drew | apply keep_alloc) | exact HK.out)⟩
  rw [if_pos c9] at H
  have c9b0 : decide (a1 < t609) = true := decide_eq_true c9
  clear c9
  simp only [Option.some.injEq, Prod.mk.injEq] at H
  obtain ⟨rfl, rfl, rfl⟩ := H
  obtain ⟨ASz10_0, cSz10_0, HGz10, hgz10, HSz10_0⟩ := HI0.out
  have hcz10_0 := cellS97_0 HGz10
  have hcz10_1 := cellS97_1 HGz10
  have hcz10_2 := cellS97_2 HGz10
  have hfz10_1 := blk_frozen HGz10 1
  have hfz10_2 := blk_frozen HGz10 2
  clear HGz10 hgz10
  go_enter Try.func77, Try.ntmps77
  try go_wp2
  (try (rw [drewN_self w]; generalize hq_ : World.drewN w _ = w; have n0_ : Aside0 (IsS97 w0 w g s0_0 s0_1 false) := ⟨by rw [← hq_]; exact (by repeat (first | (with_reducible first | exact HI0.out | apply IsS97.alloc | apply IsS97.drewN | apply IsS97.drew | apply IsS97.set_1 | apply IsS97.set_2) | exact HI0.out))⟩; have n1_ : Aside0 (KeepBut w w g none) := ⟨by rw [← hq_]; exact (by repeat (first | (with_reducible first | exact HK.out | apply KeepBut.set_ | apply keep_drewN | apply keep_drew | apply keep_alloc) | exact HK.out))⟩; have n2_ : Aside0 (Below w0.heap.size w0 w) := ⟨by rw [← hq_]; exact (by repeat (first | (with_reducible first | exact HB.out | apply pbA_ | apply pbN_ | apply pb1_ | refine below_set ?_ (IsS97.ge HI0.out)) | exact HB.out))⟩; clear HI0 HK HB hq_; have HI0 := n0_; have HK := n1_; have HB := n2_; clear n0_ n1_ n2_))
  have n0_ := Aside0.mk (IsS97.drew HI0.out)
  have n1_ := Aside0.mk (keep_drew HK.out)
  have n2_ := Aside0.mk (pb1_ HB.out)
  clear HI0
  clear HK
  clear HB
  have HI0 := n0_
  have HK := n1_
  have HB := n2_
  clear n0_ n1_ n2_
  obtain ⟨ASz12_0, cSz12_0, HGz12, hgz12, HSz12_0⟩ := HI0.out
  have hcz12_0 := cellS97_0 HGz12
  have hcz12_1 := cellS97_1 HGz12
  have hcz12_2 := cellS97_2 HGz12
  have hfz12_1 := blk_frozen HGz12 1
  have hfz12_2 := blk_frozen HGz12 2
  clear HGz12 hgz12
  obtain ⟨i013, hi013, _, hsz13, _⟩ := info_parts info5
  obtain ⟨A13, hcut13, hA13, hC13⟩ := print_drop_of (P := Try.prog) (Value.int .u8) 0 22 5 .i64 Try.underlying22 hi013 hsz13 ASz12_0 cSz12_0 s0_0 s0_1 od_ od_ HSz12_0.2
  have HR608 := Aside0.mk (Kd.C_below (Kd.C_of_reads (h1 := fun _ => rfl) (hA13 _ (Kd.reads_of_C HSz12_0.1))) HBE.out)
  have HC608 := Aside0.mk hC13
  have hf608 := Kd.far_C 0 (Kd.C_of_reads (h1 := fun _ => rfl) (hA13 _ (Kd.reads_of_C HSz12_0.1))) (IsS97.ge HI0.out)
  clear hA13 hC13 hi013 hsz13
  refine start_ (n := 17) (S := fun w' => w'.cell? ⟨g, 0, none⟩ = some (.slice ASz12_0 s0_0.length cSz12_0) ∧ w'.cell? ⟨g, 1, none⟩ = some (.int .i64 s0_1) ∧ w'.cell? ⟨g, 2, none⟩ = some (.bool false)) (ds := []) #[false, false, false, false, false, false, false, false, false, false, false, false, false, false, false, false, false] (by kernel_rfl) rfl rfl ⟨hcz12_0, hcz12_1, hcz12_2⟩ (fun hHeld => ?_); refine with_tabW dragnetref02_Reader_Number.tab3 dragnetref02_Reader_Number.bits3 (fun HT_ HW_ => ?_)
  generalize w.drew = w11 at HI0 HK HB HR608 hHeld ⊢
  refine pu_ (i := 0) (N := some 13) HT_ #[true, false, false, false, false, false, false, false, false, false, false, false, false, false, false, false, false] ?_
  refine pu_ (i := 1) (N := some 14) HT_ #[true, true, false, false, false, false, false, false, false, false, false, false, false, false, false, false, false] ?_
  refine pu_ (i := 2) (N := some 15) HT_ #[true, true, true, false, false, false, false, false, false, false, false, false, false, false, false, false, false] ?_
  refine pu_ (i := 4) (N := some 17) HT_ #[true, true, true, false, true, false, false, false, false, false, false, false, false, false, false, false, false] ?_
  refine pu_ (i := 5) (N := some 18) HT_ #[true, true, true, false, true, true, false, false, false, false, false, false, false, false, false, false, false] ?_
  refine pu_ (i := 6) (N := some 19) HT_ #[true, true, true, false, true, true, true, false, false, false, false, false, false, false, false, false, false] ?_
  refine ta_ (i := 3) (N := some 16) HT_ HW_ #[true, true, true, true, true, true, true, false, false, false, false, false, false, false, false, false, false] hHeld ?_
  refine ta_ (i := 7) (N := some 20) HT_ HW_ #[true, true, true, true, true, true, true, true, false, false, false, false, false, false, false, false, false] hHeld ?_
  refine pu_ (i := 8) (N := some 21) HT_ #[true, true, true, true, true, true, true, true, true, false, false, false, false, false, false, false, false] ?_
  refine one_ (i := 9) (N := some 22) #[tT,tT,tT,tT,tT,tT,tT,tT,tT,tT,fF,fF,fF,fF,fF,fF,fF] rfl rfl (one_of HT_.out (by kernel_rfl)) (by decide) (fun K hK => ?_)
  refine goes_ Try.func41 (by kernel_rfl) rfl #[.slice A13 (s0_0.drop (s0_1 : Int).toNat).length (cSz12_0 - s0_1.toNat)] (by rfl) rfl rfl (by (try simp only [List.map_toArray, List.map_cons, List.map_nil]); first | done | (rw [show (s0_0.drop (s0_1 : Int).toNat).length = (s0_0.length - s0_1.toNat) from List.length_drop] <;> rfl) | rfl | (simp only [List.length_drop, List.length_take]; rfl)) ?_
  with_reducible refine (dragnetref02_Take.calls k _ _ (s0_0.drop (s0_1 : Int).toNat) t609 t610 t611 _ ?side1 ?side2 A7.out).mono ?_
  (case side1 => exact Kd.C_keep 0 HR608.out (by repeat (first | (with_reducible first | exact HK.out | apply KeepBut.set_ | apply keep_drewN | apply keep_drew | apply keep_alloc) | exact HK.out)) hf608)
  (case side2 => exact HC608.out)
  rintro e w14 ⟨rfl, hb⟩
  have HS0_ := (hb.cell (World.block_lt_of_cell? _ _ (hHeld.1))).trans (hHeld.1)
  have HS1_ := (hb.cell (World.block_lt_of_cell? _ _ (hHeld.2.1))).trans (hHeld.2.1)
  have HS2_ := (hb.cell (World.block_lt_of_cell? _ _ (hHeld.2.2))).trans (hHeld.2.2)
  refine ⟨_, rfl, ?_⟩
  have n0_ := Aside0.mk (IsS97.below (by repeat (first | (with_reducible first | exact HI0.out | apply IsS97.alloc | apply IsS97.drewN | apply IsS97.drew | apply IsS97.set_1 | apply IsS97.set_2) | exact HI0.out)) hb)
  have n1_ := Aside0.mk (KeepBut.trans (by repeat (first | (with_reducible first | exact HK.out | apply KeepBut.set_ | apply keep_drewN | apply keep_drew | apply keep_alloc) | exact HK.out)) (KeepBut.of_below hb g none) (.inl rfl))
  have n2_ := Aside0.mk (below_step (by repeat (first | (with_reducible first | exact HB.out | apply pbA_ | apply pbN_ | apply pb1_ | refine below_set ?_ (IsS97.ge HI0.out)) | exact HB.out)) hb)
  clear HI0
  clear HK
  clear HB
  have HI0 := n0_
  have HK := n1_
  have HB := n2_
  clear n0_ n1_ n2_
  (try clear hb)
  (try clear hb2)
  (try clear hk)
  (try clear hi)
  refine hK.out _ _ ⟨HS0_, HS1_, HS2_⟩ (fun hHeld => ?_)
  clear hK K
  refine norm_ (a' := ?_) ?_ ?_
  rotate_left
  ·show Act.put _ (some 22) _ = _
   simp only [Act.put, List.setIfInBounds_toArray, List.set_cons_zero, List.set_cons_succ, i64_w, i32_w]
   rfl
  refine pu_ (i := 10) (N := some 12) HT_ #[true, true, true, true, true, true, true, true, true, true, true, false, false, false, false, false, false] ?_
  refine pu_ (i := 11) (N := some 23) HT_ #[true, true, true, true, true, true, true, true, true, true, true, true, false, false, false, false, false] ?_
  refine pu_ (i := 12) (N := some 24) HT_ #[true, true, true, true, true, true, true, true, true, true, true, true, true, false, false, false, false] ?_
  refine pu_ (i := 13) (N := some 25) HT_ #[true, true, true, true, true, true, true, true, true, true, true, true, true, true, false, false, false] ?_
  refine pu_ (i := 14) (N := some 5) HT_ #[true, true, true, true, true, true, true, true, true, true, true, true, true, true, true, false, false] ?_
  refine pu_ (i := 15) (N := some 6) HT_ #[true, true, true, true, true, true, true, true, true, true, true, true, true, true, true, true, false] ?_
  refine pu_ (i := 16) (N := some 7) HT_ #[true, true, true, true, true, true, true, true, true, true, true, true, true, true, true, true, true] ?_
  refine done_ (done_of HT_.out (by kernel_rfl)) ?_
  obtain ⟨ASz15_0, cSz15_0, HGz15, hgz15, HSz15_0⟩ := HI0.out
  have hcz15_0 := cellS97_0 HGz15
  have hcz15_1 := cellS97_1 HGz15
  have hcz15_2 := cellS97_2 HGz15
  have hfz15_1 := blk_frozen HGz15 1
  have hfz15_2 := blk_frozen HGz15 2
  clear HGz15 hgz15
  try go_wp2
  go_ret
  exact ⟨rf_, by first | ((repeat (first | (with_reducible first | exact HI0.out | apply IsS97.alloc | apply IsS97.drewN | apply IsS97.drew | apply IsS97.set_1 | apply IsS97.set_2) | exact HI0.out)); done) | ((try simp only [gt_iff_lt, ge_iff_le]); (try simp only [c8b0]); (try simp only [c9b0]); repeat (first | (with_reducible first | exact HI0.out | apply IsS97.alloc | apply IsS97.drewN | apply IsS97.drew | apply IsS97.set_1 | apply IsS97.set_2) | exact HI0.out)), by repeat (first | (with_reducible first | exact HB.out | apply pbA_ | apply pbN_ | apply pb1_ | refine below_set ?_ (IsS97.ge HI0.out)) | exact HB.out), by repeat (first | (with_reducible first | exact HK.out | apply KeepBut.set_ | apply keep_drewN | apply keep_drew | apply keep_alloc) | exact HK.out)⟩
noncomputable def dragnetref02_Reader_Count.f (k : Nat) (s0_0 : List Int) (s0_1 : Int) (s0_2 : Bool) (a1 : Int) : Option (Int × Int × Bool) := (dragnetref02_Reader_Number.f k s0_0 s0_1 s0_2 (IntKind.u64.wrap (a1))).bind fun bt612 => (some (wrap64 (bt612.1), bt612.2.1, bt612.2.2))
theorem dragnetref02_Reader_Count.mono : ∀ a0 a1 a2 a3 k, LeO (dragnetref02_Reader_Count.f k a0 a1 a2 a3) (dragnetref02_Reader_Count.f (k + 1) a0 a1 a2 a3) := by
 intro a0 a1 a2 a3 k
 unfold dragnetref02_Reader_Count.f
 repeat' first
   | (with_reducible exact dragnetref02_Reader_Number.mono _ _ _ _ _)
   | (with_reducible exact LeO.refl _)
   | (with_reducible exact LeO.none _)
   | (with_reducible refine LeO.ite ?_ ?_)
   | (with_reducible refine LeO.bind ?_ (fun _ => ?_))
set_option maxHeartbeats 8000000 in
set_option maxRecDepth 100000 in
theorem dragnetref02_Reader_Count.calls (k : Nat) (g : Nat) (s0_0 : List Int) (s0_1 : Int) (s0_2 : Bool) (a1 : Int) (r1 : Int) (r2 : Int) (r3 : Bool) (w0 w : World) (hI : IsS97 w0 w g s0_0 s0_1 s0_2) (hB : Below w0.heap.size w0 w) (h : dragnetref02_Reader_Count.f k s0_0 s0_1 s0_2 a1 = some (r1, r2, r3)) :
  Calls Try.prog 76 #[.pointer (some ⟨g, 0, none⟩), .int .i64 a1] w fun e w' => e = .returned (.int .i64 r1) ∧ IsS97 w0 w' g s0_0 r2 r3 ∧ Below w0.heap.size w0 w' ∧ KeepBut w w' g none := by
 have HI0 := Aside0.mk hI
 have HK := Aside0.mk (KeepBut.refl w g none)
 have HL := Aside0.mk hB.size
 clear hI
 have HW0 := Aside0.mk hB.size
 have HB := Aside0.mk hB
 have HBE := Aside0.mk hB
 clear hB
 have H : ((dragnetref02_Reader_Number.f k s0_0 s0_1 s0_2 (IntKind.u64.wrap (a1))).bind fun bt612 => (some (wrap64 (bt612.1), bt612.2.1, bt612.2.2))) = some (r1, r2, r3) := h
 clear h
 replace H := Option.bind_eq_some_iff.mp H
 obtain ⟨⟨t612, t613, t614⟩, A30, H⟩ := H
 replace H : (some (wrap64 (t612), t613, t614)) = some (r1, r2, r3) := H
 have A3 := Aside0.mk A30
 clear A30
 simp only [Option.some.injEq, Prod.mk.injEq] at H
 obtain ⟨rfl, rfl, rfl⟩ := H
 go_enter Try.func76, Try.ntmps76
 go_wp2_with (first | ((with_reducible refine gaC_ (f := 77) rfl ?_); refine goesL_ (some 8) rfl rfl Try.func77 (by kernel_rfl) rfl #[.pointer (some ⟨g, 0, none⟩), .int .u64 (IntKind.u64.wrap (a1))] rfl (by (try simp only [List.map_toArray, List.map_cons, List.map_nil]); first | done | rfl | (simp only [List.length_drop, List.length_take]; rfl)) ?_; (with_reducible refine (dragnetref02_Reader_Number.calls k g s0_0 s0_1 s0_2 (IntKind.u64.wrap (a1)) t612 t613 t614 w0 _ ?side1 ?side2 A3.out).mono ?_); (case side1 => repeat (first | (with_reducible first | exact HI0.out | apply IsS97.alloc | apply IsS97.drewN | apply IsS97.drew | apply IsS97.set_1 | apply IsS97.set_2) | exact HI0.out)); (case side2 => repeat (first | (with_reducible first | exact HB.out | apply pbA_ | apply pbN_ | apply pb1_ | refine below_set ?_ (IsS97.ge HI0.out)) | exact HB.out)); rintro e w4 ⟨rfl, hi, hb, hk⟩; refine ⟨_, rfl, ?_⟩; replace HK := Aside0.mk (KeepBut.trans (by repeat (first | (with_reducible first | exact HK.out | apply KeepBut.set_ | apply keep_drewN | apply keep_drew | apply keep_alloc) | exact HK.out)) hk (.inl rfl)); replace HB := Aside0.mk (hb); replace HI0 := Aside0.mk (hi); (try clear hb); (try clear hb2); (try clear hk); (try clear hi)))
 go_ret
 exact ⟨rf_, by repeat (first | (with_reducible first | exact HI0.out | apply IsS97.alloc | apply IsS97.drewN | apply IsS97.drew | apply IsS97.set_1 | apply IsS97.set_2) | exact HI0.out), by repeat (first | (with_reducible first | exact HB.out | apply pbA_ | apply pbN_ | apply pb1_ | refine below_set ?_ (IsS97.ge HI0.out)) | exact HB.out), by repeat (first | (with_reducible first | exact HK.out | apply KeepBut.set_ | apply keep_drewN | apply keep_drew | apply keep_alloc) | exact HK.out)⟩
end Go.Proofs.Ytcjkmmajokkkfaa.P
end
