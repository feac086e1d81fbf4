/- Words and proofs that UpIntsBack leans on; put together by wip/tools/shake.py. -/
import Derived.Test.YtcjkmmajokkkfaaZUpIntsBack7
import Derived.Test.YtcjkmmajokkkfaaZUpIntsBack13
section
namespace Go.Proofs.Ytcjkmmajokkkfaa.P
open Go.RowKit Go.Proofs.YtcjkmmajokkkfaaW.PrintWords Go.Proofs.YtcjkmmajokkkfaaW.PrintLast Go.Proofs.YtcjkmmajokkkfaaW.PrintMore
attribute [local go_sem] max2_int min2_int max_two min_two max_three min_three max_four min_four
set_option linter.unusedVariables false
set_option linter.unusedSimpArgs false
noncomputable def pfor_PutInts.l0 : Nat → List Int → List Int → List Int → Int → Int → Option (List Int)
 | 0, _, _, _, _, _ => none
 | k + 1, x0, x5, x11, x12, x13 => if x13 < x12 then (if 0 ≤ x13 then (if x13 < (x11.length : Int) then ((num_Fold.f (rd x11 x13)).bind fun t201 => (if x13 < (x5.length : Int) then (pfor_PutInts.l0 k x0 (x5.set (x13 : Int).toNat t201) x11 x12 (wrap64 (x13 + 1))) else (none))) else (none)) else (none)) else ((pfor_PutList.f k x0 x5).bind fun t203 => (some t203))
noncomputable def pfor_PutInts.f (k : Nat) (l0 : List Int) (l1 : List Int) : Option (List Int) := if 0 ≤ (l1.length : Int) then (if ((l1.length : Int) : Int).toNat ≤ 35184372088832 then (pfor_PutInts.l0 k l0 (List.replicate ((l1.length : Int) : Int).toNat 0) l1 (l1.length : Int) 0) else (none)) else (none)
theorem pfor_PutInts.mono_l : ∀ k, (∀ y0 y1 y2 y3 y4, LeO (pfor_PutInts.l0 k y0 y1 y2 y3 y4) (pfor_PutInts.l0 (k + 1) y0 y1 y2 y3 y4))
 | 0 => fun _ _ _ _ _ r h => by simp [pfor_PutInts.l0] at h
 | k + 1 => by
  have ih0 := pfor_PutInts.mono_l k
  ·intro y0 y1 y2 y3 y4
   unfold pfor_PutInts.l0
   repeat' first
   | (with_reducible exact ih0 _ _ _ _ _)
   | (with_reducible exact pfor_PutList.mono _ _ _)
   | (with_reducible exact LeO.refl _)
   | (with_reducible exact LeO.none _)
   | (with_reducible refine LeO.ite ?_ ?_)
   | (with_reducible refine LeO.bind ?_ (fun _ => ?_))
theorem pfor_PutInts.mono : ∀ a0 a1 k, LeO (pfor_PutInts.f k a0 a1) (pfor_PutInts.f (k + 1) a0 a1) := by
 intro a0 a1 k
 have ih0 := pfor_PutInts.mono_l k
 unfold pfor_PutInts.f
 repeat' first
   | (with_reducible exact ih0 _ _ _ _ _)
   | (with_reducible exact pfor_PutList.mono _ _ _)
   | (with_reducible exact LeO.refl _)
   | (with_reducible exact LeO.none _)
   | (with_reducible refine LeO.ite ?_ ?_)
   | (with_reducible refine LeO.bind ?_ (fun _ => ?_))
set_option maxHeartbeats 8000000 in
set_option maxRecDepth 100000 in
theorem pfor_PutInts.calls (k : Nat) (A0 : Option Addr) (c0 : Nat) (l0 : List Int) (A1 : Option Addr) (c1 : Nat) (l1 : List Int) (r : List Int) (w : World) (hr0 : Kd.C (Kd.int .u8) w A0 l0.length l0) (hc0 : l0.length ≤ c0) (hr1 : Kd.C (Kd.int .i64) w A1 l1.length l1) (hc1 : l1.length ≤ c1) (h : pfor_PutInts.f k l0 l1 = some r) :
  Calls Try.prog 27 #[.slice A0 l0.length c0, .slice A1 l1.length c1] w fun e w' => ∃ v0_ : Value, e = .returned (v0_) ∧ Kd.R (Kd.int .u8) 5 w' w.heap.size (fun _ => True) v0_ r ∧ Below w.heap.size w w' := by
 have HR0 := Aside0.mk hr0
 have HC0 := Aside0.mk hc0
 clear hr0 hc0
 have HR1 := Aside0.mk hr1
 have HC1 := Aside0.mk hc1
 clear hr1 hc1
 have HB := Aside0.mk (Below.refl w.heap.size w)
 have H : (if 0 ≤ (l1.length : Int) then (if ((l1.length : Int) : Int).toNat ≤ 35184372088832 then (pfor_PutInts.l0 k l0 (List.replicate ((l1.length : Int) : Int).toNat 0) l1 (l1.length : Int) 0) else (none)) else (none)) = some r := h
 clear h
 by_cases c3 : 0 ≤ (l1.length : Int)
 rotate_left
 ·rw [if_neg c3] at H
  exact absurd H (by simp)
 rw [if_pos c3] at H
 have c3b0 := eq_true c3
 have c3b1 : decide (0 ≤ (l1.length : Int)) = true := decide_eq_true c3
 clear c3
 by_cases c4 : ((l1.length : Int) : Int).toNat ≤ 35184372088832
 rotate_left
 ·rw [if_neg c4] at H
  exact absurd H (by simp)
 rw [if_pos c4] at H
 have c4b0 := eq_true c4
 have c4b1 : decide (((l1.length : Int) : Int).toNat ≤ 35184372088832) = true := decide_eq_true c4
 clear c4
 obtain ⟨y197, hy197⟩ : ∃ y_ : List Int, y_ = (List.replicate ((l1.length : Int) : Int).toNat 0) := ⟨_, rfl⟩
 replace H : (pfor_PutInts.l0 k l0 y197 l1 (l1.length : Int) 0) = some r := by first | (rw [hy197]; with_reducible exact H) | (have H2_ := (Option.bind_some _ _).symm.trans H; rw [hy197]; with_reducible exact H2_) | (have H2_ := (Option.bind_some _ _).symm.trans H; with_reducible exact H2_) | with_reducible exact H | (rw [hy197]; exact H) | exact H
 have Ny197 := Aside0.mk hy197
 clear hy197
 have H' := Aside0.mk H
 clear H
 go_enter Try.func27, Try.ntmps27
 go_wp2_with (first | ((with_reducible refine gate_dst (N := 10) rfl ?_); refine Kd.R_make (Kd.int .u64) _ 50 rfl (N := 10) rfl 49 _ _ rfl (l1.length : Int) rfl rfl Try.underlying49 (.int .u64 0) 8 info50 rfl (by decide) (by omega) 0 (ok := fun _ => True) (okp := fun _ => True) rfl (fun _ hk => hk) trivial od_ (Nat.le_trans (Nat.mul_le_mul_right _ (od_ : (l1.length : Int).toNat ≤ 35184372088832)) (by omega)) (Below.refl _ _) (Nat.le_refl _) ?_; intro v198 w5 ho6 hb hg_ hnew_; clear hg_ hnew_; (first | rw [← Ny197.out] at ho6 | (simp only [Int.reduceToNat] at ho6; rw [← Ny197.out] at ho6)); have HO199 := Aside0.mk (Kd.R_lower ho6 (pbS_ bw_)); replace HB := Aside0.mk (below_step bw_ hb); clear hb ho6))
 go_loopg [13] k (fun kq v13 w' => ∃ (x5_1 : List Int) (x13_1 : Int), v13 = .int .i64 x13_1 ∧ Aside0 (pfor_PutInts.l0 kq l0 x5_1 l1 (l1.length : Int) x13_1 = some r) ∧ Aside0 (kq ≤ k) ∧ Aside0 (Kd.R (Kd.int .u64) 50 w' w.heap.size (fun _ => True) v198 x5_1) ∧ Aside0 (Below w.heap.size w w'))
 case atStart => exact ⟨(y197), (0), (by first | rfl | (simp; done) | (simp [*]; done)), H', ⟨Nat.le_refl _⟩, ⟨Kd.ru_ HO199.out⟩, ⟨bw_⟩⟩
 case round =>
  clear H'
  try clear c1
  try clear c2
  try clear p2
  try clear c3
  try clear c3b0
  try clear c3b1
  try clear c4
  try clear c4b0
  try clear c4b1
  obtain ⟨x5_1, x13_1, rfl, HA, HK1, HO_5, HB⟩ := hrel
  cases gk with
  | zero => exact absurd HA.out (by simp [pfor_PutInts.l0])
  | succ k1 =>
   have H := HA.out
   clear HA
   simp only [pfor_PutInts.l0] at H
   by_cases c7 : x13_1 < (l1.length : Int)
   rotate_left
   ·rw [if_neg c7] at H
    have c7b0 : decide (x13_1 < (l1.length : Int)) = false := decide_eq_false c7
    clear c7
    replace H := Option.bind_eq_some_iff.mp H
    obtain ⟨t203, A150, H⟩ := H
    replace H : (some t203) = some r := H
    have A15 := Aside0.mk A150
    clear A150
    obtain rfl := Option.some.inj H
    obtain ⟨Ao16, co16, eo16⟩ := Kd.R_slice HO_5.out
    subst eo16
    go_wp2_with (first | ((with_reducible refine gaC_ (f := 47) rfl ?_); refine goesL_ (some 26) rfl rfl Try.func47 (by kernel_rfl) rfl #[.slice A0 l0.length c0, .slice Ao16 x5_1.length co16] rfl (by (try simp only [List.map_toArray, List.map_cons, List.map_nil]); first | done | rfl | (simp only [List.length_drop, List.length_take]; rfl)) ?_; (with_reducible refine (pfor_PutList.calls k1 _ _ l0 _ _ x5_1 t203 _ ?side1 ?side2 ?side3 ?side4 A15.out).mono ?_); (case side1 => exact Kd.cu_ (Kd.C_below HR0.out HB.out)); (case side2 => exact HC0.out); (case side3 => exact Kd.cu_ (Kd.R_reads' HO_5.out).2.2); (case side4 => exact (Kd.R_reads' HO_5.out).2.1); rintro e w17 ⟨v204, rfl, ho0, hb⟩; refine ⟨_, rfl, ?_⟩; replace HO_5 := Aside0.mk (Kd.R_below (Kd.ru_ HO_5.out) hb); have HO205 := Aside0.mk (Kd.R_lower ho0 (pbS_ bw_)); replace HB := Aside0.mk (below_step bw_ hb); (try clear hb); (try clear hb2); (try clear hk); (try clear hi); (try clear ho0)))
    go_ret
    exact ⟨_, rf_, by (with_reducible repeat (first | apply Kd.rA_ | apply Kd.rN_ | apply Kd.rD_)); exact HO205.out, bw_⟩
   rw [if_pos c7] at H
   have c7b0 : decide (x13_1 < (l1.length : Int)) = true := decide_eq_true c7
   clear c7
   by_cases c8 : 0 ≤ x13_1
   rotate_left
   ·rw [if_neg c8] at H
    exact absurd H (by simp)
   rw [if_pos c8] at H
   have c8b0 : decide (0 ≤ x13_1) = true := decide_eq_true c8
   clear c8
   by_cases c9 : x13_1 < (l1.length : Int)
   rotate_left
   ·rw [if_neg c9] at H
    exact absurd H (by simp)
   rw [if_pos c9] at H
   have c9b0 : decide (x13_1 < (l1.length : Int)) = true := decide_eq_true c9
   clear c9
   replace H := Option.bind_eq_some_iff.mp H
   obtain ⟨t201, A100, H⟩ := H
   replace H : (if x13_1 < (x5_1.length : Int) then (pfor_PutInts.l0 k1 l0 (x5_1.set (x13_1 : Int).toNat t201) l1 (l1.length : Int) (wrap64 (x13_1 + 1))) else (none)) = some r := H
   have A10 := Aside0.mk A100
   clear A100
   by_cases c11 : x13_1 < (x5_1.length : Int)
   rotate_left
   ·rw [if_neg c11] at H
    exact absurd H (by simp)
   rw [if_pos c11] at H
   have c11b0 : decide (x13_1 < (x5_1.length : Int)) = true := decide_eq_true c11
   clear c11
   obtain ⟨y202, hy202⟩ : ∃ y_ : List Int, y_ = (x5_1.set (x13_1 : Int).toNat t201) := ⟨_, rfl⟩
   replace H : (pfor_PutInts.l0 k1 l0 y202 l1 (l1.length : Int) (wrap64 (x13_1 + 1))) = some r := by first | (rw [hy202]; with_reducible exact H) | (have H2_ := (Option.bind_some _ _).symm.trans H; rw [hy202]; with_reducible exact H2_) | (have H2_ := (Option.bind_some _ _).symm.trans H; with_reducible exact H2_) | with_reducible exact H | (rw [hy202]; exact H) | exact H
   have Ny202 := Aside0.mk hy202
   clear hy202
   have H' := Aside0.mk H
   clear H
   have p200 : 0 ≤ (x13_1 : Int) := od_
   have q200 : x13_1 < (l1.length : Int) := od_
   obtain ⟨ad200, e200, hx200_0⟩ := Kd.at_int HR1.out x13_1 p200 q200
   cases e200
   replace hx200_0 := (HB.out.cell (World.block_lt_of_cell? w _ hx200_0)).trans hx200_0
   replace p200 := eq_true p200
   replace q200 := eq_true q200
   go_wp2_with (first | ((with_reducible refine gaC_ (f := 46) rfl ?_); refine goesL_ (some 21) rfl rfl Try.func46 (by kernel_rfl) rfl #[.int .i64 (rd l1 x13_1)] rfl (by (try simp only [List.map_toArray, List.map_cons, List.map_nil]); first | done | rfl | (simp only [List.length_drop, List.length_take]; rfl)) ?_; (with_reducible refine (num_Fold.calls (rd l1 x13_1) t201 _ A10.out).mono ?_); rintro e w' ⟨rfl, ⟨nd, rfl⟩⟩; refine ⟨_, rfl, ?_⟩; (try (rw [drewN_self wr]; generalize hq_ : World.drewN wr _ = wr; have n0_ : Aside0 (Kd.R (Kd.int .u64) 50 wr w.heap.size (fun _ => True) v198 x5_1) := ⟨by rw [← hq_]; exact (Kd.ru_ HO_5.out)⟩; have n1_ : Aside0 (Below w.heap.size w wr) := ⟨by rw [← hq_]; exact bw_⟩; clear HO_5 HB hq_; have HO_5 := n0_; have HB := n1_; clear n0_ n1_)); have p12 : 0 ≤ (x13_1 : Int) := od_; have q12 : (x13_1 : Int) < ((x5_1.length : Int) : Int) := od_; obtain ⟨go12, co12, eo12, gb12, gl12, cl12, HG12⟩ := Kd.R_form HO_5.out (by omega); (first | cases eo12 | (injection eo12 with ea_ en_ ec_; (first | subst ea_ | (injection ea_ with ea_; subst ea_)); subst ec_; clear en_)); have GB12 := Aside0.mk gb12; have GG12 := Aside0.mk HG12; clear gb12 gl12 HG12; obtain ⟨hx12_0, hf12_0⟩ := Kd.R_celln 0 HO_5.out (x13_1 : Int) p12 q12; replace p12 := eq_true p12; replace q12 := eq_true q12; obtain ⟨hy13_, hz13_⟩ := Kd.R_celln 0 HO_5.out (x13_1 : Int) od_ od_; have HP13 := Kd.R_putg HO_5.out (x13_1 : Int) t201) | ((with_reducible refine gate_store (t := 50) (p := 22) rfl ?_); refine store_event (t := 50) (p := 22) (v := ?vo_w14) (w1 := (wr.setCell ⟨go12, (x13_1 : Int).toNat, none⟩ (.int .u64 t201))) ?hg ?ho ?hn ?hr ?_; (case ho => rfl); (case hg => rfl); (case hn => rfl); (case hr => first | (go_simp; done) | (go_simp; rfl)); intro w14 hw; have hg : wr.grownBy w14 (some go12) := (by rw [hw]; exact HP13.2); have hp_ : Kd.R (Kd.int .u64) 50 w14 w.heap.size (fun _ => True) (.slice (some ⟨go12, 0, none⟩) x5_1.length co12) y202 := (by rw [hw, Ny202.out]; exact HP13.1); clear HP13; replace HO_5 := Aside0.mk (hp_); replace HB := Aside0.mk ((by rw [hw]; exact below_set (HB.out) GB12.out : Below w.heap.size w w14)); clear hg hw hp_))
   go_roundg k1
   case measure => have := HK1.out; omega
   case rel => exact ⟨(y202), (wrap64 (x13_1 + 1)), (by first | rfl | (simp; done) | (simp [*]; done)), H', ⟨by have := HK1.out; omega⟩, ⟨Kd.ru_ HO_5.out⟩, ⟨bw_⟩⟩
noncomputable def ints_Put.l0 : Nat → List Int → List (S42) → List Int → List Int → List (S42) → Int → Int → Option (List Int × Int)
 | 0, _, _, _, _, _, _, _ => none
 | k + 1, x0, x1, x6, x7, x18, x19, x20 => if x20 < x19 then (if 0 ≤ x20 then (if x20 < (x18.length : Int) then (if (rd_T42 x18 x20).f0 = true then (if x20 < (x6.length : Int) then (if x7.length < 17592186044416 then (ints_Put.l0 k x0 x1 (x6.set (x20 : Int).toNat 1) (x7 ++ [(rd_T42 x18 x20).f1]) x18 x19 (wrap64 (x20 + 1))) else (none)) else (none)) else (ints_Put.l0 k x0 x1 x6 x7 x18 x19 (wrap64 (x20 + 1)))) else (none)) else (none)) else ((bits_Pack.f k x6 1).bind fun bt216 => (if bt216.2 = 0 then ((num_Put.f k x0 (IntKind.u64.wrap ((x1.length : Int)))).bind fun t220 => (if t220.length + bt216.1.length < 140737488355328 then ((pfor_PutInts.f k (t220 ++ bt216.1) x7).bind fun t226 => (some (t226, 0))) else (none))) else (some (([] : List Int), bt216.2))))
noncomputable def ints_Put.f (k : Nat) (l0 : List Int) (l1 : List (S42)) : Option (List Int × Int) := (ints_Formed.f k l1).bind fun t206 => (if t206 = true then (if 0 ≤ (l1.length : Int) then (if ((l1.length : Int) : Int).toNat ≤ 35184372088832 then (ints_Put.l0 k l0 l1 (List.replicate ((l1.length : Int) : Int).toNat 0) ([] : List Int) l1 (l1.length : Int) 0) else (none)) else (none)) else (some (([] : List Int), 1)))
theorem ints_Put.mono_l : ∀ k, (∀ y0 y1 y2 y3 y4 y5 y6, LeO (ints_Put.l0 k y0 y1 y2 y3 y4 y5 y6) (ints_Put.l0 (k + 1) y0 y1 y2 y3 y4 y5 y6))
 | 0 => fun _ _ _ _ _ _ _ r h => by simp [ints_Put.l0] at h
 | k + 1 => by
  have ih0 := ints_Put.mono_l k
  ·intro y0 y1 y2 y3 y4 y5 y6
   unfold ints_Put.l0
   repeat' first
   | (with_reducible exact ih0 _ _ _ _ _ _ _)
   | (with_reducible exact bits_Pack.mono _ _ _)
   | (with_reducible exact ints_Formed.mono _ _)
   | (with_reducible exact num_Put.mono _ _ _)
   | (with_reducible exact pfor_PutInts.mono _ _ _)
   | (with_reducible exact LeO.refl _)
   | (with_reducible exact LeO.none _)
   | (with_reducible refine LeO.ite ?_ ?_)
   | (with_reducible refine LeO.bind ?_ (fun _ => ?_))
theorem ints_Put.mono : ∀ a0 a1 k, LeO (ints_Put.f k a0 a1) (ints_Put.f (k + 1) a0 a1) := by
 intro a0 a1 k
 have ih0 := ints_Put.mono_l k
 unfold ints_Put.f
 repeat' first
   | (with_reducible exact ih0 _ _ _ _ _ _ _)
   | (with_reducible exact bits_Pack.mono _ _ _)
   | (with_reducible exact ints_Formed.mono _ _)
   | (with_reducible exact num_Put.mono _ _ _)
   | (with_reducible exact pfor_PutInts.mono _ _ _)
   | (with_reducible exact LeO.refl _)
   | (with_reducible exact LeO.none _)
   | (with_reducible refine LeO.ite ?_ ?_)
   | (with_reducible refine LeO.bind ?_ (fun _ => ?_))
set_option maxHeartbeats 8000000 in
set_option maxRecDepth 100000 in
theorem ints_Put.calls (k : Nat) (A0 : Option Addr) (c0 : Nat) (l0 : List Int) (A1 : Option Addr) (c1 : Nat) (l1 : List (S42)) (r1 : List Int) (r2 : Int) (w : World) (hr0 : Kd.C (Kd.int .u8) w A0 l0.length l0) (hc0 : l0.length ≤ c0) (hr1 : Kd.C k42 w A1 l1.length l1) (hc1 : l1.length ≤ c1) (h : ints_Put.f k l0 l1 = some (r1, r2)) :
  Calls Try.prog 12 #[.slice A0 l0.length c0, .slice A1 l1.length c1] w fun e w' => ∃ v0_ : Value, e = .returned (.tuple #[v0_, .int .i64 r2]) ∧ Kd.R (Kd.int .u8) 5 w' w.heap.size (fun _ => True) v0_ r1 ∧ Below w.heap.size w w' := by
 have hu42 := Try.underlying42
 have HR0 := Aside0.mk hr0
 have HC0 := Aside0.mk hc0
 clear hr0 hc0
 have HR1 := Aside0.mk hr1
 have HC1 := Aside0.mk hc1
 clear hr1 hc1
 have HB := Aside0.mk (Below.refl w.heap.size w)
 have H : ((ints_Formed.f k l1).bind fun t206 => (if t206 = true then (if 0 ≤ (l1.length : Int) then (if ((l1.length : Int) : Int).toNat ≤ 35184372088832 then (ints_Put.l0 k l0 l1 (List.replicate ((l1.length : Int) : Int).toNat 0) ([] : List Int) l1 (l1.length : Int) 0) else (none)) else (none)) else (some (([] : List Int), 1)))) = some (r1, r2) := h
 clear h
 replace H := Option.bind_eq_some_iff.mp H
 obtain ⟨t206, A30, H⟩ := H
 replace H : (if t206 = true then (if 0 ≤ (l1.length : Int) then (if ((l1.length : Int) : Int).toNat ≤ 35184372088832 then (ints_Put.l0 k l0 l1 (List.replicate ((l1.length : Int) : Int).toNat 0) ([] : List Int) l1 (l1.length : Int) 0) else (none)) else (none)) else (some (([] : List Int), 1))) = some (r1, r2) := H
 have A3 := Aside0.mk A30
 clear A30
 by_cases c4 : t206 = true
 rotate_left
 ·replace c4 := Bool.eq_false_iff.mpr c4
  subst c4
  have H1 : (some (([] : List Int), 1)) = some (r1, r2) := by rw [if_neg (show ¬ (false = true) by decide)] at H; exact H
  clear H
  have H := H1
  clear H1
  simp only [Option.some.injEq, Prod.mk.injEq] at H
  obtain ⟨rfl, rfl⟩ := H
  go_enter Try.func12, Try.ntmps12
  go_wp2_with (first | ((with_reducible refine gaC_ (f := 15) rfl ?_); refine goesL_ (some 13) rfl rfl Try.func15 (by kernel_rfl) rfl #[.slice A1 l1.length c1] rfl (by (try simp only [List.map_toArray, List.map_cons, List.map_nil]); first | done | rfl | (simp only [List.length_drop, List.length_take]; rfl)) ?_; (with_reducible refine (ints_Formed.calls k _ _ l1 false _ ?side1 ?side2 A3.out).mono ?_); (case side1 => exact Kd.cu_ HR1.out); (case side2 => exact HC1.out); rintro e w43 ⟨rfl, hb⟩; refine ⟨_, rfl, ?_⟩; replace HB := Aside0.mk (below_step bw_ hb); (try clear hb); (try clear hb2); (try clear hk); (try clear hi)))
  go_ret2
  exact ⟨_, rf_, ni_, bw_⟩
 subst c4
 have H1 : (if 0 ≤ (l1.length : Int) then (if ((l1.length : Int) : Int).toNat ≤ 35184372088832 then (ints_Put.l0 k l0 l1 (List.replicate ((l1.length : Int) : Int).toNat 0) ([] : List Int) l1 (l1.length : Int) 0) else (none)) else (none)) = some (r1, r2) := by rw [if_pos rfl] at H; exact H
 clear H
 have H := H1
 clear H1
 by_cases c5 : 0 ≤ (l1.length : Int)
 rotate_left
 ·rw [if_neg c5] at H
  exact absurd H (by simp)
 rw [if_pos c5] at H
 have c5b0 := eq_true c5
 have c5b1 : decide (0 ≤ (l1.length : Int)) = true := decide_eq_true c5
 clear c5
 by_cases c6 : ((l1.length : Int) : Int).toNat ≤ 35184372088832
 rotate_left
 ·rw [if_neg c6] at H
  exact absurd H (by simp)
 rw [if_pos c6] at H
 have c6b0 := eq_true c6
 have c6b1 : decide (((l1.length : Int) : Int).toNat ≤ 35184372088832) = true := decide_eq_true c6
 clear c6
 obtain ⟨y207, hy207⟩ : ∃ y_ : List Int, y_ = (List.replicate ((l1.length : Int) : Int).toNat 0) := ⟨_, rfl⟩
 replace H : (ints_Put.l0 k l0 l1 y207 ([] : List Int) l1 (l1.length : Int) 0) = some (r1, r2) := by first | (rw [hy207]; with_reducible exact H) | (have H2_ := (Option.bind_some _ _).symm.trans H; rw [hy207]; with_reducible exact H2_) | (have H2_ := (Option.bind_some _ _).symm.trans H; with_reducible exact H2_) | with_reducible exact H | (rw [hy207]; exact H) | exact H
 have Ny207 := Aside0.mk hy207
 clear hy207
 have H' := Aside0.mk H
 clear H
 go_enter Try.func12, Try.ntmps12
 go_wp2_with (first | ((with_reducible refine gaC_ (f := 15) rfl ?_); refine goesL_ (some 13) rfl rfl Try.func15 (by kernel_rfl) rfl #[.slice A1 l1.length c1] rfl (by (try simp only [List.map_toArray, List.map_cons, List.map_nil]); first | done | rfl | (simp only [List.length_drop, List.length_take]; rfl)) ?_; (with_reducible refine (ints_Formed.calls k _ _ l1 true _ ?side1 ?side2 A3.out).mono ?_); (case side1 => exact Kd.cu_ HR1.out); (case side2 => exact HC1.out); rintro e w7 ⟨rfl, hb⟩; refine ⟨_, rfl, ?_⟩; replace HB := Aside0.mk (below_step bw_ hb); (try clear hb); (try clear hb2); (try clear hk); (try clear hi)) | ((with_reducible refine gate_dst (N := 17) rfl ?_); refine Kd.R_make (Kd.int .u64) _ 50 rfl (N := 17) rfl 49 _ _ rfl (l1.length : Int) rfl rfl Try.underlying49 (.int .u64 0) 8 info50 rfl (by decide) (by omega) 0 (ok := fun _ => True) (okp := fun _ => True) rfl (fun _ hk => hk) trivial od_ (Nat.le_trans (Nat.mul_le_mul_right _ (od_ : (l1.length : Int).toNat ≤ 35184372088832)) (by omega)) (Below.refl _ _) (Nat.le_refl _) ?_; intro v208 w8 ho9 hb hg_ hnew_; clear hg_ hnew_; (first | rw [← Ny207.out] at ho9 | (simp only [Int.reduceToNat] at ho9; rw [← Ny207.out] at ho9)); have HO209 := Aside0.mk (Kd.R_lower ho9 (pbS_ bw_)); replace HB := Aside0.mk (below_step bw_ hb); clear hb ho9))
 go_loopg [7, 20] k (fun kq v7 v20 w' => ∃ (x6_1 : List Int) (x7_1 : List Int) (x20_1 : Int), v20 = .int .i64 x20_1 ∧ Aside0 (ints_Put.l0 kq l0 l1 x6_1 x7_1 l1 (l1.length : Int) x20_1 = some (r1, r2)) ∧ Aside0 (kq ≤ k) ∧ Aside0 (Kd.R (Kd.int .u64) 50 w' w.heap.size (fun _ => True) v208 x6_1) ∧ Aside0 (Kd.R (Kd.int .i64) 3 w' w.heap.size (fun _ => True) v7 x7_1) ∧ Aside0 (Below w.heap.size w w'))
 case atStart => exact ⟨(y207), (([] : List Int)), (0), (by first | rfl | (simp; done) | (simp [*]; done)), H', ⟨Nat.le_refl _⟩, ⟨Kd.ru_ HO209.out⟩, ⟨ni_⟩, ⟨bw_⟩⟩
 case round =>
  clear H'
  try clear c1
  try clear p2
  try clear c4
  try clear c5
  try clear c5b0
  try clear c5b1
  try clear c6
  try clear c6b0
  try clear c6b1
  obtain ⟨x6_1, x7_1, x20_1, rfl, HA, HK1, HO_6, HO_7, HB⟩ := hrel
  cases gk with
  | zero => exact absurd HA.out (by simp [ints_Put.l0])
  | succ k1 =>
   have H := HA.out
   clear HA
   simp only [ints_Put.l0] at H
   by_cases c10 : x20_1 < (l1.length : Int)
   rotate_left
   ·rw [if_neg c10] at H
    have c10b0 : decide (x20_1 < (l1.length : Int)) = false := decide_eq_false c10
    clear c10
    replace H := Option.bind_eq_some_iff.mp H
    obtain ⟨⟨t216, t217⟩, A280, H⟩ := H
    replace H : (if t217 = 0 then ((num_Put.f k1 l0 (IntKind.u64.wrap ((l1.length : Int)))).bind fun t220 => (if t220.length + t216.length < 140737488355328 then ((pfor_PutInts.f k1 (t220 ++ t216) x7_1).bind fun t226 => (some (t226, 0))) else (none))) else (some (([] : List Int), t217))) = some (r1, r2) := H
    have A28 := Aside0.mk A280
    clear A280
    by_cases c29 : t217 = 0
    rotate_left
    ·rw [if_neg c29] at H
     have c29b0 : (t217 == 0) = false := beq_eq_false_iff_ne.mpr c29
     have c29b1 : (t217 != 0) = true := bne_iff_ne.mpr c29
     simp only [Option.some.injEq, Prod.mk.injEq] at H
     obtain ⟨rfl, rfl⟩ := H
     obtain ⟨Ao41, co41, eo41⟩ := Kd.R_slice HO_6.out
     subst eo41
     go_wp2_with (first | ((with_reducible refine gaC_ (f := 26) rfl ?_); refine goesL_ (some 38) rfl rfl Try.func26 (by kernel_rfl) rfl #[.slice Ao41 x6_1.length co41, .int .i64 1] rfl (by (try simp only [List.map_toArray, List.map_cons, List.map_nil]); first | done | rfl | (simp only [List.length_drop, List.length_take]; rfl)) ?_; (with_reducible refine (bits_Pack.calls k1 _ _ x6_1 1 t216 t217 _ ?side1 ?side2 A28.out).mono ?_); (case side1 => exact Kd.cu_ (Kd.R_reads' HO_6.out).2.2); (case side2 => exact (Kd.R_reads' HO_6.out).2.1); rintro e w42 ⟨v218, rfl, ho0, hb⟩; refine ⟨_, rfl, ?_⟩; replace HO_6 := Aside0.mk (Kd.R_below (Kd.ru_ HO_6.out) hb); replace HO_7 := Aside0.mk (Kd.R_below (Kd.ru_ HO_7.out) hb); have HO219 := Aside0.mk (Kd.R_lower ho0 (pbS_ bw_)); replace HB := Aside0.mk (below_step bw_ hb); (try clear hb); (try clear hb2); (try clear hk); (try clear hi); (try clear ho0)))
     go_ret2
     exact ⟨_, rf_, ni_, bw_⟩
    rw [if_pos c29] at H
    have c29b0 : (t217 == 0) = true := beq_iff_eq.mpr c29
    have c29b1 : (t217 != 0) = false := bne_eq_false_iff_eq.mpr c29
    clear c29
    replace H := Option.bind_eq_some_iff.mp H
    obtain ⟨t220, A300, H⟩ := H
    replace H : (if t220.length + t216.length < 140737488355328 then ((pfor_PutInts.f k1 (t220 ++ t216) x7_1).bind fun t226 => (some (t226, 0))) else (none)) = some (r1, r2) := H
    have A30 := Aside0.mk A300
    clear A300
    by_cases c31 : t220.length + t216.length < 140737488355328
    rotate_left
    ·rw [if_neg c31] at H
     exact absurd H (by simp)
    rw [if_pos c31] at H
    have LMc31 := Aside0.mk c31
    clear c31
    obtain ⟨y223, hy223⟩ : ∃ y_ : List Int, y_ = (t220 ++ t216) := ⟨_, rfl⟩
    replace H : ((pfor_PutInts.f k1 y223 x7_1).bind fun t226 => (some (t226, 0))) = some (r1, r2) := by first | (rw [hy223]; with_reducible exact H) | (have H2_ := (Option.bind_some _ _).symm.trans H; rw [hy223]; with_reducible exact H2_) | (have H2_ := (Option.bind_some _ _).symm.trans H; with_reducible exact H2_) | with_reducible exact H | (rw [hy223]; exact H) | exact H
    have Ny223 := Aside0.mk hy223
    clear hy223
    replace H := Option.bind_eq_some_iff.mp H
    obtain ⟨t226, A320, H⟩ := H
    replace H : (some (t226, 0)) = some (r1, r2) := H
    have A32 := Aside0.mk A320
    clear A320
    simp only [Option.some.injEq, Prod.mk.injEq] at H
    obtain ⟨rfl, rfl⟩ := H
    obtain ⟨Ao33, co33, eo33⟩ := Kd.R_slice HO_6.out
    subst eo33
    go_wp2_with (first | ((with_reducible refine gaC_ (f := 26) rfl ?_); refine goesL_ (some 38) rfl rfl Try.func26 (by kernel_rfl) rfl #[.slice Ao33 x6_1.length co33, .int .i64 1] rfl (by (try simp only [List.map_toArray, List.map_cons, List.map_nil]); first | done | rfl | (simp only [List.length_drop, List.length_take]; rfl)) ?_; (with_reducible refine (bits_Pack.calls k1 _ _ x6_1 1 t216 t217 _ ?side1 ?side2 A28.out).mono ?_); (case side1 => exact Kd.cu_ (Kd.R_reads' HO_6.out).2.2); (case side2 => exact (Kd.R_reads' HO_6.out).2.1); rintro e w34 ⟨v218, rfl, ho0, hb⟩; refine ⟨_, rfl, ?_⟩; replace HO_6 := Aside0.mk (Kd.R_below (Kd.ru_ HO_6.out) hb); replace HO_7 := Aside0.mk (Kd.R_below (Kd.ru_ HO_7.out) hb); have HO219 := Aside0.mk (Kd.R_lower ho0 (pbS_ bw_)); replace HB := Aside0.mk (below_step bw_ hb); (try clear hb); (try clear hb2); (try clear hk); (try clear hi); (try clear ho0)) | ((with_reducible refine gaC_ (f := 28) rfl ?_); refine goesL_ (some 48) rfl rfl Try.func28 (by kernel_rfl) rfl #[.slice A0 l0.length c0, .int .u64 (IntKind.u64.wrap ((l1.length : Int)))] rfl (by (try simp only [List.map_toArray, List.map_cons, List.map_nil]); first | done | rfl | (simp only [List.length_drop, List.length_take]; rfl)) ?_; (with_reducible refine (num_Put.calls k1 _ _ l0 (IntKind.u64.wrap ((l1.length : Int))) t220 _ ?side1 ?side2 A30.out).mono ?_); (case side1 => exact Kd.cu_ (Kd.C_below HR0.out HB.out)); (case side2 => exact HC0.out); rintro e w35 ⟨v221, rfl, ho0, hb⟩; refine ⟨_, rfl, ?_⟩; have n0_ := Aside0.mk (Kd.R_below (Kd.ru_ HO_6.out) hb); have n1_ := Aside0.mk (Kd.R_below (Kd.ru_ HO_7.out) hb); have n2_ := Aside0.mk (Kd.R_elder' (Kd.ru_ HO219.out) (Kd.R_base ho0) hb); have n3_ := Aside0.mk (Kd.R_lower (Kd.R_new' ho0 (Kd.R_lt (Kd.ru_ HO219.out))) (pbS_ bw_)); have n4_ := Aside0.mk (below_step bw_ hb); clear HO_6; clear HO_7; clear HO219; clear HB; have HO_6 := n0_; have HO_7 := n1_; have HO219 := n2_; have HO222 := n3_; have HB := n4_; clear n0_ n1_ n2_ n3_ n4_; (try clear hb); (try clear hb2); (try clear hk); (try clear hi); (try clear ho0); obtain ⟨Ao37, co37, eo37⟩ := Kd.R_slice HO219.out; subst eo37) | ((with_reducible refine gate_builtin (b := .append) (xs := #[.tmp 48, .tmp 49]) rfl ?_); at_builtin; refine Kd.R_append_rows (Kd.int .u8) (w0 := w) w.heap.size rfl (.tmp 48) (.tmp 49) 22 5 (.int .u8 0) 1 rfl Try.underlying22 info5 rfl (by decide) (by omega) v221 t220 t216 _ _ _ (fun k_ => some k_ ≠ (.slice Ao37 t216.length co37 : Value).ownBlock) (fun _ => False) rfl rfl ?aO ?aR (fun _ _ h => h) (fun _ h => h.elim) ?aF ?aB ?aS ?aL ?_; (case aR => exact Kd.cu_ (Kd.R_reads' HO219.out).2.2); (case aB => exact bw_); (case aF => exact (fun k_ hk => Kd.fresh' (Kd.R_lt (Kd.ru_ HO219.out)) k_ hk)); (case aO => exact (by (with_reducible repeat (first | apply Kd.rA_ | apply Kd.rN_ | apply Kd.rD_)); exact Kd.R_mono HO222.out (fun _ hk => hk.2))); (case aS => exact (pbS_ bw_)); (case aL => have := LMc31.out; omega); intro v224 w36 ho hb hg hat; rw [← Ny223.out] at ho; have n0_ := Aside0.mk (Kd.R_over' (Kd.ru_ HO_6.out) (Kd.R_typed (Kd.ru_ HO222.out)) (by decide) hg); have n1_ := Aside0.mk (Kd.R_over' (Kd.ru_ HO_7.out) (Kd.R_typed (Kd.ru_ HO222.out)) (by decide) hg); have n2_ := Aside0.mk (Kd.R_after (ok := (fun _ => True)) (Kd.ru_ HO219.out) hg hat); have n3_ := Aside0.mk (hb); have n4_ := Aside0.mk (ho); clear HO_6; clear HO_7; clear HO219; clear HB; clear HO222; have HO_6 := n0_; have HO_7 := n1_; have HO219 := n2_; have HB := n3_; have HO225 := n4_; clear n0_ n1_ n2_ n3_ n4_; clear ho hb hg hat; obtain ⟨Ao38, co38, eo38⟩ := Kd.R_slice HO225.out; subst eo38; obtain ⟨Ao39, co39, eo39⟩ := Kd.R_slice HO_7.out; subst eo39) | ((with_reducible refine gaC_ (f := 27) rfl ?_); refine goesL_ (some 52) rfl rfl Try.func27 (by kernel_rfl) rfl #[.slice Ao38 y223.length co38, .slice Ao39 x7_1.length co39] rfl (by (try simp only [List.map_toArray, List.map_cons, List.map_nil]); first | done | rfl | (simp only [List.length_drop, List.length_take]; rfl)) ?_; (with_reducible refine (pfor_PutInts.calls k1 _ _ y223 _ _ x7_1 t226 _ ?side1 ?side2 ?side3 ?side4 A32.out).mono ?_); (case side1 => exact Kd.cu_ (Kd.R_reads' HO225.out).2.2); (case side2 => exact (Kd.R_reads' HO225.out).2.1); (case side3 => exact Kd.cu_ (Kd.R_reads' HO_7.out).2.2); (case side4 => exact (Kd.R_reads' HO_7.out).2.1); rintro e w40 ⟨v227, rfl, ho0, hb⟩; refine ⟨_, rfl, ?_⟩; have n0_ := Aside0.mk (Kd.R_below (Kd.ru_ HO_6.out) hb); have n1_ := Aside0.mk (Kd.R_below (Kd.ru_ HO_7.out) hb); have n2_ := Aside0.mk (Kd.R_elder' (Kd.ru_ HO219.out) (Kd.R_base ho0) hb); have n3_ := Aside0.mk (Kd.R_elder' (Kd.ru_ HO225.out) (Kd.R_base ho0) hb); have n4_ := Aside0.mk (Kd.R_lower (Kd.R_new' (Kd.R_new' ho0 (Kd.R_lt (Kd.ru_ HO219.out))) (Kd.R_lt (Kd.ru_ HO225.out))) (pbS_ bw_)); have n5_ := Aside0.mk (below_step bw_ hb); clear HO_6; clear HO_7; clear HO219; clear HO225; clear HB; have HO_6 := n0_; have HO_7 := n1_; have HO219 := n2_; have HO225 := n3_; have HO228 := n4_; have HB := n5_; clear n0_ n1_ n2_ n3_ n4_ n5_; (try clear hb); (try clear hb2); (try clear hk); (try clear hi); (try clear ho0)))
    go_ret2
    exact ⟨_, rf_, by (with_reducible repeat (first | apply Kd.rA_ | apply Kd.rN_ | apply Kd.rD_)); exact Kd.R_mono HO228.out (fun _ hk => trivial), bw_⟩
   rw [if_pos c10] at H
   have c10b0 : decide (x20_1 < (l1.length : Int)) = true := decide_eq_true c10
   clear c10
   by_cases c11 : 0 ≤ x20_1
   rotate_left
   ·rw [if_neg c11] at H
    exact absurd H (by simp)
   rw [if_pos c11] at H
   have c11b0 : decide (0 ≤ x20_1) = true := decide_eq_true c11
   clear c11
   by_cases c12 : x20_1 < (l1.length : Int)
   rotate_left
   ·rw [if_neg c12] at H
    exact absurd H (by simp)
   rw [if_pos c12] at H
   have c12b0 : decide (x20_1 < (l1.length : Int)) = true := decide_eq_true c12
   clear c12
   obtain ⟨bq13, hbq13⟩ : ∃ b_ : Bool, b_ = ((rd_T42 l1 x20_1).f0) := ⟨_, rfl⟩
   replace H : (if bq13 = true then (if x20_1 < (x6_1.length : Int) then (if x7_1.length < 17592186044416 then (ints_Put.l0 k1 l0 l1 (x6_1.set (x20_1 : Int).toNat 1) (x7_1 ++ [(rd_T42 l1 x20_1).f1]) l1 (l1.length : Int) (wrap64 (x20_1 + 1))) else (none)) else (none)) else (ints_Put.l0 k1 l0 l1 x6_1 x7_1 l1 (l1.length : Int) (wrap64 (x20_1 + 1)))) = some (r1, r2) := by rw [← hbq13] at H; exact H
   have Nbq13 := Aside0.mk hbq13
   clear hbq13
   by_cases c14 : bq13 = true
   rotate_left
   ·replace c14 := Bool.eq_false_iff.mpr c14
    subst c14
    have H1 : (ints_Put.l0 k1 l0 l1 x6_1 x7_1 l1 (l1.length : Int) (wrap64 (x20_1 + 1))) = some (r1, r2) := by rw [if_neg (show ¬ (false = true) by decide)] at H; exact H
    clear H
    have H := H1
    clear H1
    have H' := Aside0.mk H
    clear H
    have p210 : 0 ≤ (x20_1 : Int) := od_
    have q210 : x20_1 < (l1.length : Int) := od_
    obtain ⟨ad210, e210, hx210_0, hx210_1⟩ := at_T42 HR1.out x20_1 p210 q210
    (try rw [← Nbq13.out] at hx210_0)
    cases e210
    replace hx210_0 := (HB.out.cell (World.block_lt_of_cell? w _ hx210_0)).trans hx210_0
    replace hx210_1 := (HB.out.cell (World.block_lt_of_cell? w _ hx210_1)).trans hx210_1
    replace p210 := eq_true p210
    replace q210 := eq_true q210
    go_wp2_with (first | ((with_reducible refine gate_dst (N := 9) rfl ?_); refine box_event ?hg (N := 9) ?hd (cs := #[.bool false, .int .i64 0]) (t := 42) ?hr ?_; (case hd => rfl); (case hg => rfl); (case hr => first | (go_simp; done) | (go_simp; rfl)); intro gb211 hg w26 hbox hb; have n0_ := Aside0.mk (Kd.R_below (Kd.ru_ HO_6.out) hb); have n1_ := Aside0.mk (Kd.R_below (Kd.ru_ HO_7.out) hb); have n2_ := Aside0.mk (below_step bw_ hb); have n3_ := Aside0.mk (hbox); have n4_ := Aside0.mk ((by rw [hg]; exact (pbS_ bw_) : w.heap.size ≤ gb211)); have n5_ := Aside0.mk ((by rw [hg]; exact (pbS_ bw_) : w.heap.size ≤ gb211)); clear HO_6; clear HO_7; clear HB; have HO_6 := n0_; have HO_7 := n1_; have HB := n2_; have BK211 := n3_; have GW211 := n4_; have GE211 := n5_; clear n0_ n1_ n2_ n3_ n4_ n5_; clear hb hbox hg; have hcz27_0 : w26.cell? ⟨gb211, 0, none⟩ = some (.bool false) := (blk_cell BK211.out 0).trans rfl; have hcz27_1 : w26.cell? ⟨gb211, 1, none⟩ = some (.int .i64 0) := (blk_cell BK211.out 1).trans rfl; have hfz27_0 := blk_frozen BK211.out 0; have hfz27_1 := blk_frozen BK211.out 1))
    go_roundg k1
    case measure => have := HK1.out; omega
    case rel => exact ⟨(x6_1), (x7_1), (wrap64 (x20_1 + 1)), (by first | rfl | (simp; done) | (simp [*]; done)), H', ⟨by have := HK1.out; omega⟩, ⟨by (with_reducible repeat (first | apply Kd.rA_ | apply Kd.rN_ | apply Kd.rD_)); exact Kd.R_mono (Kd.R_far (p := ⟨gb211, 1, none⟩) (Kd.R_far (p := ⟨gb211, 0, none⟩) (Kd.R_types HO_6.out BK211.out (by decide)) (fun _ hk => hk.2) (.bool false)) (fun _ hk => hk.2) (.int .i64 ((rd_T42 l1 x20_1).f1))) (fun _ hk => trivial)⟩, ⟨by (with_reducible repeat (first | apply Kd.rA_ | apply Kd.rN_ | apply Kd.rD_)); exact Kd.R_mono (Kd.R_far (p := ⟨gb211, 1, none⟩) (Kd.R_far (p := ⟨gb211, 0, none⟩) (Kd.R_types HO_7.out BK211.out (by decide)) (fun _ hk => hk.2) (.bool false)) (fun _ hk => hk.2) (.int .i64 ((rd_T42 l1 x20_1).f1))) (fun _ hk => trivial)⟩, ⟨by repeat (first | (with_reducible first | exact HB.out | apply pbA_ | apply pbN_ | apply pb1_ | refine below_set ?_ GE211.out) | exact HB.out)⟩⟩
   subst c14
   have H1 : (if x20_1 < (x6_1.length : Int) then (if x7_1.length < 17592186044416 then (ints_Put.l0 k1 l0 l1 (x6_1.set (x20_1 : Int).toNat 1) (x7_1 ++ [(rd_T42 l1 x20_1).f1]) l1 (l1.length : Int) (wrap64 (x20_1 + 1))) else (none)) else (none)) = some (r1, r2) := by rw [if_pos rfl] at H; exact H
   clear H
   have H := H1
   clear H1
   by_cases c15 : x20_1 < (x6_1.length : Int)
   rotate_left
   ·rw [if_neg c15] at H
    exact absurd H (by simp)
   rw [if_pos c15] at H
   have c15b0 : decide (x20_1 < (x6_1.length : Int)) = true := decide_eq_true c15
   clear c15
   obtain ⟨y212, hy212⟩ : ∃ y_ : List Int, y_ = (x6_1.set (x20_1 : Int).toNat 1) := ⟨_, rfl⟩
   replace H : (if x7_1.length < 17592186044416 then (ints_Put.l0 k1 l0 l1 y212 (x7_1 ++ [(rd_T42 l1 x20_1).f1]) l1 (l1.length : Int) (wrap64 (x20_1 + 1))) else (none)) = some (r1, r2) := by first | (rw [hy212]; with_reducible exact H) | (have H2_ := (Option.bind_some _ _).symm.trans H; rw [hy212]; with_reducible exact H2_) | (have H2_ := (Option.bind_some _ _).symm.trans H; with_reducible exact H2_) | with_reducible exact H | (rw [hy212]; exact H) | exact H
   have Ny212 := Aside0.mk hy212
   clear hy212
   by_cases c17 : x7_1.length < 17592186044416
   rotate_left
   ·rw [if_neg c17] at H
    exact absurd H (by simp)
   rw [if_pos c17] at H
   have LMc17 := Aside0.mk c17
   clear c17
   obtain ⟨y213, hy213⟩ : ∃ y_ : List Int, y_ = (x7_1 ++ [(rd_T42 l1 x20_1).f1]) := ⟨_, rfl⟩
   replace H : (ints_Put.l0 k1 l0 l1 y212 y213 l1 (l1.length : Int) (wrap64 (x20_1 + 1))) = some (r1, r2) := by first | (rw [hy213]; with_reducible exact H) | (have H2_ := (Option.bind_some _ _).symm.trans H; rw [hy213]; with_reducible exact H2_) | (have H2_ := (Option.bind_some _ _).symm.trans H; with_reducible exact H2_) | with_reducible exact H | (rw [hy213]; exact H) | exact H
   have Ny213 := Aside0.mk hy213
   clear hy213
   have H' := Aside0.mk H
   clear H
   have p210 : 0 ≤ (x20_1 : Int) := od_
   have q210 : x20_1 < (l1.length : Int) := od_
   obtain ⟨ad210, e210, hx210_0, hx210_1⟩ := at_T42 HR1.out x20_1 p210 q210
   (try rw [← Nbq13.out] at hx210_0)
   cases e210
   replace hx210_0 := (HB.out.cell (World.block_lt_of_cell? w _ hx210_0)).trans hx210_0
   replace hx210_1 := (HB.out.cell (World.block_lt_of_cell? w _ hx210_1)).trans hx210_1
   replace p210 := eq_true p210
   replace q210 := eq_true q210
   go_wp2_with (first | ((with_reducible refine gate_dst (N := 9) rfl ?_); refine box_event ?hg (N := 9) ?hd (cs := #[.bool false, .int .i64 0]) (t := 42) ?hr ?_; (case hd => rfl); (case hg => rfl); (case hr => first | (go_simp; done) | (go_simp; rfl)); intro gb211 hg w18 hbox hb; have n0_ := Aside0.mk (Kd.R_below (Kd.ru_ HO_6.out) hb); have n1_ := Aside0.mk (Kd.R_below (Kd.ru_ HO_7.out) hb); have n2_ := Aside0.mk (below_step bw_ hb); have n3_ := Aside0.mk (hbox); have n4_ := Aside0.mk ((by rw [hg]; exact (pbS_ bw_) : w.heap.size ≤ gb211)); have n5_ := Aside0.mk ((by rw [hg]; exact (pbS_ bw_) : w.heap.size ≤ gb211)); clear HO_6; clear HO_7; clear HB; have HO_6 := n0_; have HO_7 := n1_; have HB := n2_; have BK211 := n3_; have GW211 := n4_; have GE211 := n5_; clear n0_ n1_ n2_ n3_ n4_ n5_; clear hb hbox hg; have hcz19_0 : w18.cell? ⟨gb211, 0, none⟩ = some (.bool false) := (blk_cell BK211.out 0).trans rfl; have hcz19_1 : w18.cell? ⟨gb211, 1, none⟩ = some (.int .i64 0) := (blk_cell BK211.out 1).trans rfl; have hfz19_0 := blk_frozen BK211.out 0; have hfz19_1 := blk_frozen BK211.out 1) | ((with_reducible refine gate_store (t := 42) (p := 9) rfl ?_); refine store_event (t := 42) (p := 9) (v := ?vo_w20) (w1 := ((w18.setCell ⟨gb211, 0, none⟩ (.bool true)).setCell ⟨gb211, 1, none⟩ (.int .i64 ((rd_T42 l1 x20_1).f1)))) ?hg ?ho ?hn ?hr ?_; (case ho => rfl); (case hg => rfl); (case hn => rfl); (case hr => first | (go_simp; done) | (go_simp; rfl)); intro w20 hw; have n0_ : Aside0 (Kd.R (Kd.int .u64) 50 w20 w.heap.size (fun _ => True) v208 x6_1) := ⟨(by rw [hw]; exact (by (with_reducible repeat (first | apply Kd.rA_ | apply Kd.rN_ | apply Kd.rD_)); exact Kd.R_mono (Kd.R_far (p := ⟨gb211, 1, none⟩) (Kd.R_far (p := ⟨gb211, 0, none⟩) (Kd.R_types HO_6.out BK211.out (by decide)) (fun _ hk => hk.2) (.bool true)) (fun _ hk => hk.2) (.int .i64 ((rd_T42 l1 x20_1).f1))) (fun _ hk => trivial)))⟩; have n1_ : Aside0 (Kd.R (Kd.int .i64) 3 w20 w.heap.size (fun _ => True) u7 x7_1) := ⟨(by rw [hw]; exact (by (with_reducible repeat (first | apply Kd.rA_ | apply Kd.rN_ | apply Kd.rD_)); exact Kd.R_mono (Kd.R_far (p := ⟨gb211, 1, none⟩) (Kd.R_far (p := ⟨gb211, 0, none⟩) (Kd.R_types HO_7.out BK211.out (by decide)) (fun _ hk => hk.2) (.bool true)) (fun _ hk => hk.2) (.int .i64 ((rd_T42 l1 x20_1).f1))) (fun _ hk => trivial)))⟩; have n2_ : Aside0 (w20.heap[gb211]? = some (.cells #[.bool true, .int .i64 ((rd_T42 l1 x20_1).f1)] 42 (0, 0))) := ⟨(by rw [hw]; exact (by (with_reducible repeat (first | refine blk_drewN ?_ _ | refine blk_drew ?_ | refine blk_alloc ?_ _)); refine blk_put (cs := #[.bool true, .int .i64 0]) ?_ 1 _ rfl; (with_reducible repeat (first | refine blk_drewN ?_ _ | refine blk_drew ?_ | refine blk_alloc ?_ _)); refine blk_put (cs := #[.bool false, .int .i64 0]) ?_ 0 _ rfl; (with_reducible repeat (first | refine blk_drewN ?_ _ | refine blk_drew ?_ | refine blk_alloc ?_ _)); exact BK211.out))⟩; have n3_ : Aside0 (Below w.heap.size w w20) := ⟨(by rw [hw]; exact (by repeat (first | (with_reducible first | exact HB.out | apply pbA_ | apply pbN_ | apply pb1_ | refine below_set ?_ GE211.out) | exact HB.out)))⟩; clear hw; clear HO_6; clear HO_7; clear BK211; clear HB; have HO_6 := n0_; have HO_7 := n1_; have BK211 := n2_; have HB := n3_; clear n0_ n1_ n2_ n3_; have hcz21_0 : w20.cell? ⟨gb211, 0, none⟩ = some (.bool true) := (blk_cell BK211.out 0).trans rfl; have hcz21_1 : w20.cell? ⟨gb211, 1, none⟩ = some (.int .i64 ((rd_T42 l1 x20_1).f1)) := (blk_cell BK211.out 1).trans rfl; have hfz21_0 := blk_frozen BK211.out 0; have hfz21_1 := blk_frozen BK211.out 1; have p16 : 0 ≤ (x20_1 : Int) := od_; have q16 : (x20_1 : Int) < ((x6_1.length : Int) : Int) := od_; obtain ⟨go16, co16, eo16, gb16, gl16, cl16, HG16⟩ := Kd.R_form HO_6.out (by omega); (first | cases eo16 | (injection eo16 with ea_ en_ ec_; (first | subst ea_ | (injection ea_ with ea_; subst ea_)); subst ec_; clear en_)); have GB16 := Aside0.mk gb16; have GG16 := Aside0.mk HG16; clear gb16 gl16 HG16; obtain ⟨hx16_0, hf16_0⟩ := Kd.R_celln 0 HO_6.out (x20_1 : Int) p16 q16; replace p16 := eq_true p16; replace q16 := eq_true q16; obtain ⟨hy22_, hz22_⟩ := Kd.R_celln 0 HO_6.out (x20_1 : Int) od_ od_; have HP22 := Kd.R_putg HO_6.out (x20_1 : Int) 1) | ((with_reducible refine gate_store (t := 50) (p := 29) rfl ?_); refine store_event (t := 50) (p := 29) (v := ?vo_w23) (w1 := (w20.setCell ⟨go16, (x20_1 : Int).toNat, none⟩ (.int .u64 1))) ?hg ?ho ?hn ?hr ?_; (case ho => rfl); (case hg => rfl); (case hn => rfl); (case hr => first | (go_simp; done) | (go_simp; rfl)); intro w23 hw; have hg : w20.grownBy w23 (some go16) := (by rw [hw]; exact HP22.2); have hp_ : Kd.R (Kd.int .u64) 50 w23 w.heap.size (fun _ => True) (.slice (some ⟨go16, 0, none⟩) x6_1.length co16) y212 := (by rw [hw, Ny212.out]; exact HP22.1); clear HP22; have n0_ := Aside0.mk (hp_); have n1_ := Aside0.mk (Kd.R_over' (v := (.slice (some ⟨go16, 0, none⟩) x6_1.length co16)) (Kd.ru_ HO_7.out) (Kd.R_typed HO_6.out) (by decide) hg); have n2_ := Aside0.mk (blk_grown (g := gb211) (o := .cells #[.bool true, .int .i64 ((rd_T42 l1 x20_1).f1)] 42 (0, 0)) (by (with_reducible repeat (first | refine blk_drewN ?_ _ | refine blk_drew ?_ | refine blk_alloc ?_ _)); exact BK211.out) hg (Kd.R_ne HO_6.out BK211.out (by decide))); have n3_ := Aside0.mk ((by rw [hw]; exact below_set (HB.out) GB16.out : Below w.heap.size w w23)); clear HO_6; clear HO_7; clear BK211; clear HB; have HO_6 := n0_; have HO_7 := n1_; have BK211 := n2_; have HB := n3_; clear n0_ n1_ n2_ n3_; clear hg hw hp_; have hcz24_0 : w23.cell? ⟨gb211, 0, none⟩ = some (.bool true) := (blk_cell BK211.out 0).trans rfl; have hcz24_1 : w23.cell? ⟨gb211, 1, none⟩ = some (.int .i64 ((rd_T42 l1 x20_1).f1)) := (blk_cell BK211.out 1).trans rfl; have hfz24_0 := blk_frozen BK211.out 0; have hfz24_1 := blk_frozen BK211.out 1) | ((with_reducible refine gate_builtin (b := .append) (xs := #[.tmp 30, .tmp 33]) rfl ?_); at_builtin; refine Kd.R_append (Kd.int .i64) (w0 := w) w.heap.size rfl (.tmp 30) (.tmp 33) 39 3 (.int .i64 0) 8 rfl Try.underlying39 info3 rfl (by decide) (by omega) u7 x7_1 ((rd_T42 l1 x20_1).f1) [.int .i64 ((rd_T42 l1 x20_1).f1)] (fun _ => True) (fun _ => False) rfl rfl ?aP (fun _ hk => hk.elim) ?aF ?aO ?aB ?aS ?aL ?_; (case aP => exact rfl); (case aB => exact (by repeat (first | (with_reducible first | exact HB.out | apply pbA_ | apply pbN_ | apply pb1_ | refine below_set ?_ GE211.out) | exact HB.out))); (case aF => exact (fun _ _ => trivial)); (case aO => exact (Kd.ru_ HO_7.out)); (case aS => exact (pbS_ (by repeat (first | (with_reducible first | exact HB.out | apply pbA_ | apply pbN_ | apply pb1_ | refine below_set ?_ GE211.out) | exact HB.out)))); (case aL => have := LMc17.out; omega); intro v214 w25 ho hb hg hat; rw [← Ny213.out] at ho; have n0_ := Aside0.mk (Kd.R_over' (Kd.ru_ HO_6.out) (Kd.R_typed (Kd.ru_ HO_7.out)) (by decide) hg); have n1_ := Aside0.mk (blk_grown (g := gb211) (o := .cells #[.bool true, .int .i64 ((rd_T42 l1 x20_1).f1)] 42 (0, 0)) (by (with_reducible repeat (first | refine blk_drewN ?_ _ | refine blk_drew ?_ | refine blk_alloc ?_ _)); exact BK211.out) hg (Kd.R_ne HO_7.out BK211.out (by decide))); have n2_ := Aside0.mk (hb); have n3_ := Aside0.mk (ho); clear HO_6; clear BK211; clear HB; clear HO_7; have HO_6 := n0_; have BK211 := n1_; have HB := n2_; have HO215 := n3_; clear n0_ n1_ n2_ n3_; clear ho hb hg hat))
   go_roundg k1
   case measure => have := HK1.out; omega
   case rel => exact ⟨(y212), (y213), (wrap64 (x20_1 + 1)), (by first | rfl | (simp; done) | (simp [*]; done)), H', ⟨by have := HK1.out; omega⟩, ⟨Kd.ru_ HO_6.out⟩, ⟨Kd.ru_ HO215.out⟩, ⟨by repeat (first | (with_reducible first | exact HB.out | apply pbA_ | apply pbN_ | apply pb1_ | refine below_set ?_ GE211.out) | exact HB.out)⟩⟩
end Go.Proofs.Ytcjkmmajokkkfaa.P
end
section
namespace Go.Proofs.Ytcjkmmajokkkfaa.P
open Go.RowKit Go.Proofs.YtcjkmmajokkkfaaW.PrintWords Go.Proofs.YtcjkmmajokkkfaaW.PrintLast Go.Proofs.YtcjkmmajokkkfaaW.PrintMore
attribute [local go_sem] max2_int min2_int max_two min_two max_three min_three max_four min_four
set_option linter.unusedVariables false
set_option linter.unusedSimpArgs false
section
attribute [local go_sem] Oper.semAt_some
set_option maxHeartbeats 1000000 in
theorem zchunk_in (n : Nat) (A : Option Addr) (len cap : Nat) (w : World) :
  CallsIn Fence.wide n Try.prog 34 #[.slice A len cap, .int .i64 16] w fun e w' => e = .returned (.func (.func 55) #[] #[.pointer (some ⟨w.heap.size, 0, none⟩), .pointer (some ⟨w.heap.size + 1, 0, none⟩)]) ∧ w' = (w.alloc (.cells #[.slice A len cap] 23)).alloc (.cells #[.int .i64 16] 3) := by
 refine callsIn_of_wp Try.func34 rfl trivial ?_ rfl
 simp only [Try.ntmps34, List.size_toArray, List.length_cons, List.length_nil, Nat.reduceAdd, Nat.reduceSub, Array.replicate_succ, Array.replicate_zero, List.push_toArray, List.append_toArray, List.nil_append, List.cons_append]
 gi_wp2
 go_ret
 exact ⟨rfl, rfl⟩
abbrev ZChunkNo (len : Nat) := { j : Nat // 16 * j < len }
theorem zchunk_cut (a : Addr) (len cap s m : Nat) (hm : 0 < m) (hj : s + m ≤ len) (hc : len ≤ cap) (W : World) :
  (Instr.slice 23 (.slice (some a) len cap) (some (.int .i64 (s : Int))) (some (.int .i64 ((s : Int) + (m : Int)))) (some (.int .i64 ((s : Int) + (m : Int))))).run Try.prog W = .ok (.slice (some (a.add (s * 2))) m m) W := by
 obtain ⟨i0, hi0, _, hsz, _⟩ := info_parts info42
 have hel : Try.prog.elem 23 = 42 := by simp [Program.elem, Try.underlying23]
 have hu : Try.prog.underlying 23 = some (.slice (Try.prog.elem 23)) := by rw [hel]; exact Try.underlying23
 rw [run_slice_lhm W 23 (some a) len cap hu .i64 .i64 .i64 _ _ _ (by omega) (by omega) (by omega) (by omega), hel, ← Int.natCast_add, Int.toNat_natCast, Int.toNat_natCast]
 simp [sizeOf, typeInfo, hi0, hsz, sliced, Result.andThen]
 omega
theorem zchunk_tail (a : Addr) (len cap s : Nat) (hj : s < len) (hc : len ≤ cap) (W : World) :
  (Instr.slice 23 (.slice (some a) len cap) (some (.int .i64 (s : Int))) none none).run Try.prog W = .ok (.slice (some (a.add (s * 2))) (len - s) (cap - s)) W := by
 obtain ⟨i0, hi0, _, hsz, _⟩ := info_parts info42
 have hel : Try.prog.elem 23 = 42 := by simp [Program.elem, Try.underlying23]
 have hu : Try.prog.underlying 23 = some (.slice (Try.prog.elem 23)) := by rw [hel]; exact Try.underlying23
 rw [run_slice_l W 23 (some a) len cap hu .i64 _ (by omega) (by omega), hel, Int.toNat_natCast]
 simp [sizeOf, typeInfo, hi0, hsz, sliced, Result.andThen]
 omega
theorem zgrown_drewN (W : World) (n : Nat) : W.grownBy (W.drewN n) none := ⟨rfl, rfl, rfl, Nat.le_refl _, fun k _ _ => rfl⟩
def ZKpC (n₀ Bs Bn : Nat) (W W' : World) : Prop := Below n₀ W W' ∧ W'.heap[Bs]? = W.heap[Bs]? ∧ W'.heap[Bn]? = W.heap[Bn]?
theorem ZKpC.trans {n₀ Bs Bn : Nat} {A B C : World} (h : ZKpC n₀ Bs Bn A B) (k : ZKpC n₀ Bs Bn B C) : ZKpC n₀ Bs Bn A C := ⟨h.1.trans k.1, k.2.1.trans h.2.1, k.2.2.trans h.2.2⟩
theorem ZKpC.refl (n₀ Bs Bn : Nat) (W : World) : ZKpC n₀ Bs Bn W W := ⟨Below.refl _ _, rfl, rfl⟩
theorem ZKpC.drewN {n₀ Bs Bn : Nat} {A B : World} (h : ZKpC n₀ Bs Bn A B) (n : Nat) : ZKpC n₀ Bs Bn A (B.drewN n) := ⟨pbN_ h.1 n, h.2.1, h.2.2⟩
theorem ZKpC.cell1 {n₀ Bs Bn : Nat} {A B : World} (h : ZKpC n₀ Bs Bn A B) {v : Value} (hc : A.cell? ⟨Bs, 0, none⟩ = some v) : B.cell? ⟨Bs, 0, none⟩ = some v := by
 unfold World.cell? at hc ⊢
 simp only [h.2.1]
 exact hc
theorem ZKpC.cell2 {n₀ Bs Bn : Nat} {A B : World} (h : ZKpC n₀ Bs Bn A B) {v : Value} (hc : A.cell? ⟨Bn, 0, none⟩ = some v) : B.cell? ⟨Bn, 0, none⟩ = some v := by
 unfold World.cell? at hc ⊢
 simp only [h.2.2]
 exact hc
theorem zkpC_b {n₀ Bs Bn : Nat} {w : World} (hn : n₀ ≤ w.heap.size) (h1 : Bs < w.heap.size) (h2 : Bn < w.heap.size) (W : World) (l : Nat) (o o' : Obj) (hl : w.heap.size ≤ l) (h : W.heap[l]? = some o) (hc : o.isCells = false) (hw : o.isWalk = false) : ZKpC n₀ Bs Bn W (W.putObj l o') :=
 ⟨belowK_b hn W l o o' hl h hc hw, World.putObj_heap_other (by omega), World.putObj_heap_other (by omega)⟩
def zencChunk (a : Option Addr) (len : Nat) (x : ZChunkNo len) : Array Value := #[.slice (a.map (·.add (16 * x.1 * 2))) (min 16 (len - 16 * x.1)) (min 16 (len - 16 * x.1))]
set_option maxRecDepth 100000 in
set_option maxHeartbeats 2000000 in
theorem zchunk1_in (l Bs Bn n₀ : Nat) (a : Addr) (len cap : Nat) (hc : len ≤ cap) (hreach : len ≤ 140737488351216) (J Jx : List (ZChunkNo len) → World → Prop)
  (hY : ∀ pre x W, J pre W → pre.length < len → YieldAt Fence.wide 7 Try.prog l (zencChunk (some a) len x) W fun e W' =>
   (e = .returned (.bool true) ∧ J (pre ++ [x]) W' ∧ ZKpC n₀ Bs Bn W W') ∨ (e = .returned (.bool false) ∧ Jx (pre ++ [x]) W'))
  (B : Nat) (hA : AbidesFrom B J) (W : World) (hBs : W.cell? ⟨Bs, 0, none⟩ = some (.slice (some a) len cap)) (hBn : W.cell? ⟨Bn, 0, none⟩ = some (.int .i64 16)) (h0 : J [] W) :
  CallsIn Fence.wide 8 Try.prog 55 #[.func (.yield l) #[] #[], .pointer (some ⟨Bs, 0, none⟩), .pointer (some ⟨Bn, 0, none⟩)] W fun e W' => (∃ v, e = .returned v) ∧
   ((∃ ys : List (ZChunkNo len), ys.map (·.1) = List.range ((len + 15) / 16) ∧ J ys W') ∨ (∃ pre, True ∧ Jx pre W')) := by
 refine callsIn_of_wp Try.func55 rfl trivial ?_ rfl
 simp only [Try.ntmps55, List.size_toArray, List.length_cons, List.length_nil, Nat.reduceAdd, Nat.reduceSub, Array.replicate_succ, Array.replicate_zero, List.push_toArray, List.append_toArray, List.nil_append, List.cons_append]
 gi_wp2
 gi_loopw [4] (fun i wr => ∃ (k s : Nat) (pre : List (ZChunkNo len)), Aside0 (s = 16 * k) ∧ k ≤ (len + 15) / 16 ∧ i = .int .i64 (s : Int) ∧ pre.map (·.1) = List.range k ∧ J pre wr ∧ ZKpC n₀ Bs Bn W wr)
  (fun i _ => len + 16 - (intOf i).toNat)
 case atStart => exact ⟨0, 0, [], ⟨rfl⟩, Nat.zero_le _, rfl, rfl, h0, ZKpC.refl _ _ _ _⟩
 case round =>
  obtain ⟨k, s, pre, hs, hk, rfl, hpre, hJs, hnx⟩ := hrel
  have hcs : wr.cell? ⟨Bs, 0, none⟩ = some (.slice (some a) len cap) := hnx.cell1 hBs
  have hcn : wr.cell? ⟨Bn, 0, none⟩ = some (.int .i64 16) := hnx.cell2 hBn
  by_cases hlt : s < len
  rotate_left
  ·gi_wp2
   go_end0
   refine ⟨⟨_, rfl⟩, .inl ⟨pre, ?_, hJs⟩⟩
   rw [hpre, show k = (len + 15) / 16 by have := hs.out; omega]
  have hlt' : 16 * k < len := by have := hs.out; omega
  obtain ⟨m, hm⟩ : ∃ m : Nat, Aside0 (m = min 16 (len - s)) := ⟨_, ⟨rfl⟩⟩
  have hpl : Aside0 (pre.length = k) := ⟨by have := congrArg List.length hpre; simpa using this⟩
  have hPre := Aside0.mk hpre
  clear hpre
  have hcut := zchunk_cut a len cap s m (by have := hm.out; omega) (by have := hm.out; omega) hc
  obtain ⟨q, hq⟩ : ∃ q : Nat, Aside0 (q = len - s) := ⟨_, ⟨rfl⟩⟩
  have htail := zchunk_tail a len cap s hlt hc
  rw [← hq.out] at htail
  have hm0 : 0 < m := by have := hm.out; omega
  have hm1 : s + m ≤ len := by have := hm.out; omega
  have hmn : min 16 (q : Int) = (m : Int) := by have := hm.out; have := hq.out; omega
  have hmi : (if (q : Int) < 16 then (q : Int) else 16) = (m : Int) := by have := hm.out; have := hq.out; split <;> omega
  gi_wp2
  gi_quiet (fail)
  have hJ2 : J pre (wr.drewN nq) := hA pre wr _ none hJs (zgrown_drewN wr nq) (fun r e => by cases e)
  obtain ⟨fn, tmps, assign, body, hy, hR⟩ := hY pre ⟨k, hlt'⟩ (wr.drewN nq) hJ2 (by have := hpl.out; omega)
  have hy2 : (Instr.yield l #[.slice (some (a.add (s * 2))) m m]).run Try.prog (wr.drewN nq) = .ok (.round l fn tmps assign body) (wr.drewN nq) := by
   have e1 := hs.out
   have e2 := hm.out
   rw [e1] at e2
   rw [e1, e2]
   exact hy
  clear hy
  gi_wp2
  refine hR.mono ?_
  rintro e W3 (⟨rfl, hJ3, hk3⟩ | ⟨rfl, hJx3⟩)
  ·have hnx3 : ZKpC n₀ Bs Bn W W3 := (hnx.drewN nq).trans hk3
   have hcn3 : W3.cell? ⟨Bn, 0, none⟩ = some (.int .i64 16) := hnx3.cell2 hBn
   gi_wp2
   go_roundw
   case rel => exact ⟨k + 1, s + 16, pre ++ [⟨k, hlt'⟩], ⟨by have := hs.out; omega⟩, by omega, by simp, by rw [List.map_append, hPre.out, List.range_succ]; rfl, hJ3, hnx3⟩
   case measure => simp [intOf]; omega
  ·gi_wp2
   refine bodyPost_ret (results_none rfl _ _ _) rfl ?_
   exact ⟨⟨_, rfl⟩, .inr ⟨_, trivial, hJx3⟩⟩
set_option maxRecDepth 100000 in
set_option maxHeartbeats 1000000 in
theorem zchunk1_nil_in (l Bs Bn cap : Nat) {α : Type} (J : List α → World → Prop) (W : World) (hBs : W.cell? ⟨Bs, 0, none⟩ = some (.slice none 0 cap)) (h0 : J [] W) :
  CallsIn Fence.wide 8 Try.prog 55 #[.func (.yield l) #[] #[], .pointer (some ⟨Bs, 0, none⟩), .pointer (some ⟨Bn, 0, none⟩)] W fun e W' => (∃ v, e = .returned v) ∧ J [] W' := by
 refine callsIn_of_wp Try.func55 rfl trivial ?_ rfl
 simp only [Try.ntmps55, List.size_toArray, List.length_cons, List.length_nil, Nat.reduceAdd, Nat.reduceSub, Array.replicate_succ, Array.replicate_zero, List.push_toArray, List.append_toArray, List.nil_append, List.cons_append]
 gi_wp2
 gi_loopw [4] (fun i wr => i = .int .i64 0 ∧ wr.cell? ⟨Bs, 0, none⟩ = some (.slice none 0 cap) ∧ J [] wr) (fun _ _ => 0)
 case atStart => exact ⟨rfl, hBs, h0⟩
 case round =>
  obtain ⟨rfl, hc, hJs⟩ := hrel
  gi_wp2
  go_end0
  exact ⟨⟨_, rfl⟩, hJs⟩
theorem zchunk_stops (Bs Bn n₀ : Nat) (a : Option Addr) (len cap : Nat) (ha : a = none → len = 0) (hc : len ≤ cap) (hreach : len ≤ 140737488351216) (w : World) (hB : Bs < w.heap.size) (hB2 : Bn < w.heap.size)
  (hBs : w.cell? ⟨Bs, 0, none⟩ = some (.slice a len cap)) (hBn : w.cell? ⟨Bn, 0, none⟩ = some (.int .i64 16)) :
  SeqStopsK Fence.wide 8 Try.prog 55 #[.pointer (some ⟨Bs, 0, none⟩), .pointer (some ⟨Bn, 0, none⟩)] (zencChunk a len) (ZKpC n₀ Bs Bn) (fun ys => ys.map (·.1) = List.range ((len + 15) / 16)) (fun _ => True) len w := fun l J Jx W hW hJ _ hY h0 => by
 have h1 := (hW.cell (p := ⟨Bs, 0, none⟩) hB).trans hBs
 cases a with
 | none =>
  obtain rfl := ha rfl
  exact (zchunk1_nil_in l Bs Bn cap J W h1 h0).mono fun e W' ⟨he, hj⟩ => ⟨he, .inl ⟨[], rfl, hj⟩⟩
 | some a => exact zchunk1_in l Bs Bn n₀ a len cap hc hreach J Jx hY W.heap.size hJ W h1 ((hW.cell (p := ⟨Bn, 0, none⟩) hB2).trans hBn) h0
def ints_Zones.step (z : S38) (c : S42) : S38 := if c.f0 = false then z else if z.f0 = false then ⟨true, c.f1, c.f1⟩ else ⟨true, mn z.f1 c.f1, mx z.f2 c.f1⟩
def ints_Zones.zone (l : List S42) : S38 := l.foldl ints_Zones.step ⟨false, 0, 0⟩
def ints_Zones.chunk (l : List S42) (j : Nat) : List S42 := (l.drop (16 * j)).take 16
def ints_Zones.all (l : List S42) : List S38 := (List.range ((l.length + 15) / 16)).map (fun j => ints_Zones.zone (ints_Zones.chunk l j))
def ints_Zones.f (k : Nat) (l : List S42) : Option (List S38) := (ints_Formed.f k l).bind fun b => if b = true then if l.length ≤ 4096 then some (ints_Zones.all l) else none else some []
theorem ints_Zones.mono : ∀ l k, LeO (ints_Zones.f k l) (ints_Zones.f (k + 1) l) := by
 intro l k
 unfold ints_Zones.f
 exact LeO.bind (ints_Formed.mono _ _) (fun _ => LeO.refl _)
def zcells (z : S38) : List Value := [.bool z.f0, .int .i64 z.f1, .int .i64 z.f2]
def zsCells (l : List S38) : List Value := l.flatMap zcells
def ZBox (W : World) (B : Nat) (z : S38) : Prop := W.heap[B]? = some (.cells (zcells z).toArray 38 (0, 0))
theorem ZBox.lt {W : World} {B : Nat} {z : S38} (h : ZBox W B z) : B < W.heap.size := (Array.getElem?_eq_some_iff.1 h).1
theorem ZBox.c0 {W : World} {B : Nat} {z : S38} (h : ZBox W B z) : W.cell? ⟨B, 0, none⟩ = some (.bool z.f0) := by simp only [World.cell?, show W.heap[B]? = _ from h]; rfl
theorem ZBox.c1 {W : World} {B : Nat} {z : S38} (h : ZBox W B z) : W.cell? ⟨B, 1, none⟩ = some (.int .i64 z.f1) := by simp only [World.cell?, show W.heap[B]? = _ from h]; rfl
theorem ZBox.c2 {W : World} {B : Nat} {z : S38} (h : ZBox W B z) : W.cell? ⟨B, 2, none⟩ = some (.int .i64 z.f2) := by simp only [World.cell?, show W.heap[B]? = _ from h]; rfl
theorem ZBox.alloc {W : World} {B : Nat} {z : S38} (h : ZBox W B z) (o : Obj) : ZBox (W.alloc o) B z := (Below.heap_alloc W o B h.lt).trans h
theorem ZBox.frozen {W : World} {B : Nat} {z : S38} (h : ZBox W B z) (j : Nat) : W.frozen? ⟨B, j, none⟩ = false := by simp [World.frozen?, show W.heap[B]? = _ from h]
def ints_Zones.Held (w : World) (l0 : List S42) (u : Value) (B : Nat) (pre : List (ZChunkNo l0.length)) (W : World) : Prop :=
 (∃ (acc : List S38) (v : Value), Aside0 (acc.length = pre.length ∧ (pre.map (·.1) = List.range pre.length → acc = (List.range pre.length).map (fun j => ints_Zones.zone (ints_Zones.chunk l0 j)))) ∧ Boxed W B 35 v ∧ W.ownsRow w.heap.size 38 3 v acc.length (zsCells acc) ∧ Boxed W (B + 1) 23 u ∧ Boxed W (B + 2) 3 (.int .i64 16)) ∧ Below w.heap.size w W
theorem ints_Zones.held_own (w : World) (l0 : List S42) (u : Value) (B : Nat) (B0 : Nat) (h : w.heap.size ≤ B0) : OwnFrom B0 (ints_Zones.Held w l0 u B) := by
 refine OwnFrom.and (Own.from ?_ _) (ownFrom_below (Nat.le_refl _) h)
 rintro s X Y row ⟨acc, v, hp, hv, hR, hz1, hz2⟩ hg hrow
 obtain ⟨v', hv', hr', rfl⟩ := holdsRow_own (β := Unit) w.heap.size B 35 38 3 (fun _ => acc.length) (fun _ => zsCells acc) (fun _ u => u = v) () X Y row ⟨v, hv, hR, rfl⟩ hg hrow
 exact ⟨acc, _, hp, hv', hr', boxed_own (B + 1) 23 (fun _ => u) s X Y row hz1 hg hrow, boxed_own (B + 2) 3 (fun _ => .int .i64 16) s X Y row hz2 hg hrow⟩
theorem zchunk_reads {W : World} {a : Option Addr} {c1 : Nat} {l1 : List S42} (h : Kd.C k42 W a l1.length l1) (hc : l1.length ≤ c1) (j : Nat) (hj : 16 * j < l1.length) : Kd.C k42 W (a.map (·.add (16 * j * 2))) (ints_Zones.chunk l1 j).length (ints_Zones.chunk l1 j) := by
 unfold ints_Zones.chunk
 have h1 := Kd.C_drop (c := l1.length) h (show 16 * j ≤ l1.length by omega) (Nat.le_refl _)
 rw [if_neg (by omega), show k42.sz = 2 from rfl] at h1
 by_cases h2 : 16 ≤ (l1.drop (16 * j)).length
 ·exact Kd.C_take h1 h2
 ·rw [List.take_of_length_le (by omega)]
  exact h1
theorem zones_R {W : World} {base : Nat} {v : Value} {acc : List S38} (h : W.ownsRow base 38 3 v acc.length (zsCells acc)) : Kd.R k38 38 W base (fun _ => True) v acc := by
 have key : ∀ (ok : Nat → Prop) (l : List S38), Reps (k38.M W base ok) 3 l (zsCells l) := by
  intro ok l
  induction l with
  | nil => exact Reps.none _ _
  | cons x l ih => exact Kd.reps_append (Reps.snoc (Reps.none _ _) (k38_mkM W base ok x) rfl) ih
 exact ⟨fun _ _ => trivial, zsCells acc, h, key _ acc⟩
theorem ownsRow_below' {W W1 : World} {base e size n : Nat} {v : Value} {xs : List Value} (h : W.ownsRow base e size v n xs) (hb : Below W.heap.size W W1) : W1.ownsRow base e size v n xs := by
 obtain ⟨h1, h2⟩ := h
 refine ⟨h1, h2.imp id fun ⟨g, cap, cur, a1, a2, a3, a4⟩ => ⟨g, cap, cur, a1, a2, (hb.block g (Array.getElem?_eq_some_iff.1 a3).1).trans a3, a4⟩⟩
theorem zkeeps_below {W W' : World} (h : Below W.heap.size W W') : KeepsOthers W W' := ⟨h.size, fun k o hk _ => (h.block k (Array.getElem?_eq_some_iff.1 hk).1).trans hk⟩
theorem zinc {i : Nat} (h : i < 17592186044416) : wrap64 ((i : Int) + 1) = ((i + 1 : Nat) : Int) := by
 unfold wrap64
 omega
theorem ztake {ch : List S42} {m i : Nat} (h0 : ch.length = m) (_ : ch.length = m) (h : i < m) : ch.take (i + 1) = ch.take i ++ [rd_T42 ch (i : Int)] := by
 rw [List.take_succ_eq_append_getElem (by omega)]
 simp [rd_T42, show i < ch.length by omega]
theorem zbelow {Bz : Nat} {W wr : World} {o : Obj} (h : Below Bz W wr) (e : Bz = W.heap.size) : Below Bz W (wr.alloc o) := by
 subst e
 exact pbA_ h _
theorem ZBox.set0 {W : World} {B : Nat} {z : S38} (h : ZBox W B z) (b : Bool) : ZBox (W.setCell ⟨B, 0, none⟩ (.bool b)) B ⟨b, z.f1, z.f2⟩ := by
 unfold ZBox at h ⊢
 simp [World.setCell, Array.getElem?_modify, h, zcells]
theorem ZBox.set1 {W : World} {B : Nat} {z : S38} (h : ZBox W B z) (x : Int) : ZBox (W.setCell ⟨B, 1, none⟩ (.int .i64 x)) B ⟨z.f0, x, z.f2⟩ := by
 unfold ZBox at h ⊢
 simp [World.setCell, Array.getElem?_modify, h, zcells]
theorem ZBox.set2 {W : World} {B : Nat} {z : S38} (h : ZBox W B z) (x : Int) : ZBox (W.setCell ⟨B, 2, none⟩ (.int .i64 x)) B ⟨z.f0, z.f1, x⟩ := by
 unfold ZBox at h ⊢
 simp [World.setCell, Array.getElem?_modify, h, zcells]
theorem wpAnyIn_round {F : Fence} {n : Nat} {P : Program} {md : Region.Mode} {ops : Array Oper} {Q : Exit → Act → World → Prop} (hro : F.round = none) (l : Nat) (hd : ∀ (j : Nat) (o : Oper), ops[j]? = some o → ∀ c, o.op ≠ .defer c) :
  ∀ (fuel : Nat) (listed : Array Bool) (a : Act) (w : World), wpAnyIn F n P md ops Q fuel listed a w → wpAnyIn (F.inRound l) n P md ops Q fuel listed a w
 | 0, _, _, _, h => h
 | fuel + 1, listed, a, w, h => by
  refine ⟨h.1, fun i hi => ?_⟩
  have h2 := h.2 i hi
  have ih := fun a w => wpAnyIn_round (n := n) (P := P) (md := md) (ops := ops) (Q := Q) hro l hd fuel (listed.setIfInBounds i true) a w
  unfold wpOpIn at h2 ⊢
  cases ho : ops[i]? with
  | none => simp only [ho] at h2 ⊢; exact ih _ _ h2
  | some o =>
   simp only [ho] at h2 ⊢
   split
   ·rename_i hw
    simp only [hw, if_true] at h2
    refine ⟨h2.1, ?_⟩
    have h3 := h2.2
    rw [hro, Oper.semAt_none] at h3
    rw [show (F.inRound l).round = some l from rfl, Oper.semAt_some l _ _ (hd i o ho)]
    generalize (execOp a.eval o).run P w = r at h3 ⊢
    cases r with
    | ok x w' =>
     cases x <;> simp only [Oper.uponIn] at h3 ⊢
     case value u => exact ih _ _ h3
     case skip => exact ih _ _ h3
     case defer d => exact ih _ _ h3
     case enter f args => exact ⟨h3.1, CallsIn.inRound l (CallsIn.mono h3.2 fun e w'' he => by
      cases e with
      | returned u => exact ih _ _ he
      | panicked c => exact he
      | outgrown => exact he)⟩
     case row row args => exact ⟨h3.1, RowsIn.mono h3.2 fun u w'' he => ih _ _ he⟩
     case round l2 f tmps assign body => exact ⟨h3.1, RoundIn.mono h3.2 fun e w'' he => by
      cases e with
      | returned u => exact ih _ _ he
      | panicked c => exact he
      | outgrown => exact he⟩
    | halt x w' => cases x <;> simp only [Oper.uponIn] at h3 ⊢ <;> exact h3
   ·rename_i hw
    simp only [hw] at h2
    exact ⟨h2.1, ih _ _ h2.2⟩
theorem wpAnyIn_taken {F : Fence} {n : Nat} {P : Program} {md : Region.Mode} {ops : Array Oper} {Q : Exit → Act → World → Prop} {i : Nat} {N : Option Tmp} {oi : Oper} {v : Value} {fuel : Nat} {listed : Array Bool} {a : Act} {w : World} (l' : Array Bool) (hro : F.round = none) (hi : ops[i]? = some oi) (hN : oi.dst = N)
  (hs : (Region.noSelect ops && Region.free md ops listed i && (Region.ready md ops listed).contains i && (listed.setIfInBounds i true == l')) = true)
  (hQ : ∀ c a w, Q (.panic c) (a.put oi.dst v) w → Q (.panic c) a w) (hy : YieldsFenced P ops oi v a) {a' : Act} (ha : a.put N v = a')
  (h : wpAnyIn F n P md ops Q fuel l' a' w) : wpAnyIn F n P md ops Q (fuel + 1) listed a w := by
 subst ha
 subst hN
 simp only [Bool.and_eq_true, beq_iff_eq] at hs
 obtain ⟨⟨⟨h1, h2⟩, h3⟩, h6⟩ := hs
 subst h6
 exact wpAnyIn_take hro hi h1 h2 h3 hQ hy h
theorem allReadyIn_step {F : Fence} {n : Nat} {P : Program} {md : Region.Mode} {ops : Array Oper} {Q : Exit → Act → World → Prop} {i : Nat} {N : Option Tmp} {oi : Oper} {fuel : Nat} {listed : Array Bool} {a : Act} {w : World} {rs : List Nat} (l' : Array Bool) (hi : ops[i]? = some oi) (hN : oi.dst = N) (hl : (listed.setIfInBounds i true == l') = true)
  (h : ∀ K' : Act → World → Prop, (∀ a w, wpAnyIn F n P md ops Q fuel l' a w → K' a w) → if Region.wanted oi (yielded ops a.tmps) = true then Oper.wpIn F n P oi a w K' Q else (∀ f, oi.about P w a.eval = some f → F.fn f) ∧ K' (a.put N undef) w)
  (hs : AllReadyIn F n P md ops Q fuel listed a w rs) : AllReadyIn F n P md ops Q fuel listed a w (i :: rs) := by
 subst hN
 have hl := beq_iff_eq.1 hl
 subst hl
 exact AllReadyIn.cons hi (fun K hK => h K hK) hs
theorem noDefer {ops : Array Oper} (h : ops.all (fun o => match o.op with | .defer _ => false | _ => true) = true) : ∀ (j : Nat) (o : Oper), ops[j]? = some o → ∀ c, o.op ≠ .defer c := by
 intro j o ho c e
 obtain ⟨hj, rfl⟩ := Array.getElem?_eq_some_iff.1 ho
 have h1 := Array.all_eq_true.1 h j hj
 rw [e] at h1
 cases h1
theorem memoJ {J' : Nat → Array Bool → Act → World → Prop} {fuel : Nat} {l : Array Bool} {a : Act} {w : World} (h : ∀ J, J = J' → ∀ a0, a0 = a → ∀ w0, w0 = w → J fuel l a0 w0) : J' fuel l a w := h _ rfl _ rfl _ rfl
theorem cells_three_new (w : World) (x y z : Value) (t : TypeId) : ∀ j u, [x, y, z][j]? = some u → (w.alloc (.cells #[x, y, z] t)).cell? ((⟨w.heap.size, 0, none⟩ : Addr).add j) = some u := by
 intro j u hj
 have hb_ := World.alloc_heap_new w (.cells #[x, y, z] t)
 match j, hj with
 | 0, hj =>
  simp at hj
  subst hj
  rw [show (⟨w.heap.size, 0, none⟩ : Addr).add 0 = ⟨w.heap.size, 0, none⟩ by simp [Addr.add]]
  simp only [World.cell?, hb_]
  rfl
 | 1, hj =>
  simp at hj
  subst hj
  rw [show (⟨w.heap.size, 0, none⟩ : Addr).add 1 = ⟨w.heap.size, 1, none⟩ by simp [Addr.add]]
  simp only [World.cell?, hb_]
  rfl
 | 2, hj =>
  simp at hj
  subst hj
  rw [show (⟨w.heap.size, 0, none⟩ : Addr).add 2 = ⟨w.heap.size, 2, none⟩ by simp [Addr.add]]
  simp only [World.cell?, hb_]
  rfl
set_option maxRecDepth 100000 in
set_option maxHeartbeats 4000000 in
theorem ints_Zones.calls (k : Nat) (A0 : Option Addr) (c0 : Nat) (l0 : List S42) (r : List S38) (w : World) (hr0 : Kd.C k42 w A0 l0.length l0) (hc0 : l0.length ≤ c0) (h : ints_Zones.f k l0 = some r) :
  Calls Try.prog 18 #[.slice A0 l0.length c0] w fun e w' => ∃ v0_ : Value, e = .returned (v0_) ∧ Kd.R k38 38 w' w.heap.size (fun _ => True) v0_ r ∧ Below w.heap.size w w' := by
 have HR0 := Aside0.mk hr0
 have HC0 := Aside0.mk hc0
 clear hr0 hc0
 unfold ints_Zones.f at h
 obtain ⟨b, hb, h⟩ := Option.bind_eq_some_iff.1 h
 have HBF := Aside0.mk hb
 clear hb
 cases b with
 | false =>
  rw [if_neg (by decide)] at h
  obtain rfl := Option.some.inj h
  go_enter Try.func18, Try.ntmps18
  go_wp2_with (first | (go_at_call 15; (with_reducible refine (ints_Formed.calls k _ _ l0 false _ ?side1 ?side2 HBF.out).mono ?_); (case side1 => exact HR0.out); (case side2 => exact HC0.out); rintro e w' ⟨rfl, hd⟩))
  go_ret
  exact ⟨_, rfl, Kd.R_nil _ _ _ _ _, by first | exact hd | exact hd.below⟩
 | true =>
  rw [if_pos rfl] at h
  by_cases hlen : l0.length ≤ 4096
  case neg => rw [if_neg hlen] at h; cases h
  rw [if_pos hlen] at h
  have HH := Aside0.mk (Option.some.inj h)
  have HL := Aside0.mk hlen
  have hnone : A0 = none → l0.length = 0 := by
   rintro rfl
   rcases Nat.eq_zero_or_pos l0.length with h_ | h_
   ·exact h_
   ·obtain ⟨ad, e, _⟩ := HR0.out.2.2 h_
    cases e
  clear h hlen
  refine (callsIn_wide (n := 9)).1 ?_
  refine callsIn_of_wp_marks Try.func18 rfl trivial ?_ rfl
  simp only [Try.ntmps18, List.size_toArray, List.length_cons, List.length_nil, Nat.reduceAdd, Nat.reduceSub, Array.replicate_succ, Array.replicate_zero, List.push_toArray, List.append_toArray, List.nil_append, List.cons_append]
  gi_wp2_with (first | (refine ⟨trivial, ?_⟩; gi_at_call 15; (with_reducible refine (callsIn_wide.2 (ints_Formed.calls k A0 c0 l0 true w HR0.out HC0.out HBF.out)).mono ?_); rintro e w1 ⟨rfl, hd⟩; have HD := Aside0.mk (show Below w.heap.size w w1 by first | exact hd | exact hd.below); clear hd) | (refine ⟨trivial, ?_⟩; gi_at_call 34; (with_reducible refine (zchunk_in _ A0 l0.length c0 _).mono ?_); rintro e w2 ⟨rfl, rfl⟩) | fail)
  obtain ⟨n1, hn1⟩ : ∃ n1 : Nat, Aside0 (n1 = w1.heap.size) := ⟨_, ⟨rfl⟩⟩
  have hsz : w.heap.size ≤ n1 := by rw [hn1.out]; exact HD.out.size
  obtain ⟨W0, hW0⟩ : ∃ W0, Aside0 (W0 = ((w1.alloc (Obj.cells #[Value.slice none 0 0] 35)).alloc (Obj.cells #[Value.slice A0 l0.length c0] 23)).alloc (Obj.cells #[Value.int IntKind.i64 16] 3)) := ⟨_, ⟨rfl⟩⟩
  have hW0s : W0.heap.size = n1 + 3 := by rw [hW0.out, hn1.out]; simp
  have hBel : Below w.heap.size w W0 := by rw [hW0.out]; exact pbA_ (pbA_ (pbA_ HD.out _) _) _
  have hb0 : Boxed W0 n1 35 (.slice none 0 0) := by rw [hW0.out, hn1.out]; exact ((Boxed.new w1 35 _).alloc _).alloc _
  have hb1 : Boxed W0 (n1 + 1) 23 (.slice A0 l0.length c0) := by
   have h_ := (Boxed.new (w1.alloc (Obj.cells #[Value.slice none 0 0] 35)) 23 (.slice A0 l0.length c0)).alloc (Obj.cells #[Value.int IntKind.i64 16] 3)
   rw [World.size_alloc] at h_
   rw [hW0.out, hn1.out]
   exact h_
  have hb2 : Boxed W0 (n1 + 2) 3 (.int .i64 16) := by
   have h_ := Boxed.new ((w1.alloc (Obj.cells #[Value.slice none 0 0] 35)).alloc (Obj.cells #[Value.slice A0 l0.length c0] 23)) 3 (.int .i64 16)
   rw [World.size_alloc, World.size_alloc] at h_
   rw [hW0.out, hn1.out]
   exact h_
  have hc1' := hb1.cell
  have hc2' := hb2.cell
  rw [← hW0.out, ← hn1.out]
  refine wpIn_rangeFunc_ownF (F := Fence.wide) rfl (by decide) (gf := 55) (lb := #[.pointer (some ⟨n1 + 1, 0, none⟩), .pointer (some ⟨n1 + 2, 0, none⟩)]) rfl trivial (enters_of Try.func55 (by kernel_rfl) rfl)
   (zchunk_stops (n1 + 1) (n1 + 2) w.heap.size A0 l0.length c0 hnone HC0.out (by have := HL.out; omega) W0 (by omega) (by omega) hc1' hc2') (fun h k => ZKpC.trans h k) (zkpC_b (by omega) (by omega) (by omega)) (Below.refl _ _) (fun _ => rfl)
   (ints_Zones.Held w l0 (.slice A0 l0.length c0) n1) (fun _ _ _ => False) (ints_Zones.held_own w l0 (.slice A0 l0.length c0) n1 W0.heap.size (by omega)) (fun _ _ _ _ _ hs _ _ => hs)
   ⟨⟨[], _, ⟨rfl, fun _ => rfl⟩, hb0, ⟨rfl, .inl ⟨rfl, rfl⟩⟩, hb1, hb2⟩, hBel⟩
   (fun x => { tmps := #[Value.slice A0 l0.length c0, undef, Value.slice none 0 0,
     Value.pointer (some { block := n1, off := 0 }), .slice (A0.map (·.add (16 * x.1 * 2))) (min 16 (l0.length - 16 * x.1)) (min 16 (l0.length - 16 * x.1)), undef, undef, undef,
     Value.slice A0 l0.length c0, Value.bool true, Value.bool false, Value.slice A0 l0.length c0,
     Value.func (Fn.func 55) #[] #[Value.pointer (some { block := n1 + 1, off := 0 }), Value.pointer (some { block := n1 + 1 + 1, off := 0 })],
     .slice (A0.map (·.add (16 * x.1 * 2))) (min 16 (l0.length - 16 * x.1)) (min 16 (l0.length - 16 * x.1)), undef, undef, undef, undef, undef, undef, undef, undef, undef, undef, undef, undef, undef, undef,
     undef, undef, undef, undef, undef, undef, undef, undef, undef, undef, undef, undef, undef, undef, undef,
     undef, undef, undef, undef, undef, undef, undef, undef], defers := [] }) ?assign ?body ?done ?stop
  case assign =>
   intro l x W K hK
   dsimp only [zencChunk]
   gi_wp2
   exact hK
  case stop =>
   intro D c pre W _ _ h _
   exact h.elim
  case body =>
   rintro l pre x W ⟨⟨acc, v, hp, hv, hR, hbx1, hbx2⟩, hB⟩ hlen
   have hch := zchunk_reads HR0.out HC0.out x.1 x.2
   have hcl : (ints_Zones.chunk l0 x.1).length = min 16 (l0.length - 16 * x.1) := by simp [ints_Zones.chunk]
   obtain ⟨m, hm⟩ : ∃ m, min 16 (l0.length - 16 * x.1) = m := ⟨_, rfl⟩
   obtain ⟨A, hA⟩ : ∃ A, A0.map (·.add (16 * x.1 * 2)) = A := ⟨_, rfl⟩
   obtain ⟨ch, hchd⟩ : ∃ ch, ints_Zones.chunk l0 x.1 = ch := ⟨_, rfl⟩
   rw [hm, hchd] at hcl
   rw [hA, hchd, hcl] at hch
   rw [hm, hA]
   have HCH := Aside0.mk hch
   have HCL := Aside0.mk hcl
   have HM := Aside0.mk (show m ≤ 16 by omega)
   have HV := Aside0.mk hv
   have HRR := Aside0.mk hR
   have HB := Aside0.mk hB
   have HP := Aside0.mk hp
   have HX1 := Aside0.mk hbx1
   have HX2 := Aside0.mk hbx2
   clear hch hcl hm hv hR hB hp hbx1 hbx2
   gi_wp2
   obtain ⟨Bz, hBz⟩ : ∃ Bz : Nat, Aside0 (Bz = W.heap.size) := ⟨_, ⟨rfl⟩⟩
   rw [← hBz.out]
   gi_loopw [16] (fun v16 wr => ∃ (i : Nat) (z : S38), v16 = .int .i64 (i : Int) ∧ Aside0 (i ≤ m) ∧ Aside0 (z = (ch.take i).foldl ints_Zones.step ⟨false, 0, 0⟩) ∧ Aside0 (ZBox wr Bz z ∧ Below Bz W wr)) (fun i _ => m - (intOf i).toNat)
   case atStart => exact ⟨0, ⟨false, 0, 0⟩, rfl, ⟨Nat.zero_le _⟩, ⟨rfl⟩, ⟨by rw [hBz.out]; exact World.alloc_heap_new W _, by rw [hBz.out]; exact pbA_ (Below.refl _ _) _⟩⟩
   case round =>
    obtain ⟨i, z, rfl, hi, hz, hW⟩ := hrel
    by_cases hlt : i < m
    rotate_left
    ·have g : decide ((i : Int) < (m : Int)) = false := decide_eq_false (by omega)
     have hcv := (hW.out.2.cell (p := ⟨n1, 0, none⟩) (by rw [hBz.out]; exact HV.out.lt)).trans HV.out.cell
     obtain ⟨z0_, z1_, z2_⟩ := z
     have hz0 := hW.out.1.c0
     have hz1 := hW.out.1.c1
     have hz2 := hW.out.1.c2
     dsimp only at hz0 hz1 hz2
     have hzE : z0_ = (ints_Zones.zone ch).f0 ∧ z1_ = (ints_Zones.zone ch).f1 ∧ z2_ = (ints_Zones.zone ch).f2 := by
      have h1 := hz.out
      have h2 := hi.out
      rw [List.take_of_length_le (by have := HCL.out; omega)] at h1
      have h3 : ints_Zones.zone ch = ⟨z0_, z1_, z2_⟩ := h1.symm
      rw [h3]
      exact ⟨rfl, rfl, rfl⟩
     have HZE := Aside0.mk hzE
     clear hzE
     have hbz := hW.out.2
     rw [hBz.out] at hbz
     have hv2 : Boxed wr n1 35 v := (hbz.block n1 HV.out.lt).trans HV.out
     have hrow := ownsRow_below' HRR.out hbz
     have hx1 : Boxed wr (n1 + 1) 23 (.slice A0 l0.length c0) := (hbz.block _ HX1.out.lt).trans HX1.out
     have hx2 : Boxed wr (n1 + 2) 3 (.int .i64 16) := (hbz.block _ HX2.out.lt).trans HX2.out
     have hsW : w.heap.size ≤ W.heap.size := HB.out.size
     have hsr : W.heap.size ≤ wr.heap.size := hbz.size
     have HBZ := Aside0.mk hbz
     have HROW := Aside0.mk hrow
     have HV2 := Aside0.mk hv2
     have HY1 := Aside0.mk hx1
     have HY2 := Aside0.mk hx2
     obtain ⟨i0, hi0, hzz, hsz0, hby⟩ := info_parts info38
     have HI0 := Aside0.mk (And.intro hi0 (And.intro hzz (And.intro hsz0 hby)))
     have HLEN := Aside0.mk hlen
     clear hbz hrow hv2 hx1 hx2 hi0 hzz hsz0 hby hlen
     gi_wp2_with (first | (gi_at_builtin; refine wpListIn_append_own _ rfl _ _ 35 rfl w.heap.size 38 i0 _ 3 24 Try.underlying35 HI0.out.1 HI0.out.2.1 HI0.out.2.2.1 HI0.out.2.2.2 rfl (by decide) _ _ _ rfl (HROW.out.alloc _) ⟨wr.heap.size, 0, none⟩ 1 1 [.bool z0_, .int .i64 z1_, .int .i64 z2_] rfl rfl (cells_three_new _ _ _ _ _) (by simp [Value.oneCell']) ?b1 ?b2 ?b3 ?_; (case b1 => have := HP.out.1; have := HLEN.out; have := HL.out; unfold maxLen; omega); (case b2 => have := HP.out.1; have := HLEN.out; have := HL.out; omega); (case b3 => simp; omega); intro v' w1 hown' hgrow _; obtain ⟨g', cap', rfl⟩ := ownsRow_succ hown'; obtain ⟨hv1, hv2, hr2, hk2, hb2⟩ := HV2.out.appended (by decide) HROW.out (by omega) (by omega) hown' hgrow; have hc1 := hv1.cell; have hf1 := hv1.frozen; have HGR := Aside0.mk hgrow; have HRES := Aside0.mk (And.intro hv2 (And.intro hr2 (And.intro hk2 hb2))); clear hv1 hv2 hr2 hk2 hb2 hgrow hown') | fail)
     obtain ⟨e0, e1, e2⟩ := HZE.out
     obtain ⟨hq1, hq2, hq3, hq4⟩ := HRES.out
     have hy1 : Boxed w1 (n1 + 1) 23 (.slice A0 l0.length c0) := (HY1.out.alloc _).kept HGR.out (HY1.out.not_row (by decide) HROW.out)
     have hy2 : Boxed w1 (n1 + 2) 3 (.int .i64 16) := (HY2.out.alloc _).kept HGR.out (HY2.out.not_row (by decide) HROW.out)
     have hy1 := (Below.heap_setCell w1 ⟨n1, 0, none⟩ (Value.slice (some { block := g', off := 0 }) (acc.length + 1) cap') (n1 + 1) (by simp)).trans hy1
     have hy2 := (Below.heap_setCell w1 ⟨n1, 0, none⟩ (Value.slice (some { block := g', off := 0 }) (acc.length + 1) cap') (n1 + 2) (by simp)).trans hy2
     have hbf := (HBZ.out.mono hsW).trans hq4
     refine ⟨(zkeeps_below HBZ.out).trans hq3, ⟨hbf, hy1.trans HX1.out.symm, hy2.trans HX2.out.symm⟩, ⟨acc ++ [ints_Zones.zone ch], _, ⟨?_, fun he => ?_⟩, hq1, ?_, hy1, hy2⟩, HB.out.trans hbf⟩
     ·rw [List.length_append, List.length_append, HP.out.out.1]; rfl
     ·rw [List.map_append, List.length_append, List.length_singleton, List.map_cons, List.map_nil, List.range_succ] at he
      obtain ⟨h3, h4⟩ := List.append_inj' he rfl
      have h5 : x.1 = pre.length := by simpa using h4
      rw [List.length_append, List.length_singleton, List.range_succ, List.map_append, ← HP.out.out.2 h3, ← hchd, h5]
      rfl
     ·rw [List.length_append, List.length_singleton, show zsCells (acc ++ [ints_Zones.zone ch]) = zsCells acc ++ [Value.bool z0_, Value.int IntKind.i64 z1_, Value.int IntKind.i64 z2_] by simp [zsCells, zcells, ← e0, ← e1, ← e2]]
      exact hq2
    have g : decide ((i : Int) < (m : Int)) = true := decide_eq_true (by omega)
    obtain ⟨ad, e, hx0, hx1⟩ := at_T42 HCH.out (i : Int) (by omega) (by omega)
    subst e
    have hx0 := (HB.out.cell (World.block_lt_of_cell? w _ hx0)).trans hx0
    have hx1 := (HB.out.cell (World.block_lt_of_cell? w _ hx1)).trans hx1
    rw [Int.toNat_natCast] at hx0 hx1
    have hx0 := (hW.out.2.cell (by rw [hBz.out]; exact World.block_lt_of_cell? W _ hx0)).trans hx0
    have hx1 := (hW.out.2.cell (by rw [hBz.out]; exact World.block_lt_of_cell? W _ hx1)).trans hx1
    have p := eq_true (show (0 : Int) ≤ (i : Int) by omega)
    have q := eq_true (show (i : Int) < (m : Int) by omega)
    have q' := eq_true hlt
    obtain ⟨c, hc⟩ : ∃ c, rd_T42 ch (i : Int) = c := ⟨_, rfl⟩
    rw [hc] at hx0 hx1
    obtain ⟨c0_, c1_⟩ := c
    obtain ⟨z0_, z1_, z2_⟩ := z
    dsimp only at hx0 hx1
    have hz0 : ∀ o, (wr.alloc o).cell? ⟨Bz, 0, none⟩ = some (.bool z0_) := fun o => (hW.out.1.alloc o).c0
    have hz1 : ∀ o, (wr.alloc o).cell? ⟨Bz, 1, none⟩ = some (.int .i64 z1_) := fun o => (hW.out.1.alloc o).c1
    have hz2 : ∀ o, (wr.alloc o).cell? ⟨Bz, 2, none⟩ = some (.int .i64 z2_) := fun o => (hW.out.1.alloc o).c2
    have hzf : ∀ o j, (wr.alloc o).frozen? ⟨Bz, j, none⟩ = false := fun o j => (hW.out.1.alloc o).frozen j
    cases c0_ with
    | false =>
     gi_wp2
     go_roundw
     case rel => exact ⟨i + 1, _, by rw [zinc (by have := HM.out; omega)], ⟨hlt⟩, ⟨by rw [ztake HCH.out.1 HCL.out hlt, List.foldl_append, ← hz.out]; simp [ints_Zones.step, hc]⟩, ⟨hW.out.1.alloc _, zbelow hW.out.2 hBz.out⟩⟩
     case measure => rw [zinc (by have := HM.out; omega)]; simp [intOf]; omega
    | true =>
     cases z0_ with
     | false =>
      gi_wp2
      go_roundw
      case rel => exact ⟨i + 1, ⟨true, c1_, c1_⟩, by rw [zinc (by have := HM.out; omega)], ⟨hlt⟩, ⟨by rw [ztake HCH.out.1 HCL.out hlt, List.foldl_append, ← hz.out]; simp [ints_Zones.step, hc]⟩, ⟨(((hW.out.1.alloc _).set0 true).set1 c1_).set2 c1_, (((zbelow hW.out.2 hBz.out).setCell (p := ⟨Bz, 0, none⟩) (Nat.le_refl _) _).setCell (p := ⟨Bz, 1, none⟩) (Nat.le_refl _) _).setCell (p := ⟨Bz, 2, none⟩) (Nat.le_refl _) _⟩⟩
      case measure => rw [zinc (by have := HM.out; omega)]; simp [intOf]; omega
     | true =>
      gi_wp2
      obtain ⟨wc, hwc⟩ : ∃ wc, wr.alloc (Obj.cells #[Value.bool true, Value.int IntKind.i64 c1_] 42) = wc := ⟨_, rfl⟩
      obtain ⟨Bc, hBc⟩ : ∃ Bc, wr.heap.size = Bc := ⟨_, rfl⟩
      have hbox : ZBox wc Bz ⟨true, z1_, z2_⟩ := by rw [← hwc]; exact hW.out.1.alloc _
      have hbw : Below Bz W wc := by rw [← hwc]; exact zbelow hW.out.2 hBz.out
      have hcx : wc.cell? ⟨Bc, 1, none⟩ = some (.int .i64 c1_) := by
       rw [← hwc, ← hBc]
       have hb_ := World.alloc_heap_new wr (Obj.cells #[Value.bool true, Value.int IntKind.i64 c1_] 42)
       simp only [World.cell?, hb_]
       rfl
      have hne : Bc ≠ Bz := by have := hW.out.1.lt; omega
      rw [hwc, hBc]
      clear hz0 hz1 hz2 hzf
      have hz1 := hbox.c1
      have hz2 := hbox.c2
      have hf1 := hbox.frozen 1
      have hf2 := hbox.frozen 2
      dsimp only at hz1 hz2
      have HBX := Aside0.mk (And.intro hbox hbw)
      clear hbox hbw hwc hBc
      refine wpIn_region_any (by kernel_rfl) ?_
      change wpAnyIn _ _ _ _ _ _ 14 #[false, false, false, false, false, false, false, false, false, false, false, false, false, false] _ (World.drew _)
      refine wpAnyIn_round (F := Fence.wide) rfl l (fun j o ho c e => ?df) _ _ _ _ ?_
      case df => exact noDefer (by kernel_rfl) j o ho c e
      refine memoJ (fun J hJ a0 ha0 w0 hw0 => ?_)
      have HJ := Aside0.mk hJ
      have HA0 := Aside0.mk ha0
      have hx1 : w0.cell? ⟨Bz, 1, none⟩ = some (.int .i64 z1_) := by rw [hw0]; exact hz1
      have hx2 : w0.cell? ⟨Bz, 2, none⟩ = some (.int .i64 z2_) := by rw [hw0]; exact hz2
      have hxc : w0.cell? ⟨Bc, 1, none⟩ = some (.int .i64 c1_) := by rw [hw0]; exact hcx
      have hxf1 : w0.frozen? ⟨Bz, 1, none⟩ = false := by rw [hw0]; exact hf1
      have hxf2 : (w0.setCell ⟨Bz, 1, none⟩ (.int .i64 (mn z1_ c1_))).frozen? ⟨Bz, 2, none⟩ = false := by rw [hw0]; exact ((show ZBox wc.drew Bz ⟨true, z1_, z2_⟩ from HBX.out.1).set1 _).frozen 2
      have hxc2 : (w0.setCell ⟨Bz, 1, none⟩ (.int .i64 (mn z1_ c1_))).cell? ⟨Bc, 1, none⟩ = some (.int .i64 c1_) := (World.cell?_setCell_other _ _ _ _ (by intro h; simp only [Addr.mk.injEq] at h; omega)).trans hxc
      have hxe1 : ∃ u, w0.cell? ⟨Bz, 1, none⟩ = some u := ⟨_, hx1⟩
      have HEND := Aside0.mk (And.intro (show ZBox ((w0.setCell ⟨Bz, 1, none⟩ (.int .i64 (mn z1_ c1_))).setCell ⟨Bz, 2, none⟩ (.int .i64 (mx z2_ c1_))) Bz ⟨true, mn z1_ c1_, mx z2_ c1_⟩ by rw [hw0]; exact ((show ZBox wc.drew Bz ⟨true, z1_, z2_⟩ from HBX.out.1).set1 _).set2 _) (show Below Bz W ((w0.setCell ⟨Bz, 1, none⟩ (.int .i64 (mn z1_ c1_))).setCell ⟨Bz, 2, none⟩ (.int .i64 (mx z2_ c1_))) by rw [hw0]; exact ((show Below Bz W wc.drew from pb1_ HBX.out.2).setCell (p := ⟨Bz, 1, none⟩) (Nat.le_refl _) _).setCell (p := ⟨Bz, 2, none⟩) (Nat.le_refl _) _))
      clear hw0 hz1 hz2 hcx hf1 hf2
      clear hJ ha0
      have h_1_3_6_8_11_13 : J 0 #[true, true, true, true, true, true, true, true, true, true, true, true, true, true] ((((((((((((a0.put (some 20) (.pointer (some ⟨Bz, 1, none⟩))).put (some 21) (.int .i64 z1_)).put (some 22) (.pointer (some ⟨Bc, 1, none⟩))).put (some 23) (.int .i64 c1_)).put (some 24) (.int .i64 (mn z1_ c1_))).put (some 25) (.pointer (some ⟨Bz, 2, none⟩))).put (some 26) (.int .i64 z2_)).put (some 27) (.pointer (some ⟨Bc, 1, none⟩))).put (some 28) (.int .i64 c1_)).put (some 29) (.int .i64 (mx z2_ c1_))).put (some 30) (.pointer (some ⟨Bz, 1, none⟩))).put (some 31) (.pointer (some ⟨Bz, 2, none⟩))) ((w0.setCell ⟨Bz, 1, none⟩ (.int .i64 (mn z1_ c1_))).setCell ⟨Bz, 2, none⟩ (.int .i64 (mx z2_ c1_))) := by
       rw [HJ.out, HA0.out]
       simp only [Act.put, List.setIfInBounds_toArray, List.set_cons_zero, List.set_cons_succ, i64_w, i32_w]
       refine wpAnyIn_done (by kernel_rfl) ?_ _
       gi_wp2
       go_roundw
       case rel => exact ⟨i + 1, ⟨true, mn z1_ c1_, mx z2_ c1_⟩, by rw [zinc (by have := HM.out; omega)], ⟨hlt⟩, ⟨by rw [ztake HCH.out.1 HCL.out hlt, List.foldl_append, ← hz.out]; simp [ints_Zones.step, hc]⟩, ⟨HEND.out⟩⟩
       case measure => rw [zinc (by have := HM.out; omega)]; simp [intOf]; omega
      rw [HJ.out, HA0.out] at h_1_3_6_8_11_13
      simp only [Act.put, List.setIfInBounds_toArray, List.set_cons_zero, List.set_cons_succ, i64_w, i32_w] at h_1_3_6_8_11_13
      have h_1_3_6_8_11 : J 1 #[true, true, true, true, true, true, true, true, true, true, true, true, true, false] ((((((((((((a0.put (some 20) (.pointer (some ⟨Bz, 1, none⟩))).put (some 21) (.int .i64 z1_)).put (some 22) (.pointer (some ⟨Bc, 1, none⟩))).put (some 23) (.int .i64 c1_)).put (some 24) (.int .i64 (mn z1_ c1_))).put (some 25) (.pointer (some ⟨Bz, 2, none⟩))).put (some 26) (.int .i64 z2_)).put (some 27) (.pointer (some ⟨Bc, 1, none⟩))).put (some 28) (.int .i64 c1_)).put (some 29) (.int .i64 (mx z2_ c1_))).put (some 30) (.pointer (some ⟨Bz, 1, none⟩))).put (some 31) (.pointer (some ⟨Bz, 2, none⟩))) (w0.setCell ⟨Bz, 1, none⟩ (.int .i64 (mn z1_ c1_))) := by
       rw [HJ.out, HA0.out]
       simp only [Act.put, List.setIfInBounds_toArray, List.set_cons_zero, List.set_cons_succ, i64_w, i32_w]
       refine wpAnyIn_ready (rs := [13]) (by kernel_rfl) (by simp) ?_
       refine allReadyIn_step (i := 13) (N := none) #[tT,tT,tT,tT,tT,tT,tT,tT,tT,tT,tT,tT,tT,tT] rfl rfl (by kernel_rfl) (fun K hK => ?_) ?_
       ·go_simp
        refine hK _ _ ?_
        clear hK K
        try simp only [Act.put, List.setIfInBounds_toArray, List.set_cons_zero, List.set_cons_succ, i64_w, i32_w]
        exact h_1_3_6_8_11_13
       exact AllReadyIn.nil
      rw [HJ.out, HA0.out] at h_1_3_6_8_11
      simp only [Act.put, List.setIfInBounds_toArray, List.set_cons_zero, List.set_cons_succ, i64_w, i32_w] at h_1_3_6_8_11
      have h_1_3_6_8 : J 3 #[true, true, true, true, true, true, true, true, true, true, true, false, false, false] (((((((((((a0.put (some 20) (.pointer (some ⟨Bz, 1, none⟩))).put (some 21) (.int .i64 z1_)).put (some 22) (.pointer (some ⟨Bc, 1, none⟩))).put (some 23) (.int .i64 c1_)).put (some 24) (.int .i64 (mn z1_ c1_))).put (some 25) (.pointer (some ⟨Bz, 2, none⟩))).put (some 26) (.int .i64 z2_)).put (some 27) (.pointer (some ⟨Bc, 1, none⟩))).put (some 28) (.int .i64 c1_)).put (some 29) (.int .i64 (mx z2_ c1_))).put (some 30) (.pointer (some ⟨Bz, 1, none⟩))) w0 := by
       rw [HJ.out, HA0.out]
       simp only [Act.put, List.setIfInBounds_toArray, List.set_cons_zero, List.set_cons_succ, i64_w, i32_w]
       refine wpAnyIn_ready (rs := [11]) (by kernel_rfl) (by simp) ?_
       refine allReadyIn_step (i := 11) (N := none) #[tT,tT,tT,tT,tT,tT,tT,tT,tT,tT,tT,tT,fF,fF] rfl rfl (by kernel_rfl) (fun K hK => ?_) ?_
       ·go_simp
        refine hK _ _ ?_
        clear hK K
        try simp only [Act.put, List.setIfInBounds_toArray, List.set_cons_zero, List.set_cons_succ, i64_w, i32_w]
        refine wpAnyIn_taken (i := 12) (N := (some 31)) (v := ?_) (a' := ?_) #[tT,tT,tT,tT,tT,tT,tT,tT,tT,tT,tT,tT,tT,fF] rfl rfl rfl (by kernel_rfl) (fun _ _ _ h => h) ⟨Or.inl ⟨by rfl, ?_⟩, fun _ => rfl⟩ ?_ ?_
        rotate_left
        ·intro w'
         go_simp
         with_reducible rfl
        rotate_left
        ·simp only [Act.put, List.setIfInBounds_toArray, List.set_cons_zero, List.set_cons_succ, i64_w, i32_w]
         rfl
        exact h_1_3_6_8_11
       exact AllReadyIn.nil
      rw [HJ.out, HA0.out] at h_1_3_6_8
      simp only [Act.put, List.setIfInBounds_toArray, List.set_cons_zero, List.set_cons_succ, i64_w, i32_w] at h_1_3_6_8
      have h_1_3_6_11 : J 4 #[true, true, true, true, true, true, true, true, false, false, true, true, false, false] (((((((((a0.put (some 20) (.pointer (some ⟨Bz, 1, none⟩))).put (some 21) (.int .i64 z1_)).put (some 22) (.pointer (some ⟨Bc, 1, none⟩))).put (some 23) (.int .i64 c1_)).put (some 24) (.int .i64 (mn z1_ c1_))).put (some 25) (.pointer (some ⟨Bz, 2, none⟩))).put (some 26) (.int .i64 z2_)).put (some 27) (.pointer (some ⟨Bc, 1, none⟩))).put (some 30) (.pointer (some ⟨Bz, 1, none⟩))) (w0.setCell ⟨Bz, 1, none⟩ (.int .i64 (mn z1_ c1_))) := by
       rw [HJ.out, HA0.out]
       simp only [Act.put, List.setIfInBounds_toArray, List.set_cons_zero, List.set_cons_succ, i64_w, i32_w]
       refine wpAnyIn_ready (rs := [8]) (by kernel_rfl) (by simp) ?_
       refine allReadyIn_step (i := 8) (N := (some 28)) #[tT,tT,tT,tT,tT,tT,tT,tT,tT,fF,tT,tT,fF,fF] rfl rfl (by kernel_rfl) (fun K hK => ?_) ?_
       ·go_simp
        refine hK _ _ ?_
        clear hK K
        try simp only [Act.put, List.setIfInBounds_toArray, List.set_cons_zero, List.set_cons_succ, i64_w, i32_w]
        refine wpAnyIn_taken (i := 9) (N := (some 29)) (v := ?_) (a' := ?_) #[tT,tT,tT,tT,tT,tT,tT,tT,tT,tT,tT,tT,fF,fF] rfl rfl rfl (by kernel_rfl) (fun _ _ _ h => h) ⟨Or.inl ⟨by rfl, ?_⟩, fun _ => rfl⟩ ?_ ?_
        rotate_left
        ·intro w'
         go_simp
         with_reducible rfl
        rotate_left
        ·simp only [Act.put, List.setIfInBounds_toArray, List.set_cons_zero, List.set_cons_succ, i64_w, i32_w]
         rfl
        refine wpAnyIn_taken (i := 12) (N := (some 31)) (v := ?_) (a' := ?_) #[tT,tT,tT,tT,tT,tT,tT,tT,tT,tT,tT,tT,tT,fF] rfl rfl rfl (by kernel_rfl) (fun _ _ _ h => h) ⟨Or.inl ⟨by rfl, ?_⟩, fun _ => rfl⟩ ?_ ?_
        rotate_left
        ·intro w'
         go_simp
         with_reducible rfl
        rotate_left
        ·simp only [Act.put, List.setIfInBounds_toArray, List.set_cons_zero, List.set_cons_succ, i64_w, i32_w]
         rfl
        exact h_1_3_6_8_11
       exact AllReadyIn.nil
      rw [HJ.out, HA0.out] at h_1_3_6_11
      simp only [Act.put, List.setIfInBounds_toArray, List.set_cons_zero, List.set_cons_succ, i64_w, i32_w] at h_1_3_6_11
      have h_1_3_6 : J 5 #[true, true, true, true, true, true, true, true, false, false, true, false, false, false] (((((((((a0.put (some 20) (.pointer (some ⟨Bz, 1, none⟩))).put (some 21) (.int .i64 z1_)).put (some 22) (.pointer (some ⟨Bc, 1, none⟩))).put (some 23) (.int .i64 c1_)).put (some 24) (.int .i64 (mn z1_ c1_))).put (some 25) (.pointer (some ⟨Bz, 2, none⟩))).put (some 26) (.int .i64 z2_)).put (some 27) (.pointer (some ⟨Bc, 1, none⟩))).put (some 30) (.pointer (some ⟨Bz, 1, none⟩))) w0 := by
       rw [HJ.out, HA0.out]
       simp only [Act.put, List.setIfInBounds_toArray, List.set_cons_zero, List.set_cons_succ, i64_w, i32_w]
       refine wpAnyIn_ready (rs := [8, 11]) (by kernel_rfl) (by simp) ?_
       refine allReadyIn_step (i := 8) (N := (some 28)) #[tT,tT,tT,tT,tT,tT,tT,tT,tT,fF,tT,fF,fF,fF] rfl rfl (by kernel_rfl) (fun K hK => ?_) ?_
       ·go_simp
        refine hK _ _ ?_
        clear hK K
        try simp only [Act.put, List.setIfInBounds_toArray, List.set_cons_zero, List.set_cons_succ, i64_w, i32_w]
        refine wpAnyIn_taken (i := 9) (N := (some 29)) (v := ?_) (a' := ?_) #[tT,tT,tT,tT,tT,tT,tT,tT,tT,tT,tT,fF,fF,fF] rfl rfl rfl (by kernel_rfl) (fun _ _ _ h => h) ⟨Or.inl ⟨by rfl, ?_⟩, fun _ => rfl⟩ ?_ ?_
        rotate_left
        ·intro w'
         go_simp
         with_reducible rfl
        rotate_left
        ·simp only [Act.put, List.setIfInBounds_toArray, List.set_cons_zero, List.set_cons_succ, i64_w, i32_w]
         rfl
        exact h_1_3_6_8
       refine allReadyIn_step (i := 11) (N := none) #[tT,tT,tT,tT,tT,tT,tT,tT,fF,fF,tT,tT,fF,fF] rfl rfl (by kernel_rfl) (fun K hK => ?_) ?_
       ·go_simp
        refine hK _ _ ?_
        clear hK K
        try simp only [Act.put, List.setIfInBounds_toArray, List.set_cons_zero, List.set_cons_succ, i64_w, i32_w]
        exact h_1_3_6_11
       exact AllReadyIn.nil
      rw [HJ.out, HA0.out] at h_1_3_6
      simp only [Act.put, List.setIfInBounds_toArray, List.set_cons_zero, List.set_cons_succ, i64_w, i32_w] at h_1_3_6
      have h_3_6_8 : J 6 #[true, false, true, true, false, true, true, true, true, true, false, false, false, false] ((((((((a0.put (some 20) (.pointer (some ⟨Bz, 1, none⟩))).put (some 22) (.pointer (some ⟨Bc, 1, none⟩))).put (some 23) (.int .i64 c1_)).put (some 25) (.pointer (some ⟨Bz, 2, none⟩))).put (some 26) (.int .i64 z2_)).put (some 27) (.pointer (some ⟨Bc, 1, none⟩))).put (some 28) (.int .i64 c1_)).put (some 29) (.int .i64 (mx z2_ c1_))) w0 := by
       rw [HJ.out, HA0.out]
       simp only [Act.put, List.setIfInBounds_toArray, List.set_cons_zero, List.set_cons_succ, i64_w, i32_w]
       refine wpAnyIn_ready (rs := [1]) (by kernel_rfl) (by simp) ?_
       refine allReadyIn_step (i := 1) (N := (some 21)) #[tT,tT,tT,tT,fF,tT,tT,tT,tT,tT,fF,fF,fF,fF] rfl rfl (by kernel_rfl) (fun K hK => ?_) ?_
       ·go_simp
        refine hK _ _ ?_
        clear hK K
        try simp only [Act.put, List.setIfInBounds_toArray, List.set_cons_zero, List.set_cons_succ, i64_w, i32_w]
        refine wpAnyIn_taken (i := 4) (N := (some 24)) (v := ?_) (a' := ?_) #[tT,tT,tT,tT,tT,tT,tT,tT,tT,tT,fF,fF,fF,fF] rfl rfl rfl (by kernel_rfl) (fun _ _ _ h => h) ⟨Or.inl ⟨by rfl, ?_⟩, fun _ => rfl⟩ ?_ ?_
        rotate_left
        ·intro w'
         go_simp
         with_reducible rfl
        rotate_left
        ·simp only [Act.put, List.setIfInBounds_toArray, List.set_cons_zero, List.set_cons_succ, i64_w, i32_w]
         rfl
        refine wpAnyIn_taken (i := 10) (N := (some 30)) (v := ?_) (a' := ?_) #[tT,tT,tT,tT,tT,tT,tT,tT,tT,tT,tT,fF,fF,fF] rfl rfl rfl (by kernel_rfl) (fun _ _ _ h => h) ⟨Or.inl ⟨by rfl, ?_⟩, fun _ => rfl⟩ ?_ ?_
        rotate_left
        ·intro w'
         go_simp
         with_reducible rfl
        rotate_left
        ·simp only [Act.put, List.setIfInBounds_toArray, List.set_cons_zero, List.set_cons_succ, i64_w, i32_w]
         rfl
        exact h_1_3_6_8
       exact AllReadyIn.nil
      rw [HJ.out, HA0.out] at h_3_6_8
      simp only [Act.put, List.setIfInBounds_toArray, List.set_cons_zero, List.set_cons_succ, i64_w, i32_w] at h_3_6_8
      have h_1_6_8 : J 6 #[true, true, true, false, false, true, true, true, true, true, false, false, false, false] ((((((((a0.put (some 20) (.pointer (some ⟨Bz, 1, none⟩))).put (some 21) (.int .i64 z1_)).put (some 22) (.pointer (some ⟨Bc, 1, none⟩))).put (some 25) (.pointer (some ⟨Bz, 2, none⟩))).put (some 26) (.int .i64 z2_)).put (some 27) (.pointer (some ⟨Bc, 1, none⟩))).put (some 28) (.int .i64 c1_)).put (some 29) (.int .i64 (mx z2_ c1_))) w0 := by
       rw [HJ.out, HA0.out]
       simp only [Act.put, List.setIfInBounds_toArray, List.set_cons_zero, List.set_cons_succ, i64_w, i32_w]
       refine wpAnyIn_ready (rs := [3]) (by kernel_rfl) (by simp) ?_
       refine allReadyIn_step (i := 3) (N := (some 23)) #[tT,tT,tT,tT,fF,tT,tT,tT,tT,tT,fF,fF,fF,fF] rfl rfl (by kernel_rfl) (fun K hK => ?_) ?_
       ·go_simp
        refine hK _ _ ?_
        clear hK K
        try simp only [Act.put, List.setIfInBounds_toArray, List.set_cons_zero, List.set_cons_succ, i64_w, i32_w]
        refine wpAnyIn_taken (i := 4) (N := (some 24)) (v := ?_) (a' := ?_) #[tT,tT,tT,tT,tT,tT,tT,tT,tT,tT,fF,fF,fF,fF] rfl rfl rfl (by kernel_rfl) (fun _ _ _ h => h) ⟨Or.inl ⟨by rfl, ?_⟩, fun _ => rfl⟩ ?_ ?_
        rotate_left
        ·intro w'
         go_simp
         with_reducible rfl
        rotate_left
        ·simp only [Act.put, List.setIfInBounds_toArray, List.set_cons_zero, List.set_cons_succ, i64_w, i32_w]
         rfl
        refine wpAnyIn_taken (i := 10) (N := (some 30)) (v := ?_) (a' := ?_) #[tT,tT,tT,tT,tT,tT,tT,tT,tT,tT,tT,fF,fF,fF] rfl rfl rfl (by kernel_rfl) (fun _ _ _ h => h) ⟨Or.inl ⟨by rfl, ?_⟩, fun _ => rfl⟩ ?_ ?_
        rotate_left
        ·intro w'
         go_simp
         with_reducible rfl
        rotate_left
        ·simp only [Act.put, List.setIfInBounds_toArray, List.set_cons_zero, List.set_cons_succ, i64_w, i32_w]
         rfl
        exact h_1_3_6_8
       exact AllReadyIn.nil
      rw [HJ.out, HA0.out] at h_1_6_8
      simp only [Act.put, List.setIfInBounds_toArray, List.set_cons_zero, List.set_cons_succ, i64_w, i32_w] at h_1_6_8
      have h_1_3_8 : J 6 #[true, true, true, true, true, true, false, true, true, false, false, false, false, false] ((((((((a0.put (some 20) (.pointer (some ⟨Bz, 1, none⟩))).put (some 21) (.int .i64 z1_)).put (some 22) (.pointer (some ⟨Bc, 1, none⟩))).put (some 23) (.int .i64 c1_)).put (some 24) (.int .i64 (mn z1_ c1_))).put (some 25) (.pointer (some ⟨Bz, 2, none⟩))).put (some 27) (.pointer (some ⟨Bc, 1, none⟩))).put (some 28) (.int .i64 c1_)) w0 := by
       rw [HJ.out, HA0.out]
       simp only [Act.put, List.setIfInBounds_toArray, List.set_cons_zero, List.set_cons_succ, i64_w, i32_w]
       refine wpAnyIn_ready (rs := [6]) (by kernel_rfl) (by simp) ?_
       refine allReadyIn_step (i := 6) (N := (some 26)) #[tT,tT,tT,tT,tT,tT,tT,tT,tT,fF,fF,fF,fF,fF] rfl rfl (by kernel_rfl) (fun K hK => ?_) ?_
       ·go_simp
        refine hK _ _ ?_
        clear hK K
        try simp only [Act.put, List.setIfInBounds_toArray, List.set_cons_zero, List.set_cons_succ, i64_w, i32_w]
        refine wpAnyIn_taken (i := 9) (N := (some 29)) (v := ?_) (a' := ?_) #[tT,tT,tT,tT,tT,tT,tT,tT,tT,tT,fF,fF,fF,fF] rfl rfl rfl (by kernel_rfl) (fun _ _ _ h => h) ⟨Or.inl ⟨by rfl, ?_⟩, fun _ => rfl⟩ ?_ ?_
        rotate_left
        ·intro w'
         go_simp
         with_reducible rfl
        rotate_left
        ·simp only [Act.put, List.setIfInBounds_toArray, List.set_cons_zero, List.set_cons_succ, i64_w, i32_w]
         rfl
        refine wpAnyIn_taken (i := 10) (N := (some 30)) (v := ?_) (a' := ?_) #[tT,tT,tT,tT,tT,tT,tT,tT,tT,tT,tT,fF,fF,fF] rfl rfl rfl (by kernel_rfl) (fun _ _ _ h => h) ⟨Or.inl ⟨by rfl, ?_⟩, fun _ => rfl⟩ ?_ ?_
        rotate_left
        ·intro w'
         go_simp
         with_reducible rfl
        rotate_left
        ·simp only [Act.put, List.setIfInBounds_toArray, List.set_cons_zero, List.set_cons_succ, i64_w, i32_w]
         rfl
        exact h_1_3_6_8
       exact AllReadyIn.nil
      rw [HJ.out, HA0.out] at h_1_3_8
      simp only [Act.put, List.setIfInBounds_toArray, List.set_cons_zero, List.set_cons_succ, i64_w, i32_w] at h_1_3_8
      have h_6_8 : J 7 #[true, false, true, false, false, true, true, true, true, true, false, false, false, false] (((((((a0.put (some 20) (.pointer (some ⟨Bz, 1, none⟩))).put (some 22) (.pointer (some ⟨Bc, 1, none⟩))).put (some 25) (.pointer (some ⟨Bz, 2, none⟩))).put (some 26) (.int .i64 z2_)).put (some 27) (.pointer (some ⟨Bc, 1, none⟩))).put (some 28) (.int .i64 c1_)).put (some 29) (.int .i64 (mx z2_ c1_))) w0 := by
       rw [HJ.out, HA0.out]
       simp only [Act.put, List.setIfInBounds_toArray, List.set_cons_zero, List.set_cons_succ, i64_w, i32_w]
       refine wpAnyIn_ready (rs := [1, 3]) (by kernel_rfl) (by simp) ?_
       refine allReadyIn_step (i := 1) (N := (some 21)) #[tT,tT,tT,fF,fF,tT,tT,tT,tT,tT,fF,fF,fF,fF] rfl rfl (by kernel_rfl) (fun K hK => ?_) ?_
       ·go_simp
        refine hK _ _ ?_
        clear hK K
        try simp only [Act.put, List.setIfInBounds_toArray, List.set_cons_zero, List.set_cons_succ, i64_w, i32_w]
        exact h_1_6_8
       refine allReadyIn_step (i := 3) (N := (some 23)) #[tT,fF,tT,tT,fF,tT,tT,tT,tT,tT,fF,fF,fF,fF] rfl rfl (by kernel_rfl) (fun K hK => ?_) ?_
       ·go_simp
        refine hK _ _ ?_
        clear hK K
        try simp only [Act.put, List.setIfInBounds_toArray, List.set_cons_zero, List.set_cons_succ, i64_w, i32_w]
        exact h_3_6_8
       exact AllReadyIn.nil
      rw [HJ.out, HA0.out] at h_6_8
      simp only [Act.put, List.setIfInBounds_toArray, List.set_cons_zero, List.set_cons_succ, i64_w, i32_w] at h_6_8
      have h_1_3 : J 7 #[true, true, true, true, true, true, false, true, false, false, false, false, false, false] (((((((a0.put (some 20) (.pointer (some ⟨Bz, 1, none⟩))).put (some 21) (.int .i64 z1_)).put (some 22) (.pointer (some ⟨Bc, 1, none⟩))).put (some 23) (.int .i64 c1_)).put (some 24) (.int .i64 (mn z1_ c1_))).put (some 25) (.pointer (some ⟨Bz, 2, none⟩))).put (some 27) (.pointer (some ⟨Bc, 1, none⟩))) w0 := by
       rw [HJ.out, HA0.out]
       simp only [Act.put, List.setIfInBounds_toArray, List.set_cons_zero, List.set_cons_succ, i64_w, i32_w]
       refine wpAnyIn_ready (rs := [6, 8]) (by kernel_rfl) (by simp) ?_
       refine allReadyIn_step (i := 6) (N := (some 26)) #[tT,tT,tT,tT,tT,tT,tT,tT,fF,fF,fF,fF,fF,fF] rfl rfl (by kernel_rfl) (fun K hK => ?_) ?_
       ·go_simp
        refine hK _ _ ?_
        clear hK K
        try simp only [Act.put, List.setIfInBounds_toArray, List.set_cons_zero, List.set_cons_succ, i64_w, i32_w]
        refine wpAnyIn_taken (i := 10) (N := (some 30)) (v := ?_) (a' := ?_) #[tT,tT,tT,tT,tT,tT,tT,tT,fF,fF,tT,fF,fF,fF] rfl rfl rfl (by kernel_rfl) (fun _ _ _ h => h) ⟨Or.inl ⟨by rfl, ?_⟩, fun _ => rfl⟩ ?_ ?_
        rotate_left
        ·intro w'
         go_simp
         with_reducible rfl
        rotate_left
        ·simp only [Act.put, List.setIfInBounds_toArray, List.set_cons_zero, List.set_cons_succ, i64_w, i32_w]
         rfl
        exact h_1_3_6
       refine allReadyIn_step (i := 8) (N := (some 28)) #[tT,tT,tT,tT,tT,tT,fF,tT,tT,fF,fF,fF,fF,fF] rfl rfl (by kernel_rfl) (fun K hK => ?_) ?_
       ·go_simp
        refine hK _ _ ?_
        clear hK K
        try simp only [Act.put, List.setIfInBounds_toArray, List.set_cons_zero, List.set_cons_succ, i64_w, i32_w]
        exact h_1_3_8
       exact AllReadyIn.nil
      rw [HJ.out, HA0.out] at h_1_3
      simp only [Act.put, List.setIfInBounds_toArray, List.set_cons_zero, List.set_cons_succ, i64_w, i32_w] at h_1_3
      have h_3_8 : J 8 #[true, false, true, true, false, true, false, true, true, false, false, false, false, false] ((((((a0.put (some 20) (.pointer (some ⟨Bz, 1, none⟩))).put (some 22) (.pointer (some ⟨Bc, 1, none⟩))).put (some 23) (.int .i64 c1_)).put (some 25) (.pointer (some ⟨Bz, 2, none⟩))).put (some 27) (.pointer (some ⟨Bc, 1, none⟩))).put (some 28) (.int .i64 c1_)) w0 := by
       rw [HJ.out, HA0.out]
       simp only [Act.put, List.setIfInBounds_toArray, List.set_cons_zero, List.set_cons_succ, i64_w, i32_w]
       refine wpAnyIn_ready (rs := [1, 6]) (by kernel_rfl) (by simp) ?_
       refine allReadyIn_step (i := 1) (N := (some 21)) #[tT,tT,tT,tT,fF,tT,fF,tT,tT,fF,fF,fF,fF,fF] rfl rfl (by kernel_rfl) (fun K hK => ?_) ?_
       ·go_simp
        refine hK _ _ ?_
        clear hK K
        try simp only [Act.put, List.setIfInBounds_toArray, List.set_cons_zero, List.set_cons_succ, i64_w, i32_w]
        refine wpAnyIn_taken (i := 4) (N := (some 24)) (v := ?_) (a' := ?_) #[tT,tT,tT,tT,tT,tT,fF,tT,tT,fF,fF,fF,fF,fF] rfl rfl rfl (by kernel_rfl) (fun _ _ _ h => h) ⟨Or.inl ⟨by rfl, ?_⟩, fun _ => rfl⟩ ?_ ?_
        rotate_left
        ·intro w'
         go_simp
         with_reducible rfl
        rotate_left
        ·simp only [Act.put, List.setIfInBounds_toArray, List.set_cons_zero, List.set_cons_succ, i64_w, i32_w]
         rfl
        exact h_1_3_8
       refine allReadyIn_step (i := 6) (N := (some 26)) #[tT,fF,tT,tT,fF,tT,tT,tT,tT,fF,fF,fF,fF,fF] rfl rfl (by kernel_rfl) (fun K hK => ?_) ?_
       ·go_simp
        refine hK _ _ ?_
        clear hK K
        try simp only [Act.put, List.setIfInBounds_toArray, List.set_cons_zero, List.set_cons_succ, i64_w, i32_w]
        refine wpAnyIn_taken (i := 9) (N := (some 29)) (v := ?_) (a' := ?_) #[tT,fF,tT,tT,fF,tT,tT,tT,tT,tT,fF,fF,fF,fF] rfl rfl rfl (by kernel_rfl) (fun _ _ _ h => h) ⟨Or.inl ⟨by rfl, ?_⟩, fun _ => rfl⟩ ?_ ?_
        rotate_left
        ·intro w'
         go_simp
         with_reducible rfl
        rotate_left
        ·simp only [Act.put, List.setIfInBounds_toArray, List.set_cons_zero, List.set_cons_succ, i64_w, i32_w]
         rfl
        exact h_3_6_8
       exact AllReadyIn.nil
      rw [HJ.out, HA0.out] at h_3_8
      simp only [Act.put, List.setIfInBounds_toArray, List.set_cons_zero, List.set_cons_succ, i64_w, i32_w] at h_3_8
      have h_1_8 : J 8 #[true, true, true, false, false, true, false, true, true, false, false, false, false, false] ((((((a0.put (some 20) (.pointer (some ⟨Bz, 1, none⟩))).put (some 21) (.int .i64 z1_)).put (some 22) (.pointer (some ⟨Bc, 1, none⟩))).put (some 25) (.pointer (some ⟨Bz, 2, none⟩))).put (some 27) (.pointer (some ⟨Bc, 1, none⟩))).put (some 28) (.int .i64 c1_)) w0 := by
       rw [HJ.out, HA0.out]
       simp only [Act.put, List.setIfInBounds_toArray, List.set_cons_zero, List.set_cons_succ, i64_w, i32_w]
       refine wpAnyIn_ready (rs := [3, 6]) (by kernel_rfl) (by simp) ?_
       refine allReadyIn_step (i := 3) (N := (some 23)) #[tT,tT,tT,tT,fF,tT,fF,tT,tT,fF,fF,fF,fF,fF] rfl rfl (by kernel_rfl) (fun K hK => ?_) ?_
       ·go_simp
        refine hK _ _ ?_
        clear hK K
        try simp only [Act.put, List.setIfInBounds_toArray, List.set_cons_zero, List.set_cons_succ, i64_w, i32_w]
        refine wpAnyIn_taken (i := 4) (N := (some 24)) (v := ?_) (a' := ?_) #[tT,tT,tT,tT,tT,tT,fF,tT,tT,fF,fF,fF,fF,fF] rfl rfl rfl (by kernel_rfl) (fun _ _ _ h => h) ⟨Or.inl ⟨by rfl, ?_⟩, fun _ => rfl⟩ ?_ ?_
        rotate_left
        ·intro w'
         go_simp
         with_reducible rfl
        rotate_left
        ·simp only [Act.put, List.setIfInBounds_toArray, List.set_cons_zero, List.set_cons_succ, i64_w, i32_w]
         rfl
        exact h_1_3_8
       refine allReadyIn_step (i := 6) (N := (some 26)) #[tT,tT,tT,fF,fF,tT,tT,tT,tT,fF,fF,fF,fF,fF] rfl rfl (by kernel_rfl) (fun K hK => ?_) ?_
       ·go_simp
        refine hK _ _ ?_
        clear hK K
        try simp only [Act.put, List.setIfInBounds_toArray, List.set_cons_zero, List.set_cons_succ, i64_w, i32_w]
        refine wpAnyIn_taken (i := 9) (N := (some 29)) (v := ?_) (a' := ?_) #[tT,tT,tT,fF,fF,tT,tT,tT,tT,tT,fF,fF,fF,fF] rfl rfl rfl (by kernel_rfl) (fun _ _ _ h => h) ⟨Or.inl ⟨by rfl, ?_⟩, fun _ => rfl⟩ ?_ ?_
        rotate_left
        ·intro w'
         go_simp
         with_reducible rfl
        rotate_left
        ·simp only [Act.put, List.setIfInBounds_toArray, List.set_cons_zero, List.set_cons_succ, i64_w, i32_w]
         rfl
        exact h_1_6_8
       exact AllReadyIn.nil
      rw [HJ.out, HA0.out] at h_1_8
      simp only [Act.put, List.setIfInBounds_toArray, List.set_cons_zero, List.set_cons_succ, i64_w, i32_w] at h_1_8
      have h_3_6 : J 8 #[true, false, true, true, false, true, true, true, false, false, false, false, false, false] ((((((a0.put (some 20) (.pointer (some ⟨Bz, 1, none⟩))).put (some 22) (.pointer (some ⟨Bc, 1, none⟩))).put (some 23) (.int .i64 c1_)).put (some 25) (.pointer (some ⟨Bz, 2, none⟩))).put (some 26) (.int .i64 z2_)).put (some 27) (.pointer (some ⟨Bc, 1, none⟩))) w0 := by
       rw [HJ.out, HA0.out]
       simp only [Act.put, List.setIfInBounds_toArray, List.set_cons_zero, List.set_cons_succ, i64_w, i32_w]
       refine wpAnyIn_ready (rs := [1, 8]) (by kernel_rfl) (by simp) ?_
       refine allReadyIn_step (i := 1) (N := (some 21)) #[tT,tT,tT,tT,fF,tT,tT,tT,fF,fF,fF,fF,fF,fF] rfl rfl (by kernel_rfl) (fun K hK => ?_) ?_
       ·go_simp
        refine hK _ _ ?_
        clear hK K
        try simp only [Act.put, List.setIfInBounds_toArray, List.set_cons_zero, List.set_cons_succ, i64_w, i32_w]
        refine wpAnyIn_taken (i := 4) (N := (some 24)) (v := ?_) (a' := ?_) #[tT,tT,tT,tT,tT,tT,tT,tT,fF,fF,fF,fF,fF,fF] rfl rfl rfl (by kernel_rfl) (fun _ _ _ h => h) ⟨Or.inl ⟨by rfl, ?_⟩, fun _ => rfl⟩ ?_ ?_
        rotate_left
        ·intro w'
         go_simp
         with_reducible rfl
        rotate_left
        ·simp only [Act.put, List.setIfInBounds_toArray, List.set_cons_zero, List.set_cons_succ, i64_w, i32_w]
         rfl
        refine wpAnyIn_taken (i := 10) (N := (some 30)) (v := ?_) (a' := ?_) #[tT,tT,tT,tT,tT,tT,tT,tT,fF,fF,tT,fF,fF,fF] rfl rfl rfl (by kernel_rfl) (fun _ _ _ h => h) ⟨Or.inl ⟨by rfl, ?_⟩, fun _ => rfl⟩ ?_ ?_
        rotate_left
        ·intro w'
         go_simp
         with_reducible rfl
        rotate_left
        ·simp only [Act.put, List.setIfInBounds_toArray, List.set_cons_zero, List.set_cons_succ, i64_w, i32_w]
         rfl
        exact h_1_3_6
       refine allReadyIn_step (i := 8) (N := (some 28)) #[tT,fF,tT,tT,fF,tT,tT,tT,tT,fF,fF,fF,fF,fF] rfl rfl (by kernel_rfl) (fun K hK => ?_) ?_
       ·go_simp
        refine hK _ _ ?_
        clear hK K
        try simp only [Act.put, List.setIfInBounds_toArray, List.set_cons_zero, List.set_cons_succ, i64_w, i32_w]
        refine wpAnyIn_taken (i := 9) (N := (some 29)) (v := ?_) (a' := ?_) #[tT,fF,tT,tT,fF,tT,tT,tT,tT,tT,fF,fF,fF,fF] rfl rfl rfl (by kernel_rfl) (fun _ _ _ h => h) ⟨Or.inl ⟨by rfl, ?_⟩, fun _ => rfl⟩ ?_ ?_
        rotate_left
        ·intro w'
         go_simp
         with_reducible rfl
        rotate_left
        ·simp only [Act.put, List.setIfInBounds_toArray, List.set_cons_zero, List.set_cons_succ, i64_w, i32_w]
         rfl
        exact h_3_6_8
       exact AllReadyIn.nil
      rw [HJ.out, HA0.out] at h_3_6
      simp only [Act.put, List.setIfInBounds_toArray, List.set_cons_zero, List.set_cons_succ, i64_w, i32_w] at h_3_6
      have h_1_6 : J 8 #[true, true, true, false, false, true, true, true, false, false, false, false, false, false] ((((((a0.put (some 20) (.pointer (some ⟨Bz, 1, none⟩))).put (some 21) (.int .i64 z1_)).put (some 22) (.pointer (some ⟨Bc, 1, none⟩))).put (some 25) (.pointer (some ⟨Bz, 2, none⟩))).put (some 26) (.int .i64 z2_)).put (some 27) (.pointer (some ⟨Bc, 1, none⟩))) w0 := by
       rw [HJ.out, HA0.out]
       simp only [Act.put, List.setIfInBounds_toArray, List.set_cons_zero, List.set_cons_succ, i64_w, i32_w]
       refine wpAnyIn_ready (rs := [3, 8]) (by kernel_rfl) (by simp) ?_
       refine allReadyIn_step (i := 3) (N := (some 23)) #[tT,tT,tT,tT,fF,tT,tT,tT,fF,fF,fF,fF,fF,fF] rfl rfl (by kernel_rfl) (fun K hK => ?_) ?_
       ·go_simp
        refine hK _ _ ?_
        clear hK K
        try simp only [Act.put, List.setIfInBounds_toArray, List.set_cons_zero, List.set_cons_succ, i64_w, i32_w]
        refine wpAnyIn_taken (i := 4) (N := (some 24)) (v := ?_) (a' := ?_) #[tT,tT,tT,tT,tT,tT,tT,tT,fF,fF,fF,fF,fF,fF] rfl rfl rfl (by kernel_rfl) (fun _ _ _ h => h) ⟨Or.inl ⟨by rfl, ?_⟩, fun _ => rfl⟩ ?_ ?_
        rotate_left
        ·intro w'
         go_simp
         with_reducible rfl
        rotate_left
        ·simp only [Act.put, List.setIfInBounds_toArray, List.set_cons_zero, List.set_cons_succ, i64_w, i32_w]
         rfl
        refine wpAnyIn_taken (i := 10) (N := (some 30)) (v := ?_) (a' := ?_) #[tT,tT,tT,tT,tT,tT,tT,tT,fF,fF,tT,fF,fF,fF] rfl rfl rfl (by kernel_rfl) (fun _ _ _ h => h) ⟨Or.inl ⟨by rfl, ?_⟩, fun _ => rfl⟩ ?_ ?_
        rotate_left
        ·intro w'
         go_simp
         with_reducible rfl
        rotate_left
        ·simp only [Act.put, List.setIfInBounds_toArray, List.set_cons_zero, List.set_cons_succ, i64_w, i32_w]
         rfl
        exact h_1_3_6
       refine allReadyIn_step (i := 8) (N := (some 28)) #[tT,tT,tT,fF,fF,tT,tT,tT,tT,fF,fF,fF,fF,fF] rfl rfl (by kernel_rfl) (fun K hK => ?_) ?_
       ·go_simp
        refine hK _ _ ?_
        clear hK K
        try simp only [Act.put, List.setIfInBounds_toArray, List.set_cons_zero, List.set_cons_succ, i64_w, i32_w]
        refine wpAnyIn_taken (i := 9) (N := (some 29)) (v := ?_) (a' := ?_) #[tT,tT,tT,fF,fF,tT,tT,tT,tT,tT,fF,fF,fF,fF] rfl rfl rfl (by kernel_rfl) (fun _ _ _ h => h) ⟨Or.inl ⟨by rfl, ?_⟩, fun _ => rfl⟩ ?_ ?_
        rotate_left
        ·intro w'
         go_simp
         with_reducible rfl
        rotate_left
        ·simp only [Act.put, List.setIfInBounds_toArray, List.set_cons_zero, List.set_cons_succ, i64_w, i32_w]
         rfl
        exact h_1_6_8
       exact AllReadyIn.nil
      rw [HJ.out, HA0.out] at h_1_6
      simp only [Act.put, List.setIfInBounds_toArray, List.set_cons_zero, List.set_cons_succ, i64_w, i32_w] at h_1_6
      have h_8 : J 9 #[true, false, true, false, false, true, false, true, true, false, false, false, false, false] (((((a0.put (some 20) (.pointer (some ⟨Bz, 1, none⟩))).put (some 22) (.pointer (some ⟨Bc, 1, none⟩))).put (some 25) (.pointer (some ⟨Bz, 2, none⟩))).put (some 27) (.pointer (some ⟨Bc, 1, none⟩))).put (some 28) (.int .i64 c1_)) w0 := by
       rw [HJ.out, HA0.out]
       simp only [Act.put, List.setIfInBounds_toArray, List.set_cons_zero, List.set_cons_succ, i64_w, i32_w]
       refine wpAnyIn_ready (rs := [1, 3, 6]) (by kernel_rfl) (by simp) ?_
       refine allReadyIn_step (i := 1) (N := (some 21)) #[tT,tT,tT,fF,fF,tT,fF,tT,tT,fF,fF,fF,fF,fF] rfl rfl (by kernel_rfl) (fun K hK => ?_) ?_
       ·go_simp
        refine hK _ _ ?_
        clear hK K
        try simp only [Act.put, List.setIfInBounds_toArray, List.set_cons_zero, List.set_cons_succ, i64_w, i32_w]
        exact h_1_8
       refine allReadyIn_step (i := 3) (N := (some 23)) #[tT,fF,tT,tT,fF,tT,fF,tT,tT,fF,fF,fF,fF,fF] rfl rfl (by kernel_rfl) (fun K hK => ?_) ?_
       ·go_simp
        refine hK _ _ ?_
        clear hK K
        try simp only [Act.put, List.setIfInBounds_toArray, List.set_cons_zero, List.set_cons_succ, i64_w, i32_w]
        exact h_3_8
       refine allReadyIn_step (i := 6) (N := (some 26)) #[tT,fF,tT,fF,fF,tT,tT,tT,tT,fF,fF,fF,fF,fF] rfl rfl (by kernel_rfl) (fun K hK => ?_) ?_
       ·go_simp
        refine hK _ _ ?_
        clear hK K
        try simp only [Act.put, List.setIfInBounds_toArray, List.set_cons_zero, List.set_cons_succ, i64_w, i32_w]
        refine wpAnyIn_taken (i := 9) (N := (some 29)) (v := ?_) (a' := ?_) #[tT,fF,tT,fF,fF,tT,tT,tT,tT,tT,fF,fF,fF,fF] rfl rfl rfl (by kernel_rfl) (fun _ _ _ h => h) ⟨Or.inl ⟨by rfl, ?_⟩, fun _ => rfl⟩ ?_ ?_
        rotate_left
        ·intro w'
         go_simp
         with_reducible rfl
        rotate_left
        ·simp only [Act.put, List.setIfInBounds_toArray, List.set_cons_zero, List.set_cons_succ, i64_w, i32_w]
         rfl
        exact h_6_8
       exact AllReadyIn.nil
      rw [HJ.out, HA0.out] at h_8
      simp only [Act.put, List.setIfInBounds_toArray, List.set_cons_zero, List.set_cons_succ, i64_w, i32_w] at h_8
      have h_6 : J 9 #[true, false, true, false, false, true, true, true, false, false, false, false, false, false] (((((a0.put (some 20) (.pointer (some ⟨Bz, 1, none⟩))).put (some 22) (.pointer (some ⟨Bc, 1, none⟩))).put (some 25) (.pointer (some ⟨Bz, 2, none⟩))).put (some 26) (.int .i64 z2_)).put (some 27) (.pointer (some ⟨Bc, 1, none⟩))) w0 := by
       rw [HJ.out, HA0.out]
       simp only [Act.put, List.setIfInBounds_toArray, List.set_cons_zero, List.set_cons_succ, i64_w, i32_w]
       refine wpAnyIn_ready (rs := [1, 3, 8]) (by kernel_rfl) (by simp) ?_
       refine allReadyIn_step (i := 1) (N := (some 21)) #[tT,tT,tT,fF,fF,tT,tT,tT,fF,fF,fF,fF,fF,fF] rfl rfl (by kernel_rfl) (fun K hK => ?_) ?_
       ·go_simp
        refine hK _ _ ?_
        clear hK K
        try simp only [Act.put, List.setIfInBounds_toArray, List.set_cons_zero, List.set_cons_succ, i64_w, i32_w]
        exact h_1_6
       refine allReadyIn_step (i := 3) (N := (some 23)) #[tT,fF,tT,tT,fF,tT,tT,tT,fF,fF,fF,fF,fF,fF] rfl rfl (by kernel_rfl) (fun K hK => ?_) ?_
       ·go_simp
        refine hK _ _ ?_
        clear hK K
        try simp only [Act.put, List.setIfInBounds_toArray, List.set_cons_zero, List.set_cons_succ, i64_w, i32_w]
        exact h_3_6
       refine allReadyIn_step (i := 8) (N := (some 28)) #[tT,fF,tT,fF,fF,tT,tT,tT,tT,fF,fF,fF,fF,fF] rfl rfl (by kernel_rfl) (fun K hK => ?_) ?_
       ·go_simp
        refine hK _ _ ?_
        clear hK K
        try simp only [Act.put, List.setIfInBounds_toArray, List.set_cons_zero, List.set_cons_succ, i64_w, i32_w]
        refine wpAnyIn_taken (i := 9) (N := (some 29)) (v := ?_) (a' := ?_) #[tT,fF,tT,fF,fF,tT,tT,tT,tT,tT,fF,fF,fF,fF] rfl rfl rfl (by kernel_rfl) (fun _ _ _ h => h) ⟨Or.inl ⟨by rfl, ?_⟩, fun _ => rfl⟩ ?_ ?_
        rotate_left
        ·intro w'
         go_simp
         with_reducible rfl
        rotate_left
        ·simp only [Act.put, List.setIfInBounds_toArray, List.set_cons_zero, List.set_cons_succ, i64_w, i32_w]
         rfl
        exact h_6_8
       exact AllReadyIn.nil
      rw [HJ.out, HA0.out] at h_6
      simp only [Act.put, List.setIfInBounds_toArray, List.set_cons_zero, List.set_cons_succ, i64_w, i32_w] at h_6
      have h_3 : J 9 #[true, false, true, true, false, true, false, true, false, false, false, false, false, false] (((((a0.put (some 20) (.pointer (some ⟨Bz, 1, none⟩))).put (some 22) (.pointer (some ⟨Bc, 1, none⟩))).put (some 23) (.int .i64 c1_)).put (some 25) (.pointer (some ⟨Bz, 2, none⟩))).put (some 27) (.pointer (some ⟨Bc, 1, none⟩))) w0 := by
       rw [HJ.out, HA0.out]
       simp only [Act.put, List.setIfInBounds_toArray, List.set_cons_zero, List.set_cons_succ, i64_w, i32_w]
       refine wpAnyIn_ready (rs := [1, 6, 8]) (by kernel_rfl) (by simp) ?_
       refine allReadyIn_step (i := 1) (N := (some 21)) #[tT,tT,tT,tT,fF,tT,fF,tT,fF,fF,fF,fF,fF,fF] rfl rfl (by kernel_rfl) (fun K hK => ?_) ?_
       ·go_simp
        refine hK _ _ ?_
        clear hK K
        try simp only [Act.put, List.setIfInBounds_toArray, List.set_cons_zero, List.set_cons_succ, i64_w, i32_w]
        refine wpAnyIn_taken (i := 4) (N := (some 24)) (v := ?_) (a' := ?_) #[tT,tT,tT,tT,tT,tT,fF,tT,fF,fF,fF,fF,fF,fF] rfl rfl rfl (by kernel_rfl) (fun _ _ _ h => h) ⟨Or.inl ⟨by rfl, ?_⟩, fun _ => rfl⟩ ?_ ?_
        rotate_left
        ·intro w'
         go_simp
         with_reducible rfl
        rotate_left
        ·simp only [Act.put, List.setIfInBounds_toArray, List.set_cons_zero, List.set_cons_succ, i64_w, i32_w]
         rfl
        exact h_1_3
       refine allReadyIn_step (i := 6) (N := (some 26)) #[tT,fF,tT,tT,fF,tT,tT,tT,fF,fF,fF,fF,fF,fF] rfl rfl (by kernel_rfl) (fun K hK => ?_) ?_
       ·go_simp
        refine hK _ _ ?_
        clear hK K
        try simp only [Act.put, List.setIfInBounds_toArray, List.set_cons_zero, List.set_cons_succ, i64_w, i32_w]
        exact h_3_6
       refine allReadyIn_step (i := 8) (N := (some 28)) #[tT,fF,tT,tT,fF,tT,fF,tT,tT,fF,fF,fF,fF,fF] rfl rfl (by kernel_rfl) (fun K hK => ?_) ?_
       ·go_simp
        refine hK _ _ ?_
        clear hK K
        try simp only [Act.put, List.setIfInBounds_toArray, List.set_cons_zero, List.set_cons_succ, i64_w, i32_w]
        exact h_3_8
       exact AllReadyIn.nil
      rw [HJ.out, HA0.out] at h_3
      simp only [Act.put, List.setIfInBounds_toArray, List.set_cons_zero, List.set_cons_succ, i64_w, i32_w] at h_3
      have h_1 : J 9 #[true, true, true, false, false, true, false, true, false, false, false, false, false, false] (((((a0.put (some 20) (.pointer (some ⟨Bz, 1, none⟩))).put (some 21) (.int .i64 z1_)).put (some 22) (.pointer (some ⟨Bc, 1, none⟩))).put (some 25) (.pointer (some ⟨Bz, 2, none⟩))).put (some 27) (.pointer (some ⟨Bc, 1, none⟩))) w0 := by
       rw [HJ.out, HA0.out]
       simp only [Act.put, List.setIfInBounds_toArray, List.set_cons_zero, List.set_cons_succ, i64_w, i32_w]
       refine wpAnyIn_ready (rs := [3, 6, 8]) (by kernel_rfl) (by simp) ?_
       refine allReadyIn_step (i := 3) (N := (some 23)) #[tT,tT,tT,tT,fF,tT,fF,tT,fF,fF,fF,fF,fF,fF] rfl rfl (by kernel_rfl) (fun K hK => ?_) ?_
       ·go_simp
        refine hK _ _ ?_
        clear hK K
        try simp only [Act.put, List.setIfInBounds_toArray, List.set_cons_zero, List.set_cons_succ, i64_w, i32_w]
        refine wpAnyIn_taken (i := 4) (N := (some 24)) (v := ?_) (a' := ?_) #[tT,tT,tT,tT,tT,tT,fF,tT,fF,fF,fF,fF,fF,fF] rfl rfl rfl (by kernel_rfl) (fun _ _ _ h => h) ⟨Or.inl ⟨by rfl, ?_⟩, fun _ => rfl⟩ ?_ ?_
        rotate_left
        ·intro w'
         go_simp
         with_reducible rfl
        rotate_left
        ·simp only [Act.put, List.setIfInBounds_toArray, List.set_cons_zero, List.set_cons_succ, i64_w, i32_w]
         rfl
        exact h_1_3
       refine allReadyIn_step (i := 6) (N := (some 26)) #[tT,tT,tT,fF,fF,tT,tT,tT,fF,fF,fF,fF,fF,fF] rfl rfl (by kernel_rfl) (fun K hK => ?_) ?_
       ·go_simp
        refine hK _ _ ?_
        clear hK K
        try simp only [Act.put, List.setIfInBounds_toArray, List.set_cons_zero, List.set_cons_succ, i64_w, i32_w]
        exact h_1_6
       refine allReadyIn_step (i := 8) (N := (some 28)) #[tT,tT,tT,fF,fF,tT,fF,tT,tT,fF,fF,fF,fF,fF] rfl rfl (by kernel_rfl) (fun K hK => ?_) ?_
       ·go_simp
        refine hK _ _ ?_
        clear hK K
        try simp only [Act.put, List.setIfInBounds_toArray, List.set_cons_zero, List.set_cons_succ, i64_w, i32_w]
        exact h_1_8
       exact AllReadyIn.nil
      rw [HJ.out, HA0.out] at h_1
      simp only [Act.put, List.setIfInBounds_toArray, List.set_cons_zero, List.set_cons_succ, i64_w, i32_w] at h_1
      rw [HJ.out, HA0.out]
      refine wpAnyIn_taken (i := 0) (N := (some 20)) (v := ?_) (a' := ?_) #[tT,fF,fF,fF,fF,fF,fF,fF,fF,fF,fF,fF,fF,fF] rfl rfl rfl (by kernel_rfl) (fun _ _ _ h => h) ⟨Or.inl ⟨by rfl, ?_⟩, fun _ => rfl⟩ ?_ ?_
      rotate_left
      ·intro w'
       go_simp
       with_reducible rfl
      rotate_left
      ·simp only [Act.put, List.setIfInBounds_toArray, List.set_cons_zero, List.set_cons_succ, i64_w, i32_w]
       rfl
      refine wpAnyIn_taken (i := 2) (N := (some 22)) (v := ?_) (a' := ?_) #[tT,fF,tT,fF,fF,fF,fF,fF,fF,fF,fF,fF,fF,fF] rfl rfl rfl (by kernel_rfl) (fun _ _ _ h => h) ⟨Or.inl ⟨by rfl, ?_⟩, fun _ => rfl⟩ ?_ ?_
      rotate_left
      ·intro w'
       go_simp
       with_reducible rfl
      rotate_left
      ·simp only [Act.put, List.setIfInBounds_toArray, List.set_cons_zero, List.set_cons_succ, i64_w, i32_w]
       rfl
      refine wpAnyIn_taken (i := 5) (N := (some 25)) (v := ?_) (a' := ?_) #[tT,fF,tT,fF,fF,tT,fF,fF,fF,fF,fF,fF,fF,fF] rfl rfl rfl (by kernel_rfl) (fun _ _ _ h => h) ⟨Or.inl ⟨by rfl, ?_⟩, fun _ => rfl⟩ ?_ ?_
      rotate_left
      ·intro w'
       go_simp
       with_reducible rfl
      rotate_left
      ·simp only [Act.put, List.setIfInBounds_toArray, List.set_cons_zero, List.set_cons_succ, i64_w, i32_w]
       rfl
      refine wpAnyIn_taken (i := 7) (N := (some 27)) (v := ?_) (a' := ?_) #[tT,fF,tT,fF,fF,tT,fF,tT,fF,fF,fF,fF,fF,fF] rfl rfl rfl (by kernel_rfl) (fun _ _ _ h => h) ⟨Or.inl ⟨by rfl, ?_⟩, fun _ => rfl⟩ ?_ ?_
      rotate_left
      ·intro w'
       go_simp
       with_reducible rfl
      rotate_left
      ·simp only [Act.put, List.setIfInBounds_toArray, List.set_cons_zero, List.set_cons_succ, i64_w, i32_w]
       rfl
      refine wpAnyIn_ready (rs := [1, 3, 6, 8]) (by kernel_rfl) (by simp) ?_
      refine allReadyIn_step (i := 1) (N := (some 21)) #[tT,tT,tT,fF,fF,tT,fF,tT,fF,fF,fF,fF,fF,fF] rfl rfl (by kernel_rfl) (fun K hK => ?_) ?_
      ·go_simp
       refine hK _ _ ?_
       clear hK K
       try simp only [Act.put, List.setIfInBounds_toArray, List.set_cons_zero, List.set_cons_succ, i64_w, i32_w]
       exact h_1
      refine allReadyIn_step (i := 3) (N := (some 23)) #[tT,fF,tT,tT,fF,tT,fF,tT,fF,fF,fF,fF,fF,fF] rfl rfl (by kernel_rfl) (fun K hK => ?_) ?_
      ·go_simp
       refine hK _ _ ?_
       clear hK K
       try simp only [Act.put, List.setIfInBounds_toArray, List.set_cons_zero, List.set_cons_succ, i64_w, i32_w]
       exact h_3
      refine allReadyIn_step (i := 6) (N := (some 26)) #[tT,fF,tT,fF,fF,tT,tT,tT,fF,fF,fF,fF,fF,fF] rfl rfl (by kernel_rfl) (fun K hK => ?_) ?_
      ·go_simp
       refine hK _ _ ?_
       clear hK K
       try simp only [Act.put, List.setIfInBounds_toArray, List.set_cons_zero, List.set_cons_succ, i64_w, i32_w]
       exact h_6
      refine allReadyIn_step (i := 8) (N := (some 28)) #[tT,fF,tT,fF,fF,tT,fF,tT,tT,fF,fF,fF,fF,fF] rfl rfl (by kernel_rfl) (fun K hK => ?_) ?_
      ·go_simp
       refine hK _ _ ?_
       clear hK K
       try simp only [Act.put, List.setIfInBounds_toArray, List.set_cons_zero, List.set_cons_succ, i64_w, i32_w]
       exact h_8
      exact AllReadyIn.nil
  case done =>
   rintro D ys W hD hS ⟨⟨acc, v, hp, hv, hR, _, _⟩, hB⟩ hK
   have hyl : ys.length = (l0.length + 15) / 16 := by have := congrArg List.length hS; simpa using this
   have hacc := hp.out.2 (by rw [hyl]; exact hS)
   rw [hyl] at hacc
   have hcv := hv.cell
   have HRR := Aside0.mk hR
   have HB := Aside0.mk hB
   clear hR hB
   gi_wp2
   refine ⟨by simp, .inl ⟨_, _, rfl, run_takeDeferred hK, ?_⟩⟩
   refine ⟨_, results_tmp rfl _ _ _, _, rfl, ?_, ?_⟩
   ·rw [← HH.out]
    have hfull : acc = ints_Zones.all l0 := hacc
    rw [← hfull]
    exact zones_R (ownsRow_putObj HRR.out _ hK rfl)
   ·exact HB.out.trans (belowK_b (w := w) (Nat.le_refl _) W D _ _ (by omega) hK rfl rfl)
end
end Go.Proofs.Ytcjkmmajokkkfaa.P
end
section
namespace Go.Proofs.Ytcjkmmajokkkfaa.P
open Go.RowKit Go.Proofs.YtcjkmmajokkkfaaW.PrintWords Go.Proofs.YtcjkmmajokkkfaaW.PrintLast Go.Proofs.YtcjkmmajokkkfaaW.PrintMore
attribute [local go_sem] max2_int min2_int max_two min_two max_three min_three max_four min_four
set_option linter.unusedVariables false
set_option linter.unusedSimpArgs false
attribute [local go_sem high] eqA42
section
def where_at (t : S38 → Bool) (zs : List S38) (i : Nat) : List Int := ((List.range i).filter (fun (j : Nat) => (rd_T38 zs (j : Int)).f0 && t (rd_T38 zs (j : Int)))).map Int.ofNat
theorem where_succ (t : S38 → Bool) (zs : List S38) (i : Nat) : where_at t zs (i + 1) = if (rd_T38 zs (i : Int)).f0 && t (rd_T38 zs (i : Int)) then where_at t zs i ++ [(i : Int)] else where_at t zs i := by
 unfold where_at
 rw [List.range_succ, List.filter_append, List.map_append]
 by_cases h : ((rd_T38 zs (i : Int)).f0 && t (rd_T38 zs (i : Int))) = true <;> simp [h]
theorem where_len (t : S38 → Bool) (zs : List S38) (i : Nat) : (where_at t zs i).length ≤ i := by
 unfold where_at
 rw [List.length_map]
 exact Nat.le_trans (List.length_filter_le _ _) (by simp)
theorem where_inc {i : Nat} (h : i < 17592186044416) : wrap64 ((i : Int) + 1) = ((i + 1 : Nat) : Int) := by
 unfold wrap64
 omega
def WhereAsk (cf : Nat) (t : S38 → Bool) (B : Nat) (n : Int) : Prop :=
 ∀ (z : S38) (W : World), Boxed W B 3 (.int .i64 n) → Calls Try.prog cf #[.agg #[.bool z.f0, .int .i64 z.f1, .int .i64 z.f2], .pointer (some ⟨B, 0, none⟩)] W fun e W' => e = .returned (.bool (t z)) ∧ Below W.heap.size W W'
theorem below_ask (B : Nat) (n : Int) : WhereAsk 36 (fun z => decide (z.f1 < n)) B n := by
 intro z W hB
 obtain ⟨z0, z1, z2⟩ := z
 have hc := hB.cell
 have hc2 : ∀ o, (W.alloc o).cell? ⟨B, 0, none⟩ = some (.int .i64 n) := fun o => (hB.alloc o).cell
 have hb1 : (W.alloc (Obj.cells #[Value.bool z0, Value.int IntKind.i64 z1, Value.int IntKind.i64 z2] 38)).cell? ⟨W.heap.size, 1, none⟩ = some (.int .i64 z1) := by
  have hb_ := World.alloc_heap_new W (Obj.cells #[Value.bool z0, Value.int IntKind.i64 z1, Value.int IntKind.i64 z2] 38)
  simp only [World.cell?, hb_]
  rfl
 go_enter Try.func36, Try.ntmps36
 go_wp2
 go_ret
 exact ⟨rfl, pbA_ (Below.refl _ _) _⟩
theorem above_ask (B : Nat) (n : Int) : WhereAsk 37 (fun z => decide (z.f2 > n)) B n := by
 intro z W hB
 obtain ⟨z0, z1, z2⟩ := z
 have hc := hB.cell
 have hc2 : ∀ o, (W.alloc o).cell? ⟨B, 0, none⟩ = some (.int .i64 n) := fun o => (hB.alloc o).cell
 have hb1 : (W.alloc (Obj.cells #[Value.bool z0, Value.int IntKind.i64 z1, Value.int IntKind.i64 z2] 38)).cell? ⟨W.heap.size, 2, none⟩ = some (.int .i64 z2) := by
  have hb_ := World.alloc_heap_new W (Obj.cells #[Value.bool z0, Value.int IntKind.i64 z1, Value.int IntKind.i64 z2] 38)
  simp only [World.cell?, hb_]
  rfl
 go_enter Try.func37, Try.ntmps37
 go_wp2
 go_ret
 exact ⟨rfl, pbA_ (Below.refl _ _) _⟩
set_option maxRecDepth 100000 in
set_option maxHeartbeats 4000000 in
theorem where_calls_below (k : Nat) (t : S38 → Bool) (B : Nat) (n : Int) (A0 : Option Addr) (c0 : Nat) (l0 : List S42) (zs : List S38) (w : World)
  (hask : WhereAsk 36 t B n) (hbox : Boxed w B 3 (.int .i64 n)) (hr0 : Kd.C k42 w A0 l0.length l0) (hc0 : l0.length ≤ c0) (h : ints_Zones.f k l0 = some zs) (hz : zs.length ≤ 100000) :
  Calls Try.prog 35 #[.slice A0 l0.length c0, .func (.func 36) #[] #[.pointer (some ⟨B, 0, none⟩)]] w fun e w' => ∃ v0_ : Value, e = .returned (v0_) ∧ Kd.R (Kd.int .i64) 3 w' w.heap.size (fun _ => True) v0_ (where_at t zs zs.length) ∧ Below w.heap.size w w' := by
 have HR0 := Aside0.mk hr0
 have HC0 := Aside0.mk hc0
 have HZ := Aside0.mk h
 have HL := Aside0.mk hz
 have HASK := Aside0.mk hask
 have HBOX := Aside0.mk hbox
 clear hr0 hc0 h hz hask hbox
 go_enter Try.func35, Try.ntmps35
 go_wp2_with (first | (go_at_call 18; (with_reducible refine (ints_Zones.calls k A0 c0 l0 zs w HR0.out HC0.out HZ.out).mono ?_); rintro e w1 ⟨v9, rfl, hR9, hB1⟩; have HR9 := Aside0.mk hR9; have HB1 := Aside0.mk hB1; clear hR9 hB1; obtain ⟨A9, c9, e9⟩ := Kd.R_slice HR9.out; subst e9) | fail)
 obtain ⟨-, hcap9, hC9⟩ := Kd.R_reads' HR9.out
 have HC9 := Aside0.mk hC9
 clear hC9 hcap9
 have hbx1 : Boxed w1 B 3 (.int .i64 n) := (HB1.out.block B HBOX.out.lt).trans HBOX.out
 have HBX1 := Aside0.mk hbx1
 clear hbx1
 go_loopg [5, 11] zs.length (fun gg v5 v11 wr => ∃ (i : Nat), v11 = .int .i64 (i : Int) ∧ Aside0 (i ≤ zs.length ∧ zs.length - i ≤ gg) ∧ Aside0 (Kd.R (Kd.int .i64) 3 wr w1.heap.size (fun _ => True) v5 (where_at t zs i)) ∧ Aside0 (Below w1.heap.size w1 wr))
 case atStart => exact ⟨0, rfl, ⟨Nat.zero_le _, by omega⟩, ⟨Kd.R_nil _ _ _ _ _⟩, ⟨Below.refl _ _⟩⟩
 case round =>
  obtain ⟨i, rfl, HI, HO, HB⟩ := hrel
  by_cases hlt : i < zs.length
  rotate_left
  ·have g : decide ((i : Int) < (zs.length : Int)) = false := decide_eq_false (by omega)
   have he : i = zs.length := by have := HI.out.1; omega
   subst he
   go_wp2
   go_ret
   exact ⟨_, rfl, Kd.R_lower HO.out HB1.out.size, HB1.out.trans (HB.out.mono HB1.out.size)⟩
  have g : decide ((i : Int) < (zs.length : Int)) = true := decide_eq_true (by omega)
  obtain ⟨ad, e, hx0, hx1, hx2⟩ := at_T38 HC9.out (i : Int) (by omega) (by omega)
  subst e
  have hx0 := (HB.out.cell (World.block_lt_of_cell? w1 _ hx0)).trans hx0
  have hx1 := (HB.out.cell (World.block_lt_of_cell? w1 _ hx1)).trans hx1
  have hx2 := (HB.out.cell (World.block_lt_of_cell? w1 _ hx2)).trans hx2
  rw [Int.toNat_natCast] at hx0 hx1 hx2
  have p := eq_true (show (0 : Int) ≤ (i : Int) by omega)
  have q := eq_true (show (i : Int) < (zs.length : Int) by omega)
  have q' := eq_true hlt
  have hs := where_succ t zs i
  obtain ⟨z, hz⟩ : ∃ z, rd_T38 zs (i : Int) = z := ⟨_, rfl⟩
  rw [hz] at hx0 hx1 hx2 hs
  obtain ⟨z0_, z1_, z2_⟩ := z
  dsimp only at hx0 hx1 hx2
  have HS := Aside0.mk hs
  clear hs
  have hbr : Boxed wr B 3 (.int .i64 n) := (HB.out.block B HBX1.out.lt).trans HBX1.out
  have HBR := Aside0.mk hbr
  clear hbr
  have hnew := fun o => World.alloc_heap_new wr o
  have hsw : w1.heap.size ≤ wr.heap.size := HB.out.size
  have hll := where_len t zs i
  have hlz := HL.out
  cases z0_ with
  | false =>
   go_wp2
   go_roundg (zs.length - (i + 1))
   case measure => have := HI.out.2; omega
   case rel => exact ⟨i + 1, by first | rfl | rw [where_inc (by omega)], ⟨hlt, by omega⟩, ⟨by rw [HS.out]; exact Kd.rA_ HO.out _⟩, ⟨pbA_ HB.out _⟩⟩
  | true =>
   obtain ⟨A5, c5, rfl⟩ := Kd.R_slice HO.out
   have hu := Try.underlying39
   cases hb : t ⟨true, z1_, z2_⟩ with
   | false =>
    have hsk := HS.out
    rw [hb] at hsk
    go_wp2_with (first | (go_at_call 36; (have hcl_ := HASK.out ⟨true, z1_, z2_⟩ _ (HBR.out.alloc (Obj.cells #[Value.bool true, Value.int IntKind.i64 z1_, Value.int IntKind.i64 z2_] 38))); rw [hb] at hcl_; (with_reducible refine hcl_.mono ?_); rintro e w2 ⟨rfl, hb2⟩; have HB2 := Aside0.mk (show Below wr.heap.size wr w2 from (pbA_ (Below.refl _ _) _).trans (hb2.mono (by simp))); clear hb2) | fail)
    go_roundg (zs.length - (i + 1))
    case measure => have := HI.out.2; omega
    case rel => exact ⟨i + 1, by first | rfl | rw [where_inc (by omega)], ⟨hlt, by omega⟩, ⟨by rw [hsk]; exact Kd.R_below HO.out HB2.out⟩, ⟨HB.out.trans (HB2.out.mono hsw)⟩⟩
   | true =>
    have hsk := HS.out
    rw [hb] at hsk
    have HS2 := Aside0.mk hsk
    clear hsk
    go_wp2_with (first | (go_at_call 36; (have hcl_ := HASK.out ⟨true, z1_, z2_⟩ _ (HBR.out.alloc (Obj.cells #[Value.bool true, Value.int IntKind.i64 z1_, Value.int IntKind.i64 z2_] 38))); rw [hb] at hcl_; (with_reducible refine hcl_.mono ?_); rintro e w2 ⟨rfl, hb2⟩; have HB2 := Aside0.mk (show Below wr.heap.size wr w2 from (pbA_ (Below.refl _ _) _).trans (hb2.mono (by simp))); clear hb2) | ((with_reducible refine gate_builtin (b := .append) (xs := #[.tmp 23, .tmp 25]) rfl ?_); at_builtin; refine Kd.R_append (Kd.int .i64) (w0 := w1) w1.heap.size rfl (.tmp 23) (.tmp 25) 39 3 (.int .i64 0) 8 rfl hu info3 rfl (by decide) (by omega) (.slice A5 (where_at t zs i).length c5) (where_at t zs i) (i : Int) [.int .i64 (i : Int)] (fun _ => True) (fun _ => False) rfl rfl ?aP (fun _ hk => hk.elim) ?aF ?aO ?aB ?aS ?aL ?_; (case aP => exact rfl); (case aB => exact HB.out.trans (HB2.out.mono hsw)); (case aF => exact (fun _ _ => trivial)); (case aO => exact Kd.R_below HO.out HB2.out); (case aS => have := HB2.out.size; omega); (case aL => omega); intro v1 w3 ho hb3 hg hat; have HO3 := Aside0.mk ho; have HB3 := Aside0.mk hb3; clear ho hb3 hg hat) | fail)
    go_roundg (zs.length - (i + 1))
    case measure => have := HI.out.2; omega
    case rel => exact ⟨i + 1, by first | rfl | rw [where_inc (by omega)], ⟨hlt, by omega⟩, ⟨by rw [HS2.out]; exact HO3.out⟩, ⟨HB3.out⟩⟩
noncomputable def ints_Below.f (k : Nat) (l0 : List S42) (n : Int) : Option (List Int) := (ints_Zones.f k l0).bind fun zs => if zs.length ≤ 100000 then some (where_at (fun z => decide (z.f1 < n)) zs zs.length) else none
theorem ints_Below.mono : ∀ l n k, LeO (ints_Below.f k l n) (ints_Below.f (k + 1) l n) := by
 intro l n k
 unfold ints_Below.f
 exact LeO.bind (ints_Zones.mono _ _) (fun _ => LeO.refl _)
set_option maxRecDepth 100000 in
set_option maxHeartbeats 4000000 in
theorem ints_Below.calls (k : Nat) (A0 : Option Addr) (c0 : Nat) (l0 : List S42) (a1 : Int) (r : List Int) (w : World) (hr0 : Kd.C k42 w A0 l0.length l0) (hc0 : l0.length ≤ c0) (h : ints_Below.f k l0 a1 = some r) :
  Calls Try.prog 20 #[.slice A0 l0.length c0, .int .i64 a1] w fun e w' => ∃ v0_ : Value, e = .returned (v0_) ∧ Kd.R (Kd.int .i64) 3 w' w.heap.size (fun _ => True) v0_ r ∧ Below w.heap.size w w' := by
 have HR0 := Aside0.mk hr0
 have HC0 := Aside0.mk hc0
 clear hr0 hc0
 unfold ints_Below.f at h
 obtain ⟨zs, hz, h⟩ := Option.bind_eq_some_iff.1 h
 by_cases hlen : zs.length ≤ 100000
 case neg => rw [if_neg hlen] at h; cases h
 rw [if_pos hlen] at h
 have hr := Option.some.inj h
 have HZ := Aside0.mk hz
 have HL := Aside0.mk hlen
 clear h hz hlen
 subst hr
 go_enter Try.func20, Try.ntmps20
 go_wp2_with (first | (go_at_call 35; (with_reducible refine (where_calls_below k (fun z => decide (z.f1 < a1)) w.heap.size a1 A0 c0 l0 zs _ (below_ask _ _) (Boxed.new w 3 (.int .i64 a1)) (Kd.cA_ HR0.out _) HC0.out HZ.out HL.out).mono ?_); rintro e w2 ⟨v2, rfl, hR2, hB2⟩; have HR2 := Aside0.mk hR2; have HB2 := Aside0.mk hB2; clear hR2 hB2) | fail)
 go_ret
 have h1 : w.heap.size ≤ (w.alloc (Obj.cells #[Value.int IntKind.i64 a1] 3)).heap.size := by simp
 exact ⟨_, rfl, Kd.R_lower HR2.out h1, (pbA_ (Below.refl _ _) _).trans (HB2.out.mono h1)⟩
end
section
set_option maxRecDepth 100000 in
set_option maxHeartbeats 4000000 in
theorem where_calls_above (k : Nat) (t : S38 → Bool) (B : Nat) (n : Int) (A0 : Option Addr) (c0 : Nat) (l0 : List S42) (zs : List S38) (w : World)
  (hask : WhereAsk 37 t B n) (hbox : Boxed w B 3 (.int .i64 n)) (hr0 : Kd.C k42 w A0 l0.length l0) (hc0 : l0.length ≤ c0) (h : ints_Zones.f k l0 = some zs) (hz : zs.length ≤ 100000) :
  Calls Try.prog 35 #[.slice A0 l0.length c0, .func (.func 37) #[] #[.pointer (some ⟨B, 0, none⟩)]] w fun e w' => ∃ v0_ : Value, e = .returned (v0_) ∧ Kd.R (Kd.int .i64) 3 w' w.heap.size (fun _ => True) v0_ (where_at t zs zs.length) ∧ Below w.heap.size w w' := by
 have HR0 := Aside0.mk hr0
 have HC0 := Aside0.mk hc0
 have HZ := Aside0.mk h
 have HL := Aside0.mk hz
 have HASK := Aside0.mk hask
 have HBOX := Aside0.mk hbox
 clear hr0 hc0 h hz hask hbox
 go_enter Try.func35, Try.ntmps35
 go_wp2_with (first | (go_at_call 18; (with_reducible refine (ints_Zones.calls k A0 c0 l0 zs w HR0.out HC0.out HZ.out).mono ?_); rintro e w1 ⟨v9, rfl, hR9, hB1⟩; have HR9 := Aside0.mk hR9; have HB1 := Aside0.mk hB1; clear hR9 hB1; obtain ⟨A9, c9, e9⟩ := Kd.R_slice HR9.out; subst e9) | fail)
 obtain ⟨-, hcap9, hC9⟩ := Kd.R_reads' HR9.out
 have HC9 := Aside0.mk hC9
 clear hC9 hcap9
 have hbx1 : Boxed w1 B 3 (.int .i64 n) := (HB1.out.block B HBOX.out.lt).trans HBOX.out
 have HBX1 := Aside0.mk hbx1
 clear hbx1
 go_loopg [5, 11] zs.length (fun gg v5 v11 wr => ∃ (i : Nat), v11 = .int .i64 (i : Int) ∧ Aside0 (i ≤ zs.length ∧ zs.length - i ≤ gg) ∧ Aside0 (Kd.R (Kd.int .i64) 3 wr w1.heap.size (fun _ => True) v5 (where_at t zs i)) ∧ Aside0 (Below w1.heap.size w1 wr))
 case atStart => exact ⟨0, rfl, ⟨Nat.zero_le _, by omega⟩, ⟨Kd.R_nil _ _ _ _ _⟩, ⟨Below.refl _ _⟩⟩
 case round =>
  obtain ⟨i, rfl, HI, HO, HB⟩ := hrel
  by_cases hlt : i < zs.length
  rotate_left
  ·have g : decide ((i : Int) < (zs.length : Int)) = false := decide_eq_false (by omega)
   have he : i = zs.length := by have := HI.out.1; omega
   subst he
   go_wp2
   go_ret
   exact ⟨_, rfl, Kd.R_lower HO.out HB1.out.size, HB1.out.trans (HB.out.mono HB1.out.size)⟩
  have g : decide ((i : Int) < (zs.length : Int)) = true := decide_eq_true (by omega)
  obtain ⟨ad, e, hx0, hx1, hx2⟩ := at_T38 HC9.out (i : Int) (by omega) (by omega)
  subst e
  have hx0 := (HB.out.cell (World.block_lt_of_cell? w1 _ hx0)).trans hx0
  have hx1 := (HB.out.cell (World.block_lt_of_cell? w1 _ hx1)).trans hx1
  have hx2 := (HB.out.cell (World.block_lt_of_cell? w1 _ hx2)).trans hx2
  rw [Int.toNat_natCast] at hx0 hx1 hx2
  have p := eq_true (show (0 : Int) ≤ (i : Int) by omega)
  have q := eq_true (show (i : Int) < (zs.length : Int) by omega)
  have q' := eq_true hlt
  have hs := where_succ t zs i
  obtain ⟨z, hz⟩ : ∃ z, rd_T38 zs (i : Int) = z := ⟨_, rfl⟩
  rw [hz] at hx0 hx1 hx2 hs
  obtain ⟨z0_, z1_, z2_⟩ := z
  dsimp only at hx0 hx1 hx2
  have HS := Aside0.mk hs
  clear hs
  have hbr : Boxed wr B 3 (.int .i64 n) := (HB.out.block B HBX1.out.lt).trans HBX1.out
  have HBR := Aside0.mk hbr
  clear hbr
  have hnew := fun o => World.alloc_heap_new wr o
  have hsw : w1.heap.size ≤ wr.heap.size := HB.out.size
  have hll := where_len t zs i
  have hlz := HL.out
  cases z0_ with
  | false =>
   go_wp2
   go_roundg (zs.length - (i + 1))
   case measure => have := HI.out.2; omega
   case rel => exact ⟨i + 1, by first | rfl | rw [where_inc (by omega)], ⟨hlt, by omega⟩, ⟨by rw [HS.out]; exact Kd.rA_ HO.out _⟩, ⟨pbA_ HB.out _⟩⟩
  | true =>
   obtain ⟨A5, c5, rfl⟩ := Kd.R_slice HO.out
   have hu := Try.underlying39
   cases hb : t ⟨true, z1_, z2_⟩ with
   | false =>
    have hsk := HS.out
    rw [hb] at hsk
    go_wp2_with (first | (go_at_call 37; (have hcl_ := HASK.out ⟨true, z1_, z2_⟩ _ (HBR.out.alloc (Obj.cells #[Value.bool true, Value.int IntKind.i64 z1_, Value.int IntKind.i64 z2_] 38))); rw [hb] at hcl_; (with_reducible refine hcl_.mono ?_); rintro e w2 ⟨rfl, hb2⟩; have HB2 := Aside0.mk (show Below wr.heap.size wr w2 from (pbA_ (Below.refl _ _) _).trans (hb2.mono (by simp))); clear hb2) | fail)
    go_roundg (zs.length - (i + 1))
    case measure => have := HI.out.2; omega
    case rel => exact ⟨i + 1, by first | rfl | rw [where_inc (by omega)], ⟨hlt, by omega⟩, ⟨by rw [hsk]; exact Kd.R_below HO.out HB2.out⟩, ⟨HB.out.trans (HB2.out.mono hsw)⟩⟩
   | true =>
    have hsk := HS.out
    rw [hb] at hsk
    have HS2 := Aside0.mk hsk
    clear hsk
    go_wp2_with (first | (go_at_call 37; (have hcl_ := HASK.out ⟨true, z1_, z2_⟩ _ (HBR.out.alloc (Obj.cells #[Value.bool true, Value.int IntKind.i64 z1_, Value.int IntKind.i64 z2_] 38))); rw [hb] at hcl_; (with_reducible refine hcl_.mono ?_); rintro e w2 ⟨rfl, hb2⟩; have HB2 := Aside0.mk (show Below wr.heap.size wr w2 from (pbA_ (Below.refl _ _) _).trans (hb2.mono (by simp))); clear hb2) | ((with_reducible refine gate_builtin (b := .append) (xs := #[.tmp 23, .tmp 25]) rfl ?_); at_builtin; refine Kd.R_append (Kd.int .i64) (w0 := w1) w1.heap.size rfl (.tmp 23) (.tmp 25) 39 3 (.int .i64 0) 8 rfl hu info3 rfl (by decide) (by omega) (.slice A5 (where_at t zs i).length c5) (where_at t zs i) (i : Int) [.int .i64 (i : Int)] (fun _ => True) (fun _ => False) rfl rfl ?aP (fun _ hk => hk.elim) ?aF ?aO ?aB ?aS ?aL ?_; (case aP => exact rfl); (case aB => exact HB.out.trans (HB2.out.mono hsw)); (case aF => exact (fun _ _ => trivial)); (case aO => exact Kd.R_below HO.out HB2.out); (case aS => have := HB2.out.size; omega); (case aL => omega); intro v1 w3 ho hb3 hg hat; have HO3 := Aside0.mk ho; have HB3 := Aside0.mk hb3; clear ho hb3 hg hat) | fail)
    go_roundg (zs.length - (i + 1))
    case measure => have := HI.out.2; omega
    case rel => exact ⟨i + 1, by first | rfl | rw [where_inc (by omega)], ⟨hlt, by omega⟩, ⟨by rw [HS2.out]; exact HO3.out⟩, ⟨HB3.out⟩⟩
noncomputable def ints_Above.f (k : Nat) (l0 : List S42) (n : Int) : Option (List Int) := (ints_Zones.f k l0).bind fun zs => if zs.length ≤ 100000 then some (where_at (fun z => decide (z.f2 > n)) zs zs.length) else none
theorem ints_Above.mono : ∀ l n k, LeO (ints_Above.f k l n) (ints_Above.f (k + 1) l n) := by
 intro l n k
 unfold ints_Above.f
 exact LeO.bind (ints_Zones.mono _ _) (fun _ => LeO.refl _)
set_option maxRecDepth 100000 in
set_option maxHeartbeats 4000000 in
theorem ints_Above.calls (k : Nat) (A0 : Option Addr) (c0 : Nat) (l0 : List S42) (a1 : Int) (r : List Int) (w : World) (hr0 : Kd.C k42 w A0 l0.length l0) (hc0 : l0.length ≤ c0) (h : ints_Above.f k l0 a1 = some r) :
  Calls Try.prog 21 #[.slice A0 l0.length c0, .int .i64 a1] w fun e w' => ∃ v0_ : Value, e = .returned (v0_) ∧ Kd.R (Kd.int .i64) 3 w' w.heap.size (fun _ => True) v0_ r ∧ Below w.heap.size w w' := by
 have HR0 := Aside0.mk hr0
 have HC0 := Aside0.mk hc0
 clear hr0 hc0
 unfold ints_Above.f at h
 obtain ⟨zs, hz, h⟩ := Option.bind_eq_some_iff.1 h
 by_cases hlen : zs.length ≤ 100000
 case neg => rw [if_neg hlen] at h; cases h
 rw [if_pos hlen] at h
 have hr := Option.some.inj h
 have HZ := Aside0.mk hz
 have HL := Aside0.mk hlen
 clear h hz hlen
 subst hr
 go_enter Try.func21, Try.ntmps21
 go_wp2_with (first | (go_at_call 35; (with_reducible refine (where_calls_above k (fun z => decide (z.f2 > a1)) w.heap.size a1 A0 c0 l0 zs _ (above_ask _ _) (Boxed.new w 3 (.int .i64 a1)) (Kd.cA_ HR0.out _) HC0.out HZ.out HL.out).mono ?_); rintro e w2 ⟨v2, rfl, hR2, hB2⟩; have HR2 := Aside0.mk hR2; have HB2 := Aside0.mk hB2; clear hR2 hB2) | fail)
 go_ret
 have h1 : w.heap.size ≤ (w.alloc (Obj.cells #[Value.int IntKind.i64 a1] 3)).heap.size := by simp
 exact ⟨_, rfl, Kd.R_lower HR2.out h1, (pbA_ (Below.refl _ _) _).trans (HB2.out.mono h1)⟩
end
noncomputable def dragnetref09_Ints.l0 : Nat → List Int → List Int → Int → Option (Bool)
 | 0, _, _, _ => none
 | k + 1, x0, x1, x5 => if x5 < (x0.length : Int) then (if 0 ≤ x5 then (if x5 < (x1.length : Int) then (if (rd x0 x5) = (rd x1 x5) then (dragnetref09_Ints.l0 k x0 x1 (wrap64 (x5 + 1))) else (some false)) else (none)) else (none)) else (some true)
noncomputable def dragnetref09_Ints.f (k : Nat) (l0 : List Int) (l1 : List Int) : Option (Bool) := if (l0.length : Int) = (l1.length : Int) then (dragnetref09_Ints.l0 k l0 l1 0) else (some false)
theorem dragnetref09_Ints.mono_l : ∀ k, (∀ y0 y1 y2, LeO (dragnetref09_Ints.l0 k y0 y1 y2) (dragnetref09_Ints.l0 (k + 1) y0 y1 y2))
 | 0 => fun _ _ _ r h => by simp [dragnetref09_Ints.l0] at h
 | k + 1 => by
  have ih0 := dragnetref09_Ints.mono_l k
  ·intro y0 y1 y2
   unfold dragnetref09_Ints.l0
   repeat' first
   | (with_reducible exact ih0 _ _ _)
   | (with_reducible exact LeO.refl _)
   | (with_reducible exact LeO.none _)
   | (with_reducible refine LeO.ite ?_ ?_)
   | (with_reducible refine LeO.bind ?_ (fun _ => ?_))
theorem dragnetref09_Ints.mono : ∀ a0 a1 k, LeO (dragnetref09_Ints.f k a0 a1) (dragnetref09_Ints.f (k + 1) a0 a1) := by
 intro a0 a1 k
 have ih0 := dragnetref09_Ints.mono_l k
 unfold dragnetref09_Ints.f
 repeat' first
   | (with_reducible exact ih0 _ _ _)
   | (with_reducible exact LeO.refl _)
   | (with_reducible exact LeO.none _)
   | (with_reducible refine LeO.ite ?_ ?_)
   | (with_reducible refine LeO.bind ?_ (fun _ => ?_))
set_option maxHeartbeats 8000000 in
set_option maxRecDepth 100000 in
theorem dragnetref09_Ints.calls (k : Nat) (A0 : Option Addr) (c0 : Nat) (l0 : List Int) (A1 : Option Addr) (c1 : Nat) (l1 : List Int) (r : Bool) (w : World) (hr0 : Kd.C (Kd.int .i64) w A0 l0.length l0) (hc0 : l0.length ≤ c0) (hr1 : Kd.C (Kd.int .i64) w A1 l1.length l1) (hc1 : l1.length ≤ c1) (h : dragnetref09_Ints.f k l0 l1 = some r) :
  Calls Try.prog 22 #[.slice A0 l0.length c0, .slice A1 l1.length c1] w fun e w' => e = .returned (.bool r) ∧ Drawn0 w w' := by
 have HR0 := Aside0.mk hr0
 have HC0 := Aside0.mk hc0
 clear hr0 hc0
 have HR1 := Aside0.mk hr1
 have HC1 := Aside0.mk hc1
 clear hr1 hc1
 have H : (if (l0.length : Int) = (l1.length : Int) then (dragnetref09_Ints.l0 k l0 l1 0) else (some false)) = some r := h
 clear h
 by_cases c3 : (l0.length : Int) = (l1.length : Int)
 rotate_left
 ·rw [if_neg c3] at H
  have c3b0 : ((l0.length : Int) == (l1.length : Int)) = false := beq_eq_false_iff_ne.mpr c3
  have c3b1 : ((l0.length : Int) != (l1.length : Int)) = true := bne_iff_ne.mpr c3
  have c3b2 : (l0.length == l1.length) = false := by first | simpa using c3 | (simp at c3 ⊢; omega)
  obtain rfl := Option.some.inj H
  go_enter Try.func22, Try.ntmps22
  go_wp2
  repeat (go_quiet (fail); try go_wp2)
  go_ret
  exact ⟨by first | rfl | (simp; done) | (simp [*]; done), by repeat (first | exact Drawn0.refl _ | apply Drawn0.step)⟩
 rw [if_pos c3] at H
 have c3b0 : ((l0.length : Int) == (l1.length : Int)) = true := beq_iff_eq.mpr c3
 have c3b1 : ((l0.length : Int) != (l1.length : Int)) = false := bne_eq_false_iff_eq.mpr c3
 have c3b2 : (l0.length == l1.length) = true := by first | simpa using c3 | (simp at c3 ⊢; omega)
 clear c3
 have H' := Aside0.mk H
 clear H
 go_enter Try.func22, Try.ntmps22
 go_wp2
 repeat (go_quiet (fail); try go_wp2)
 go_loopg [5] k (fun kq v5 w' => ∃ (x5_1 : Int), v5 = .int .i64 x5_1 ∧ Aside0 (dragnetref09_Ints.l0 kq l0 l1 x5_1 = some r) ∧ Aside0 (kq ≤ k) ∧ Drawn0 w w')
 case atStart => exact ⟨(0), (by first | rfl | (simp; done) | (simp [*]; done)), H', ⟨Nat.le_refl _⟩, by repeat (first | exact Drawn0.refl _ | apply Drawn0.step)⟩
 case round =>
  clear H'
  try clear c1
  try clear c2
  try clear p2
  try clear c3
  try clear c3b0
  try clear c3b1
  try clear c3b2
  obtain ⟨x5_1, rfl, HA, HK1, ⟨m1, rfl⟩⟩ := hrel
  cases gk with
  | zero => exact absurd HA.out (by simp [dragnetref09_Ints.l0])
  | succ k1 =>
   have H := HA.out
   clear HA
   simp only [dragnetref09_Ints.l0] at H
   by_cases c4 : x5_1 < (l0.length : Int)
   rotate_left
   ·rw [if_neg c4] at H
    have c4b0 : decide (x5_1 < (l0.length : Int)) = false := decide_eq_false c4
    clear c4
    obtain rfl := Option.some.inj H
    go_wp2
    repeat (go_quiet (fail); try go_wp2)
    go_ret
    exact ⟨by first | rfl | (simp; done) | (simp [*]; done), by repeat (first | exact Drawn0.refl _ | apply Drawn0.step)⟩
   rw [if_pos c4] at H
   have c4b0 : decide (x5_1 < (l0.length : Int)) = true := decide_eq_true c4
   clear c4
   by_cases c5 : 0 ≤ x5_1
   rotate_left
   ·rw [if_neg c5] at H
    exact absurd H (by simp)
   rw [if_pos c5] at H
   have c5b0 : decide (0 ≤ x5_1) = true := decide_eq_true c5
   clear c5
   by_cases c6 : x5_1 < (l1.length : Int)
   rotate_left
   ·rw [if_neg c6] at H
    exact absurd H (by simp)
   rw [if_pos c6] at H
   have c6b0 : decide (x5_1 < (l1.length : Int)) = true := decide_eq_true c6
   clear c6
   by_cases c7 : (rd l0 x5_1) = (rd l1 x5_1)
   rotate_left
   ·rw [if_neg c7] at H
    have c7b0 : ((rd l0 x5_1) == (rd l1 x5_1)) = false := beq_eq_false_iff_ne.mpr c7
    have c7b1 : ((rd l0 x5_1) != (rd l1 x5_1)) = true := bne_iff_ne.mpr c7
    obtain rfl := Option.some.inj H
    have p229 : 0 ≤ (x5_1 : Int) := od_
    have q229 : x5_1 < (l0.length : Int) := od_
    obtain ⟨ad229, e229, hx229_0⟩ := Kd.at_int HR0.out x5_1 p229 q229
    cases e229
    replace p229 := eq_true p229
    replace q229 := eq_true q229
    have p230 : 0 ≤ (x5_1 : Int) := od_
    have q230 : x5_1 < (l1.length : Int) := od_
    obtain ⟨ad230, e230, hx230_0⟩ := Kd.at_int HR1.out x5_1 p230 q230
    cases e230
    replace p230 := eq_true p230
    replace q230 := eq_true q230
    go_wp2
    repeat (go_quiet (fail); try go_wp2)
    go_ret
    exact ⟨by first | rfl | (simp; done) | (simp [*]; done), by repeat (first | exact Drawn0.refl _ | apply Drawn0.step)⟩
   rw [if_pos c7] at H
   have c7b0 : ((rd l0 x5_1) == (rd l1 x5_1)) = true := beq_iff_eq.mpr c7
   have c7b1 : ((rd l0 x5_1) != (rd l1 x5_1)) = false := bne_eq_false_iff_eq.mpr c7
   clear c7
   have H' := Aside0.mk H
   clear H
   have p229 : 0 ≤ (x5_1 : Int) := od_
   have q229 : x5_1 < (l0.length : Int) := od_
   obtain ⟨ad229, e229, hx229_0⟩ := Kd.at_int HR0.out x5_1 p229 q229
   cases e229
   replace p229 := eq_true p229
   replace q229 := eq_true q229
   have p230 : 0 ≤ (x5_1 : Int) := od_
   have q230 : x5_1 < (l1.length : Int) := od_
   obtain ⟨ad230, e230, hx230_0⟩ := Kd.at_int HR1.out x5_1 p230 q230
   cases e230
   replace p230 := eq_true p230
   replace q230 := eq_true q230
   go_wp2
   repeat (go_quiet (fail); try go_wp2)
   go_roundg k1
   case measure => have := HK1.out; omega
   case rel => exact ⟨(wrap64 (x5_1 + 1)), (by first | rfl | (simp; done) | (simp [*]; done)), H', ⟨by have := HK1.out; omega⟩, by repeat (first | exact Drawn0.refl _ | apply Drawn0.step)⟩
noncomputable def dragnetlaw10_alive.f (k : Nat)  : Option (Bool) := (some (([(⟨true, 5⟩ : S42), (⟨false, 0⟩ : S42), (⟨true, 7⟩ : S42)] : List (S42)) : List (S42))).bind fun y231 => ((ints_Put.f k ([] : List Int) y231).bind fun bt234 => (if bt234.2 = 0 then (if (bt234.1.length : Int) > 2 then (if 0 < (bt234.1.length : Int) then (if (rd bt234.1 0) = 3 then (if 1 < (bt234.1.length : Int) then (if (rd bt234.1 1) = 5 then ((ints_Below.f k y231 6).bind fun t240 => ((dragnetref09_Ints.f k t240 (([0] : List Int))).bind fun t246 => (if t246 = true then ((ints_Above.f k y231 7).bind fun t247 => (some ((t247.length : Int) == 0))) else (some false)))) else (some false)) else (none)) else (some false)) else (none)) else (some false)) else (some false)))
theorem dragnetlaw10_alive.mono : ∀ k, LeO (dragnetlaw10_alive.f k ) (dragnetlaw10_alive.f (k + 1) ) := by
 intro  k
 unfold dragnetlaw10_alive.f
 repeat' first
   | (with_reducible exact dragnetref09_Ints.mono _ _ _)
   | (with_reducible exact ints_Above.mono _ _ _)
   | (with_reducible exact ints_Below.mono _ _ _)
   | (with_reducible exact ints_Put.mono _ _ _)
   | (with_reducible exact LeO.refl _)
   | (with_reducible exact LeO.none _)
   | (with_reducible refine LeO.ite ?_ ?_)
   | (with_reducible refine LeO.bind ?_ (fun _ => ?_))
set_option maxHeartbeats 8000000 in
set_option maxRecDepth 100000 in
theorem dragnetlaw10_alive.calls (k : Nat)  (r : Bool) (w : World) (h : dragnetlaw10_alive.f k  = some r) :
  Calls Try.prog 9 #[] w fun e w' => e = .returned (.bool r) ∧ Below w.heap.size w w' := by
 have hu42 := Try.underlying42
 have HB := Aside0.mk (Below.refl w.heap.size w)
 have H : ((some (([(⟨true, 5⟩ : S42), (⟨false, 0⟩ : S42), (⟨true, 7⟩ : S42)] : List (S42)) : List (S42))).bind fun y231 => ((ints_Put.f k ([] : List Int) y231).bind fun bt234 => (if bt234.2 = 0 then (if (bt234.1.length : Int) > 2 then (if 0 < (bt234.1.length : Int) then (if (rd bt234.1 0) = 3 then (if 1 < (bt234.1.length : Int) then (if (rd bt234.1 1) = 5 then ((ints_Below.f k y231 6).bind fun t240 => ((dragnetref09_Ints.f k t240 (([0] : List Int))).bind fun t246 => (if t246 = true then ((ints_Above.f k y231 7).bind fun t247 => (some ((t247.length : Int) == 0))) else (some false)))) else (some false)) else (none)) else (some false)) else (none)) else (some false)) else (some false)))) = some r := h
 clear h
 obtain ⟨y231, hy231⟩ : ∃ y_ : List (S42), y_ = (([(⟨true, 5⟩ : S42), (⟨false, 0⟩ : S42), (⟨true, 7⟩ : S42)] : List (S42))) := ⟨_, rfl⟩
 replace H : ((ints_Put.f k ([] : List Int) y231).bind fun bt234 => (if bt234.2 = 0 then (if (bt234.1.length : Int) > 2 then (if 0 < (bt234.1.length : Int) then (if (rd bt234.1 0) = 3 then (if 1 < (bt234.1.length : Int) then (if (rd bt234.1 1) = 5 then ((ints_Below.f k y231 6).bind fun t240 => ((dragnetref09_Ints.f k t240 (([0] : List Int))).bind fun t246 => (if t246 = true then ((ints_Above.f k y231 7).bind fun t247 => (some ((t247.length : Int) == 0))) else (some false)))) else (some false)) else (none)) else (some false)) else (none)) else (some false)) else (some false))) = some r := by first | (rw [hy231]; with_reducible exact H) | (have H2_ := (Option.bind_some _ _).symm.trans H; rw [hy231]; with_reducible exact H2_) | (have H2_ := (Option.bind_some _ _).symm.trans H; with_reducible exact H2_) | with_reducible exact H | (rw [hy231]; exact H) | exact H
 have Ny231 := Aside0.mk hy231
 clear hy231
 replace H := Option.bind_eq_some_iff.mp H
 obtain ⟨⟨t234, t235⟩, A10, H⟩ := H
 replace H : (if t235 = 0 then (if (t234.length : Int) > 2 then (if 0 < (t234.length : Int) then (if (rd t234 0) = 3 then (if 1 < (t234.length : Int) then (if (rd t234 1) = 5 then ((ints_Below.f k y231 6).bind fun t240 => ((dragnetref09_Ints.f k t240 (([0] : List Int))).bind fun t246 => (if t246 = true then ((ints_Above.f k y231 7).bind fun t247 => (some ((t247.length : Int) == 0))) else (some false)))) else (some false)) else (none)) else (some false)) else (none)) else (some false)) else (some false)) = some r := H
 have A1 := Aside0.mk A10
 clear A10
 by_cases c2 : t235 = 0
 rotate_left
 ·rw [if_neg c2] at H
  have c2b0 : (t235 == 0) = false := beq_eq_false_iff_ne.mpr c2
  have c2b1 : (t235 != 0) = true := bne_iff_ne.mpr c2
  obtain rfl := Option.some.inj H
  go_enter Try.func9, Try.ntmps9
  go_wp2_with (first | ((with_reducible refine gate_dst (N := 7) rfl ?_); (try (refine gate_guard (by rfl) ?_; dsimp only)); refine Kd.R_lit k42 _ 42 ?hg (N := 7) ?hd (xs := ([(⟨true, 5⟩ : S42), (⟨false, 0⟩ : S42), (⟨true, 7⟩ : S42)] : List (S42))) (inner := [.bool true, .int .i64 5, .bool false, .int .i64 0, .bool true, .int .i64 7]) (ok := fun _ => True) (okp := fun _ => True) ?hr ?hp (fun _ hk => hk) trivial (Below.refl _ _) (Nat.le_refl _) (by simp) ?_; (case hd => rfl); (case hg => rfl); (case hr => first | (go_simp; done) | (go_simp; rfl)); (case hp => exact (Reps.c2 (show Kd.M k42 _ _ _ (⟨true, 5⟩ : S42) [.bool true, .int .i64 5] from (k42_mkM _ _ _ (⟨true, 5⟩ : S42) )) (Reps.c2 (show Kd.M k42 _ _ _ (⟨false, 0⟩ : S42) [.bool false, .int .i64 0] from (k42_mkM _ _ _ (⟨false, 0⟩ : S42) )) (Reps.c2 (show Kd.M k42 _ _ _ (⟨true, 7⟩ : S42) [.bool true, .int .i64 7] from (k42_mkM _ _ _ (⟨true, 7⟩ : S42) )) (Reps.none _ _))))); intro v232 w49 ho50 hb hg_ hnew_; clear hg_ hnew_; (first | rw [← Ny231.out] at ho50 | (simp only [Int.reduceToNat] at ho50; rw [← Ny231.out] at ho50)); have HO233 := Aside0.mk (Kd.R_lower ho50 (pbS_ bw_)); replace HB := Aside0.mk (below_step bw_ hb); clear hb ho50; obtain ⟨Ao51, co51, eo51⟩ := Kd.R_slice HO233.out; subst eo51) | ((with_reducible refine gaC_ (f := 12) rfl ?_); refine goesL_ (some 10) rfl rfl Try.func12 (by kernel_rfl) rfl #[.slice none 0 0, .slice Ao51 y231.length co51] rfl (by (try simp only [List.map_toArray, List.map_cons, List.map_nil]); first | done | rfl | (simp only [List.length_drop, List.length_take]; rfl)) ?_; (refine (ints_Put.calls k _ _ ([] : List Int) _ _ y231 t234 t235 _ ?side1 ?side2 ?side3 ?side4 A1.out).mono ?_); (case side1 => exact Kd.C_nil _ _); (case side2 => exact Nat.le_refl _); (case side3 => exact Kd.cu_ (Kd.R_reads' HO233.out).2.2); (case side4 => exact (Kd.R_reads' HO233.out).2.1); rintro e w52 ⟨v236, rfl, ho0, hb⟩; refine ⟨_, rfl, ?_⟩; replace HO233 := Aside0.mk (Kd.R_below (Kd.ru_ HO233.out) hb); have HO237 := Aside0.mk (Kd.R_lower ho0 (pbS_ bw_)); replace HB := Aside0.mk (below_step bw_ hb); (try clear hb); (try clear hb2); (try clear hk); (try clear hi); (try clear ho0)))
  go_ret
  exact ⟨rf_, bw_⟩
 rw [if_pos c2] at H
 have c2b0 : (t235 == 0) = true := beq_iff_eq.mpr c2
 have c2b1 : (t235 != 0) = false := bne_eq_false_iff_eq.mpr c2
 clear c2
 by_cases c3 : (t234.length : Int) > 2
 rotate_left
 ·rw [if_neg c3] at H
  have c3b0 : decide (2 < (t234.length : Int)) = false := decide_eq_false c3
  have c3b1 : decide (2 < t234.length) = false := decide_eq_false (by omega)
  clear c3
  obtain rfl := Option.some.inj H
  go_enter Try.func9, Try.ntmps9
  go_wp2_with (first | ((with_reducible refine gate_dst (N := 7) rfl ?_); (try (refine gate_guard (by rfl) ?_; dsimp only)); refine Kd.R_lit k42 _ 42 ?hg (N := 7) ?hd (xs := ([(⟨true, 5⟩ : S42), (⟨false, 0⟩ : S42), (⟨true, 7⟩ : S42)] : List (S42))) (inner := [.bool true, .int .i64 5, .bool false, .int .i64 0, .bool true, .int .i64 7]) (ok := fun _ => True) (okp := fun _ => True) ?hr ?hp (fun _ hk => hk) trivial (Below.refl _ _) (Nat.le_refl _) (by simp) ?_; (case hd => rfl); (case hg => rfl); (case hr => first | (go_simp; done) | (go_simp; rfl)); (case hp => exact (Reps.c2 (show Kd.M k42 _ _ _ (⟨true, 5⟩ : S42) [.bool true, .int .i64 5] from (k42_mkM _ _ _ (⟨true, 5⟩ : S42) )) (Reps.c2 (show Kd.M k42 _ _ _ (⟨false, 0⟩ : S42) [.bool false, .int .i64 0] from (k42_mkM _ _ _ (⟨false, 0⟩ : S42) )) (Reps.c2 (show Kd.M k42 _ _ _ (⟨true, 7⟩ : S42) [.bool true, .int .i64 7] from (k42_mkM _ _ _ (⟨true, 7⟩ : S42) )) (Reps.none _ _))))); intro v232 w44 ho45 hb hg_ hnew_; clear hg_ hnew_; (first | rw [← Ny231.out] at ho45 | (simp only [Int.reduceToNat] at ho45; rw [← Ny231.out] at ho45)); have HO233 := Aside0.mk (Kd.R_lower ho45 (pbS_ bw_)); replace HB := Aside0.mk (below_step bw_ hb); clear hb ho45; obtain ⟨Ao46, co46, eo46⟩ := Kd.R_slice HO233.out; subst eo46) | ((with_reducible refine gaC_ (f := 12) rfl ?_); refine goesL_ (some 10) rfl rfl Try.func12 (by kernel_rfl) rfl #[.slice none 0 0, .slice Ao46 y231.length co46] rfl (by (try simp only [List.map_toArray, List.map_cons, List.map_nil]); first | done | rfl | (simp only [List.length_drop, List.length_take]; rfl)) ?_; (refine (ints_Put.calls k _ _ ([] : List Int) _ _ y231 t234 t235 _ ?side1 ?side2 ?side3 ?side4 A1.out).mono ?_); (case side1 => exact Kd.C_nil _ _); (case side2 => exact Nat.le_refl _); (case side3 => exact Kd.cu_ (Kd.R_reads' HO233.out).2.2); (case side4 => exact (Kd.R_reads' HO233.out).2.1); rintro e w47 ⟨v236, rfl, ho0, hb⟩; refine ⟨_, rfl, ?_⟩; replace HO233 := Aside0.mk (Kd.R_below (Kd.ru_ HO233.out) hb); have HO237 := Aside0.mk (Kd.R_lower ho0 (pbS_ bw_)); replace HB := Aside0.mk (below_step bw_ hb); (try clear hb); (try clear hb2); (try clear hk); (try clear hi); (try clear ho0); obtain ⟨Ao48, co48, eo48⟩ := Kd.R_slice HO237.out; subst eo48))
  go_ret
  exact ⟨rf_, bw_⟩
 rw [if_pos c3] at H
 have c3b0 : decide (2 < (t234.length : Int)) = true := decide_eq_true c3
 have c3b1 : decide (2 < t234.length) = true := decide_eq_true (by omega)
 clear c3
 by_cases c4 : 0 < (t234.length : Int)
 rotate_left
 ·rw [if_neg c4] at H
  exact absurd H (by simp)
 rw [if_pos c4] at H
 have c4b0 : decide (0 < (t234.length : Int)) = true := decide_eq_true c4
 have c4b1 : decide (0 < t234.length) = true := decide_eq_true (by omega)
 clear c4
 by_cases c5 : (rd t234 0) = 3
 rotate_left
 ·rw [if_neg c5] at H
  have c5b0 : ((rd t234 0) == 3) = false := beq_eq_false_iff_ne.mpr c5
  have c5b1 : ((rd t234 0) != 3) = true := bne_iff_ne.mpr c5
  obtain rfl := Option.some.inj H
  go_enter Try.func9, Try.ntmps9
  go_wp2_with (first | ((with_reducible refine gate_dst (N := 7) rfl ?_); (try (refine gate_guard (by rfl) ?_; dsimp only)); refine Kd.R_lit k42 _ 42 ?hg (N := 7) ?hd (xs := ([(⟨true, 5⟩ : S42), (⟨false, 0⟩ : S42), (⟨true, 7⟩ : S42)] : List (S42))) (inner := [.bool true, .int .i64 5, .bool false, .int .i64 0, .bool true, .int .i64 7]) (ok := fun _ => True) (okp := fun _ => True) ?hr ?hp (fun _ hk => hk) trivial (Below.refl _ _) (Nat.le_refl _) (by simp) ?_; (case hd => rfl); (case hg => rfl); (case hr => first | (go_simp; done) | (go_simp; rfl)); (case hp => exact (Reps.c2 (show Kd.M k42 _ _ _ (⟨true, 5⟩ : S42) [.bool true, .int .i64 5] from (k42_mkM _ _ _ (⟨true, 5⟩ : S42) )) (Reps.c2 (show Kd.M k42 _ _ _ (⟨false, 0⟩ : S42) [.bool false, .int .i64 0] from (k42_mkM _ _ _ (⟨false, 0⟩ : S42) )) (Reps.c2 (show Kd.M k42 _ _ _ (⟨true, 7⟩ : S42) [.bool true, .int .i64 7] from (k42_mkM _ _ _ (⟨true, 7⟩ : S42) )) (Reps.none _ _))))); intro v232 w39 ho40 hb hg_ hnew_; clear hg_ hnew_; (first | rw [← Ny231.out] at ho40 | (simp only [Int.reduceToNat] at ho40; rw [← Ny231.out] at ho40)); have HO233 := Aside0.mk (Kd.R_lower ho40 (pbS_ bw_)); replace HB := Aside0.mk (below_step bw_ hb); clear hb ho40; obtain ⟨Ao41, co41, eo41⟩ := Kd.R_slice HO233.out; subst eo41) | ((with_reducible refine gaC_ (f := 12) rfl ?_); refine goesL_ (some 10) rfl rfl Try.func12 (by kernel_rfl) rfl #[.slice none 0 0, .slice Ao41 y231.length co41] rfl (by (try simp only [List.map_toArray, List.map_cons, List.map_nil]); first | done | rfl | (simp only [List.length_drop, List.length_take]; rfl)) ?_; (refine (ints_Put.calls k _ _ ([] : List Int) _ _ y231 t234 t235 _ ?side1 ?side2 ?side3 ?side4 A1.out).mono ?_); (case side1 => exact Kd.C_nil _ _); (case side2 => exact Nat.le_refl _); (case side3 => exact Kd.cu_ (Kd.R_reads' HO233.out).2.2); (case side4 => exact (Kd.R_reads' HO233.out).2.1); rintro e w42 ⟨v236, rfl, ho0, hb⟩; refine ⟨_, rfl, ?_⟩; replace HO233 := Aside0.mk (Kd.R_below (Kd.ru_ HO233.out) hb); have HO237 := Aside0.mk (Kd.R_lower ho0 (pbS_ bw_)); replace HB := Aside0.mk (below_step bw_ hb); (try clear hb); (try clear hb2); (try clear hk); (try clear hi); (try clear ho0); obtain ⟨Ao43, co43, eo43⟩ := Kd.R_slice HO237.out; subst eo43; have p238 : 0 ≤ (0 : Int) := (by omega); have q238 : 0 < (t234.length : Int) := od_; obtain ⟨ad238, e238, hx238_0⟩ := Kd.at_int (Kd.R_reads' HO237.out).2.2 0 p238 q238; cases e238; have qi238 : (0 < t234.length) = True := eq_true (by omega); (try rw [show ((0 : Int)).toNat = 0 from rfl] at hx238_0); (try rw [Addr.add_zero'] at hx238_0); replace p238 := eq_true p238; replace q238 := eq_true q238))
  go_ret
  exact ⟨rf_, bw_⟩
 rw [if_pos c5] at H
 have c5b0 : ((rd t234 0) == 3) = true := beq_iff_eq.mpr c5
 have c5b1 : ((rd t234 0) != 3) = false := bne_eq_false_iff_eq.mpr c5
 clear c5
 by_cases c6 : 1 < (t234.length : Int)
 rotate_left
 ·rw [if_neg c6] at H
  exact absurd H (by simp)
 rw [if_pos c6] at H
 have c6b0 : decide (1 < (t234.length : Int)) = true := decide_eq_true c6
 have c6b1 : decide (1 < t234.length) = true := decide_eq_true (by omega)
 clear c6
 by_cases c7 : (rd t234 1) = 5
 rotate_left
 ·rw [if_neg c7] at H
  have c7b0 : ((rd t234 1) == 5) = false := beq_eq_false_iff_ne.mpr c7
  have c7b1 : ((rd t234 1) != 5) = true := bne_iff_ne.mpr c7
  obtain rfl := Option.some.inj H
  go_enter Try.func9, Try.ntmps9
  go_wp2_with (first | ((with_reducible refine gate_dst (N := 7) rfl ?_); (try (refine gate_guard (by rfl) ?_; dsimp only)); refine Kd.R_lit k42 _ 42 ?hg (N := 7) ?hd (xs := ([(⟨true, 5⟩ : S42), (⟨false, 0⟩ : S42), (⟨true, 7⟩ : S42)] : List (S42))) (inner := [.bool true, .int .i64 5, .bool false, .int .i64 0, .bool true, .int .i64 7]) (ok := fun _ => True) (okp := fun _ => True) ?hr ?hp (fun _ hk => hk) trivial (Below.refl _ _) (Nat.le_refl _) (by simp) ?_; (case hd => rfl); (case hg => rfl); (case hr => first | (go_simp; done) | (go_simp; rfl)); (case hp => exact (Reps.c2 (show Kd.M k42 _ _ _ (⟨true, 5⟩ : S42) [.bool true, .int .i64 5] from (k42_mkM _ _ _ (⟨true, 5⟩ : S42) )) (Reps.c2 (show Kd.M k42 _ _ _ (⟨false, 0⟩ : S42) [.bool false, .int .i64 0] from (k42_mkM _ _ _ (⟨false, 0⟩ : S42) )) (Reps.c2 (show Kd.M k42 _ _ _ (⟨true, 7⟩ : S42) [.bool true, .int .i64 7] from (k42_mkM _ _ _ (⟨true, 7⟩ : S42) )) (Reps.none _ _))))); intro v232 w34 ho35 hb hg_ hnew_; clear hg_ hnew_; (first | rw [← Ny231.out] at ho35 | (simp only [Int.reduceToNat] at ho35; rw [← Ny231.out] at ho35)); have HO233 := Aside0.mk (Kd.R_lower ho35 (pbS_ bw_)); replace HB := Aside0.mk (below_step bw_ hb); clear hb ho35; obtain ⟨Ao36, co36, eo36⟩ := Kd.R_slice HO233.out; subst eo36) | ((with_reducible refine gaC_ (f := 12) rfl ?_); refine goesL_ (some 10) rfl rfl Try.func12 (by kernel_rfl) rfl #[.slice none 0 0, .slice Ao36 y231.length co36] rfl (by (try simp only [List.map_toArray, List.map_cons, List.map_nil]); first | done | rfl | (simp only [List.length_drop, List.length_take]; rfl)) ?_; (refine (ints_Put.calls k _ _ ([] : List Int) _ _ y231 t234 t235 _ ?side1 ?side2 ?side3 ?side4 A1.out).mono ?_); (case side1 => exact Kd.C_nil _ _); (case side2 => exact Nat.le_refl _); (case side3 => exact Kd.cu_ (Kd.R_reads' HO233.out).2.2); (case side4 => exact (Kd.R_reads' HO233.out).2.1); rintro e w37 ⟨v236, rfl, ho0, hb⟩; refine ⟨_, rfl, ?_⟩; replace HO233 := Aside0.mk (Kd.R_below (Kd.ru_ HO233.out) hb); have HO237 := Aside0.mk (Kd.R_lower ho0 (pbS_ bw_)); replace HB := Aside0.mk (below_step bw_ hb); (try clear hb); (try clear hb2); (try clear hk); (try clear hi); (try clear ho0); obtain ⟨Ao38, co38, eo38⟩ := Kd.R_slice HO237.out; subst eo38; have p238 : 0 ≤ (0 : Int) := (by omega); have q238 : 0 < (t234.length : Int) := od_; obtain ⟨ad238, e238, hx238_0⟩ := Kd.at_int (Kd.R_reads' HO237.out).2.2 0 p238 q238; cases e238; have qi238 : (0 < t234.length) = True := eq_true (by omega); (try rw [show ((0 : Int)).toNat = 0 from rfl] at hx238_0); (try rw [Addr.add_zero'] at hx238_0); replace p238 := eq_true p238; replace q238 := eq_true q238; have p239 : 0 ≤ (1 : Int) := (by omega); have q239 : 1 < (t234.length : Int) := od_; obtain ⟨ad239, e239, hx239_0⟩ := Kd.at_int (Kd.R_reads' HO237.out).2.2 1 p239 q239; obtain rfl : ad238 = ad239 := (by injection e239); (try simp only [show (1 : Int).toNat = 1 from rfl, Nat.reduceMul, Nat.reduceEqDiff, Go.Addr.add, ↓reduceIte] at hx239_0); have qi239 : (1 < t234.length) = True := eq_true (by omega); (try rw [show ((1 : Int)).toNat = 1 from rfl] at hx239_0); replace p239 := eq_true p239; replace q239 := eq_true q239))
  go_ret
  exact ⟨rf_, bw_⟩
 rw [if_pos c7] at H
 have c7b0 : ((rd t234 1) == 5) = true := beq_iff_eq.mpr c7
 have c7b1 : ((rd t234 1) != 5) = false := bne_eq_false_iff_eq.mpr c7
 clear c7
 replace H := Option.bind_eq_some_iff.mp H
 obtain ⟨t240, A80, H⟩ := H
 replace H : ((dragnetref09_Ints.f k t240 (([0] : List Int))).bind fun t246 => (if t246 = true then ((ints_Above.f k y231 7).bind fun t247 => (some ((t247.length : Int) == 0))) else (some false))) = some r := H
 have A8 := Aside0.mk A80
 clear A80
 obtain ⟨y243, hy243⟩ : ∃ y_ : List Int, y_ = (([0] : List Int)) := ⟨_, rfl⟩
 replace H : ((dragnetref09_Ints.f k t240 y243).bind fun t246 => (if t246 = true then ((ints_Above.f k y231 7).bind fun t247 => (some ((t247.length : Int) == 0))) else (some false))) = some r := by first | (rw [hy243]; with_reducible exact H) | (have H2_ := (Option.bind_some _ _).symm.trans H; rw [hy243]; with_reducible exact H2_) | (have H2_ := (Option.bind_some _ _).symm.trans H; with_reducible exact H2_) | with_reducible exact H | (rw [hy243]; exact H) | exact H
 have Ny243 := Aside0.mk hy243
 clear hy243
 replace H := Option.bind_eq_some_iff.mp H
 obtain ⟨t246, A90, H⟩ := H
 replace H : (if t246 = true then ((ints_Above.f k y231 7).bind fun t247 => (some ((t247.length : Int) == 0))) else (some false)) = some r := H
 have A9 := Aside0.mk A90
 clear A90
 by_cases c10 : t246 = true
 rotate_left
 ·replace c10 := Bool.eq_false_iff.mpr c10
  subst c10
  have H1 : (some false) = some r := by rw [if_neg (show ¬ (false = true) by decide)] at H; exact H
  clear H
  have H := H1
  clear H1
  obtain rfl := Option.some.inj H
  go_enter Try.func9, Try.ntmps9
  go_wp2_with (first | ((with_reducible refine gate_dst (N := 7) rfl ?_); (try (refine gate_guard (by rfl) ?_; dsimp only)); refine Kd.R_lit k42 _ 42 ?hg (N := 7) ?hd (xs := ([(⟨true, 5⟩ : S42), (⟨false, 0⟩ : S42), (⟨true, 7⟩ : S42)] : List (S42))) (inner := [.bool true, .int .i64 5, .bool false, .int .i64 0, .bool true, .int .i64 7]) (ok := fun _ => True) (okp := fun _ => True) ?hr ?hp (fun _ hk => hk) trivial (Below.refl _ _) (Nat.le_refl _) (by simp) ?_; (case hd => rfl); (case hg => rfl); (case hr => first | (go_simp; done) | (go_simp; rfl)); (case hp => exact (Reps.c2 (show Kd.M k42 _ _ _ (⟨true, 5⟩ : S42) [.bool true, .int .i64 5] from (k42_mkM _ _ _ (⟨true, 5⟩ : S42) )) (Reps.c2 (show Kd.M k42 _ _ _ (⟨false, 0⟩ : S42) [.bool false, .int .i64 0] from (k42_mkM _ _ _ (⟨false, 0⟩ : S42) )) (Reps.c2 (show Kd.M k42 _ _ _ (⟨true, 7⟩ : S42) [.bool true, .int .i64 7] from (k42_mkM _ _ _ (⟨true, 7⟩ : S42) )) (Reps.none _ _))))); intro v232 w24 ho25 hb hg_ hnew_; clear hg_ hnew_; (first | rw [← Ny231.out] at ho25 | (simp only [Int.reduceToNat] at ho25; rw [← Ny231.out] at ho25)); have HO233 := Aside0.mk (Kd.R_lower ho25 (pbS_ bw_)); replace HB := Aside0.mk (below_step bw_ hb); clear hb ho25; obtain ⟨Ao26, co26, eo26⟩ := Kd.R_slice HO233.out; subst eo26) | ((with_reducible refine gaC_ (f := 12) rfl ?_); refine goesL_ (some 10) rfl rfl Try.func12 (by kernel_rfl) rfl #[.slice none 0 0, .slice Ao26 y231.length co26] rfl (by (try simp only [List.map_toArray, List.map_cons, List.map_nil]); first | done | rfl | (simp only [List.length_drop, List.length_take]; rfl)) ?_; (refine (ints_Put.calls k _ _ ([] : List Int) _ _ y231 t234 t235 _ ?side1 ?side2 ?side3 ?side4 A1.out).mono ?_); (case side1 => exact Kd.C_nil _ _); (case side2 => exact Nat.le_refl _); (case side3 => exact Kd.cu_ (Kd.R_reads' HO233.out).2.2); (case side4 => exact (Kd.R_reads' HO233.out).2.1); rintro e w27 ⟨v236, rfl, ho0, hb⟩; refine ⟨_, rfl, ?_⟩; replace HO233 := Aside0.mk (Kd.R_below (Kd.ru_ HO233.out) hb); have HO237 := Aside0.mk (Kd.R_lower ho0 (pbS_ bw_)); replace HB := Aside0.mk (below_step bw_ hb); (try clear hb); (try clear hb2); (try clear hk); (try clear hi); (try clear ho0); obtain ⟨Ao28, co28, eo28⟩ := Kd.R_slice HO237.out; subst eo28; have p238 : 0 ≤ (0 : Int) := (by omega); have q238 : 0 < (t234.length : Int) := od_; obtain ⟨ad238, e238, hx238_0⟩ := Kd.at_int (Kd.R_reads' HO237.out).2.2 0 p238 q238; cases e238; have qi238 : (0 < t234.length) = True := eq_true (by omega); (try rw [show ((0 : Int)).toNat = 0 from rfl] at hx238_0); (try rw [Addr.add_zero'] at hx238_0); replace p238 := eq_true p238; replace q238 := eq_true q238; have p239 : 0 ≤ (1 : Int) := (by omega); have q239 : 1 < (t234.length : Int) := od_; obtain ⟨ad239, e239, hx239_0⟩ := Kd.at_int (Kd.R_reads' HO237.out).2.2 1 p239 q239; obtain rfl : ad238 = ad239 := (by injection e239); (try simp only [show (1 : Int).toNat = 1 from rfl, Nat.reduceMul, Nat.reduceEqDiff, Go.Addr.add, ↓reduceIte] at hx239_0); have qi239 : (1 < t234.length) = True := eq_true (by omega); (try rw [show ((1 : Int)).toNat = 1 from rfl] at hx239_0); replace p239 := eq_true p239; replace q239 := eq_true q239) | (go_at_call 20; (with_reducible refine (ints_Below.calls k _ _ y231 6 t240 _ ?side1 ?side2 A8.out).mono ?_); (case side1 => exact Kd.cu_ (Kd.R_reads' HO233.out).2.2); (case side2 => exact (Kd.R_reads' HO233.out).2.1); rintro e w29 ⟨v241, rfl, ho0, hb⟩; replace HO233 := Aside0.mk (Kd.R_below (Kd.ru_ HO233.out) hb); replace HO237 := Aside0.mk (Kd.R_below (Kd.ru_ HO237.out) hb); have HO242 := Aside0.mk (Kd.R_lower ho0 (pbS_ bw_)); replace HB := Aside0.mk (below_step bw_ hb); (try clear hb); (try clear hb2); (try clear hk); (try clear hi); (try clear ho0)) | ((with_reducible refine gate_dst (N := 35) rfl ?_); (try (refine gate_guard (by rfl) ?_; dsimp only)); refine Kd.R_lit (Kd.int .i64) _ 3 ?hg (N := 35) ?hd (xs := ([0] : List Int)) (inner := [.int .i64 0]) (ok := fun _ => True) (okp := fun _ => True) ?hr ?hp (fun _ hk => hk) trivial (Below.refl _ _) (Nat.le_refl _) (by simp) ?_; (case hd => rfl); (case hg => rfl); (case hr => first | (go_simp; done) | (go_simp; rfl)); (case hp => exact (Reps.one (show Kd.M (Kd.int .i64) _ _ _ 0 [.int .i64 0] from rfl) (Reps.none _ _))); intro v244 w30 ho31 hb hg_ hnew_; clear hg_ hnew_; (first | rw [← Ny243.out] at ho31 | (simp only [Int.reduceToNat] at ho31; rw [← Ny243.out] at ho31)); have n0_ := Aside0.mk (Kd.R_below (Kd.ru_ HO233.out) hb); have n1_ := Aside0.mk (Kd.R_below (Kd.ru_ HO237.out) hb); have n2_ := Aside0.mk (Kd.R_elder' (Kd.ru_ HO242.out) (Kd.R_base ho31) hb); have n3_ := Aside0.mk (Kd.R_lower (Kd.R_new' ho31 (Kd.R_lt (Kd.ru_ HO242.out))) (pbS_ bw_)); have n4_ := Aside0.mk (below_step bw_ hb); clear HO233; clear HO237; clear HO242; clear HB; have HO233 := n0_; have HO237 := n1_; have HO242 := n2_; have HO245 := n3_; have HB := n4_; clear n0_ n1_ n2_ n3_ n4_; clear hb ho31; obtain ⟨Ao32, co32, eo32⟩ := Kd.R_slice HO242.out; subst eo32; obtain ⟨Ao33, co33, eo33⟩ := Kd.R_slice HO245.out; subst eo33) | (go_at_call 22; (with_reducible refine (dragnetref09_Ints.calls k _ _ t240 _ _ y243 false _ ?side1 ?side2 ?side3 ?side4 A9.out).mono ?_); (case side1 => exact Kd.cu_ (Kd.R_reads' HO242.out).2.2); (case side2 => exact (Kd.R_reads' HO242.out).2.1); (case side3 => exact Kd.cu_ (Kd.R_reads' HO245.out).2.2); (case side4 => exact (Kd.R_reads' HO245.out).2.1); rintro e w' ⟨rfl, ⟨nd, rfl⟩⟩))
  go_ret
  exact ⟨rf_, bw_⟩
 subst c10
 have H1 : ((ints_Above.f k y231 7).bind fun t247 => (some ((t247.length : Int) == 0))) = some r := by rw [if_pos rfl] at H; exact H
 clear H
 have H := H1
 clear H1
 replace H := Option.bind_eq_some_iff.mp H
 obtain ⟨t247, A110, H⟩ := H
 replace H : (some ((t247.length : Int) == 0)) = some r := H
 have A11 := Aside0.mk A110
 clear A110
 obtain rfl := Option.some.inj H
 go_enter Try.func9, Try.ntmps9
 go_wp2_with (first | ((with_reducible refine gate_dst (N := 7) rfl ?_); (try (refine gate_guard (by rfl) ?_; dsimp only)); refine Kd.R_lit k42 _ 42 ?hg (N := 7) ?hd (xs := ([(⟨true, 5⟩ : S42), (⟨false, 0⟩ : S42), (⟨true, 7⟩ : S42)] : List (S42))) (inner := [.bool true, .int .i64 5, .bool false, .int .i64 0, .bool true, .int .i64 7]) (ok := fun _ => True) (okp := fun _ => True) ?hr ?hp (fun _ hk => hk) trivial (Below.refl _ _) (Nat.le_refl _) (by simp) ?_; (case hd => rfl); (case hg => rfl); (case hr => first | (go_simp; done) | (go_simp; rfl)); (case hp => exact (Reps.c2 (show Kd.M k42 _ _ _ (⟨true, 5⟩ : S42) [.bool true, .int .i64 5] from (k42_mkM _ _ _ (⟨true, 5⟩ : S42) )) (Reps.c2 (show Kd.M k42 _ _ _ (⟨false, 0⟩ : S42) [.bool false, .int .i64 0] from (k42_mkM _ _ _ (⟨false, 0⟩ : S42) )) (Reps.c2 (show Kd.M k42 _ _ _ (⟨true, 7⟩ : S42) [.bool true, .int .i64 7] from (k42_mkM _ _ _ (⟨true, 7⟩ : S42) )) (Reps.none _ _))))); intro v232 w12 ho13 hb hg_ hnew_; clear hg_ hnew_; (first | rw [← Ny231.out] at ho13 | (simp only [Int.reduceToNat] at ho13; rw [← Ny231.out] at ho13)); have HO233 := Aside0.mk (Kd.R_lower ho13 (pbS_ bw_)); replace HB := Aside0.mk (below_step bw_ hb); clear hb ho13; obtain ⟨Ao14, co14, eo14⟩ := Kd.R_slice HO233.out; subst eo14) | ((with_reducible refine gaC_ (f := 12) rfl ?_); refine goesL_ (some 10) rfl rfl Try.func12 (by kernel_rfl) rfl #[.slice none 0 0, .slice Ao14 y231.length co14] rfl (by (try simp only [List.map_toArray, List.map_cons, List.map_nil]); first | done | rfl | (simp only [List.length_drop, List.length_take]; rfl)) ?_; (refine (ints_Put.calls k _ _ ([] : List Int) _ _ y231 t234 t235 _ ?side1 ?side2 ?side3 ?side4 A1.out).mono ?_); (case side1 => exact Kd.C_nil _ _); (case side2 => exact Nat.le_refl _); (case side3 => exact Kd.cu_ (Kd.R_reads' HO233.out).2.2); (case side4 => exact (Kd.R_reads' HO233.out).2.1); rintro e w15 ⟨v236, rfl, ho0, hb⟩; refine ⟨_, rfl, ?_⟩; replace HO233 := Aside0.mk (Kd.R_below (Kd.ru_ HO233.out) hb); have HO237 := Aside0.mk (Kd.R_lower ho0 (pbS_ bw_)); replace HB := Aside0.mk (below_step bw_ hb); (try clear hb); (try clear hb2); (try clear hk); (try clear hi); (try clear ho0); obtain ⟨Ao16, co16, eo16⟩ := Kd.R_slice HO237.out; subst eo16; have p238 : 0 ≤ (0 : Int) := (by omega); have q238 : 0 < (t234.length : Int) := od_; obtain ⟨ad238, e238, hx238_0⟩ := Kd.at_int (Kd.R_reads' HO237.out).2.2 0 p238 q238; cases e238; have qi238 : (0 < t234.length) = True := eq_true (by omega); (try rw [show ((0 : Int)).toNat = 0 from rfl] at hx238_0); (try rw [Addr.add_zero'] at hx238_0); replace p238 := eq_true p238; replace q238 := eq_true q238; have p239 : 0 ≤ (1 : Int) := (by omega); have q239 : 1 < (t234.length : Int) := od_; obtain ⟨ad239, e239, hx239_0⟩ := Kd.at_int (Kd.R_reads' HO237.out).2.2 1 p239 q239; obtain rfl : ad238 = ad239 := (by injection e239); (try simp only [show (1 : Int).toNat = 1 from rfl, Nat.reduceMul, Nat.reduceEqDiff, Go.Addr.add, ↓reduceIte] at hx239_0); have qi239 : (1 < t234.length) = True := eq_true (by omega); (try rw [show ((1 : Int)).toNat = 1 from rfl] at hx239_0); replace p239 := eq_true p239; replace q239 := eq_true q239) | (go_at_call 20; (with_reducible refine (ints_Below.calls k _ _ y231 6 t240 _ ?side1 ?side2 A8.out).mono ?_); (case side1 => exact Kd.cu_ (Kd.R_reads' HO233.out).2.2); (case side2 => exact (Kd.R_reads' HO233.out).2.1); rintro e w17 ⟨v241, rfl, ho0, hb⟩; replace HO233 := Aside0.mk (Kd.R_below (Kd.ru_ HO233.out) hb); replace HO237 := Aside0.mk (Kd.R_below (Kd.ru_ HO237.out) hb); have HO242 := Aside0.mk (Kd.R_lower ho0 (pbS_ bw_)); replace HB := Aside0.mk (below_step bw_ hb); (try clear hb); (try clear hb2); (try clear hk); (try clear hi); (try clear ho0)) | ((with_reducible refine gate_dst (N := 35) rfl ?_); (try (refine gate_guard (by rfl) ?_; dsimp only)); refine Kd.R_lit (Kd.int .i64) _ 3 ?hg (N := 35) ?hd (xs := ([0] : List Int)) (inner := [.int .i64 0]) (ok := fun _ => True) (okp := fun _ => True) ?hr ?hp (fun _ hk => hk) trivial (Below.refl _ _) (Nat.le_refl _) (by simp) ?_; (case hd => rfl); (case hg => rfl); (case hr => first | (go_simp; done) | (go_simp; rfl)); (case hp => exact (Reps.one (show Kd.M (Kd.int .i64) _ _ _ 0 [.int .i64 0] from rfl) (Reps.none _ _))); intro v244 w18 ho19 hb hg_ hnew_; clear hg_ hnew_; (first | rw [← Ny243.out] at ho19 | (simp only [Int.reduceToNat] at ho19; rw [← Ny243.out] at ho19)); have n0_ := Aside0.mk (Kd.R_below (Kd.ru_ HO233.out) hb); have n1_ := Aside0.mk (Kd.R_below (Kd.ru_ HO237.out) hb); have n2_ := Aside0.mk (Kd.R_elder' (Kd.ru_ HO242.out) (Kd.R_base ho19) hb); have n3_ := Aside0.mk (Kd.R_lower (Kd.R_new' ho19 (Kd.R_lt (Kd.ru_ HO242.out))) (pbS_ bw_)); have n4_ := Aside0.mk (below_step bw_ hb); clear HO233; clear HO237; clear HO242; clear HB; have HO233 := n0_; have HO237 := n1_; have HO242 := n2_; have HO245 := n3_; have HB := n4_; clear n0_ n1_ n2_ n3_ n4_; clear hb ho19; obtain ⟨Ao20, co20, eo20⟩ := Kd.R_slice HO242.out; subst eo20; obtain ⟨Ao21, co21, eo21⟩ := Kd.R_slice HO245.out; subst eo21) | (go_at_call 22; (with_reducible refine (dragnetref09_Ints.calls k _ _ t240 _ _ y243 true _ ?side1 ?side2 ?side3 ?side4 A9.out).mono ?_); (case side1 => exact Kd.cu_ (Kd.R_reads' HO242.out).2.2); (case side2 => exact (Kd.R_reads' HO242.out).2.1); (case side3 => exact Kd.cu_ (Kd.R_reads' HO245.out).2.2); (case side4 => exact (Kd.R_reads' HO245.out).2.1); rintro e w' ⟨rfl, ⟨nd, rfl⟩⟩) | (go_at_call 21; (with_reducible refine (ints_Above.calls k _ _ y231 7 t247 _ ?side1 ?side2 A11.out).mono ?_); (case side1 => exact Kd.cu_ (Kd.R_reads' HO233.out).2.2); (case side2 => exact (Kd.R_reads' HO233.out).2.1); rintro e w22 ⟨v248, rfl, ho0, hb⟩; have n0_ := Aside0.mk (Kd.R_below (Kd.ru_ HO233.out) hb); have n1_ := Aside0.mk (Kd.R_below (Kd.ru_ HO237.out) hb); have n2_ := Aside0.mk (Kd.R_elder' (Kd.ru_ HO242.out) (Kd.R_base ho0) hb); have n3_ := Aside0.mk (Kd.R_elder' (Kd.ru_ HO245.out) (Kd.R_base ho0) hb); have n4_ := Aside0.mk (Kd.R_lower (Kd.R_new' (Kd.R_new' ho0 (Kd.R_lt (Kd.ru_ HO242.out))) (Kd.R_lt (Kd.ru_ HO245.out))) (pbS_ bw_)); have n5_ := Aside0.mk (below_step bw_ hb); clear HO233; clear HO237; clear HO242; clear HO245; clear HB; have HO233 := n0_; have HO237 := n1_; have HO242 := n2_; have HO245 := n3_; have HO249 := n4_; have HB := n5_; clear n0_ n1_ n2_ n3_ n4_ n5_; (try clear hb); (try clear hb2); (try clear hk); (try clear hi); (try clear ho0); obtain ⟨Ao23, co23, eo23⟩ := Kd.R_slice HO249.out; subst eo23))
 go_ret
 exact ⟨rf_, bw_⟩
noncomputable def dragnetref01_Copy.f (l0 : List Int) : Option (List Int) := (some (([] : List Int) : List Int)).bind fun y250 => (if y250.length + l0.length < 140737488355328 then (some (y250 ++ l0)) else (none))
set_option maxHeartbeats 8000000 in
set_option maxRecDepth 100000 in
theorem dragnetref01_Copy.calls (A0 : Option Addr) (c0 : Nat) (l0 : List Int) (r : List Int) (w : World) (hr0 : Kd.C (Kd.int .u8) w A0 l0.length l0) (hc0 : l0.length ≤ c0) (h : dragnetref01_Copy.f l0 = some r) :
  Calls Try.prog 10 #[.slice A0 l0.length c0] w fun e w' => ∃ v0_ : Value, e = .returned (v0_) ∧ Kd.R (Kd.int .u8) 5 w' w.heap.size (fun _ => True) v0_ r ∧ Below w.heap.size w w' := by
 have HR0 := Aside0.mk hr0
 have HC0 := Aside0.mk hc0
 clear hr0 hc0
 have HB := Aside0.mk (Below.refl w.heap.size w)
 have H : ((some (([] : List Int) : List Int)).bind fun y250 => (if y250.length + l0.length < 140737488355328 then (some (y250 ++ l0)) else (none))) = some r := h
 clear h
 obtain ⟨y250, hy250⟩ : ∃ y_ : List Int, y_ = (([] : List Int)) := ⟨_, rfl⟩
 replace H : (if y250.length + l0.length < 140737488355328 then (some (y250 ++ l0)) else (none)) = some r := by first | (rw [hy250]; with_reducible exact H) | (have H2_ := (Option.bind_some _ _).symm.trans H; rw [hy250]; with_reducible exact H2_) | (have H2_ := (Option.bind_some _ _).symm.trans H; with_reducible exact H2_) | with_reducible exact H | (rw [hy250]; exact H) | exact H
 have Ny250 := Aside0.mk hy250
 clear hy250
 by_cases c2 : y250.length + l0.length < 140737488355328
 rotate_left
 ·rw [if_neg c2] at H
  exact absurd H (by simp)
 rw [if_pos c2] at H
 have LMc2 := Aside0.mk c2
 clear c2
 obtain ⟨y253, hy253⟩ : ∃ y_ : List Int, y_ = (y250 ++ l0) := ⟨_, rfl⟩
 replace H : (some y253) = some r := by first | (rw [hy253]; with_reducible exact H) | (have H2_ := (Option.bind_some _ _).symm.trans H; rw [hy253]; with_reducible exact H2_) | (have H2_ := (Option.bind_some _ _).symm.trans H; with_reducible exact H2_) | with_reducible exact H | (rw [hy253]; exact H) | exact H
 have Ny253 := Aside0.mk hy253
 clear hy253
 obtain rfl := Option.some.inj H
 go_enter Try.func10, Try.ntmps10
 go_wp2_with (first | ((with_reducible refine gate_dst (N := 3) rfl ?_); refine Kd.R_lit (Kd.int .u8) _ 5 ?hg (N := 3) ?hd (xs := ([] : List Int)) (inner := []) (ok := fun _ => True) (okp := fun _ => True) ?hr ?hp (fun _ hk => hk) trivial (Below.refl _ _) (Nat.le_refl _) (by simp) ?_; (case hd => rfl); (case hg => rfl); (case hr => first | (go_simp; done) | (go_simp; rfl)); (case hp => exact (Reps.none _ _)); intro v251 w3 ho4 hb hg_ hnew_; clear hg_ hnew_; (first | rw [← Ny250.out] at ho4 | (simp only [Int.reduceToNat] at ho4; rw [← Ny250.out] at ho4)); have HO252 := Aside0.mk (Kd.R_lower ho4 (pbS_ bw_)); replace HB := Aside0.mk (below_step bw_ hb); clear hb ho4) | ((with_reducible refine gate_builtin (b := .append) (xs := #[.tmp 3, .tmp 4]) rfl ?_); at_builtin; refine Kd.R_append_rows (Kd.int .u8) (w0 := w) w.heap.size rfl (.tmp 3) (.tmp 4) 22 5 (.int .u8 0) 1 rfl Try.underlying22 info5 rfl (by decide) (by omega) v251 y250 l0 _ _ _ (fun _ => True) (fun _ => False) rfl rfl ?aO ?aR (fun _ _ h => h) (fun _ h => h.elim) ?aF ?aB ?aS ?aL ?_; (case aR => exact Kd.cu_ (Kd.C_below HR0.out HB.out)); (case aB => exact bw_); (case aF => exact (fun _ _ => trivial)); (case aO => exact (Kd.ru_ HO252.out)); (case aS => exact (pbS_ bw_)); (case aL => have := LMc2.out; omega); intro v254 w5 ho hb hg hat; rw [← Ny253.out] at ho; have n0_ := Aside0.mk (hb); have n1_ := Aside0.mk (ho); clear HB; clear HO252; have HB := n0_; have HO255 := n1_; clear n0_ n1_; clear ho hb hg hat))
 go_ret
 exact ⟨_, rf_, by (with_reducible repeat (first | apply Kd.rA_ | apply Kd.rN_ | apply Kd.rD_)); exact HO255.out, bw_⟩
noncomputable def dragnetref01_Same.f (l0 : List Int) (l1 : List Int) : Option (Bool) := some ((strOfNums l0).toList == (strOfNums l1).toList)
set_option maxHeartbeats 8000000 in
set_option maxRecDepth 100000 in
theorem dragnetref01_Same.calls (A0 : Option Addr) (c0 : Nat) (l0 : List Int) (A1 : Option Addr) (c1 : Nat) (l1 : List Int) (r : Bool) (w : World) (hr0 : Kd.C (Kd.int .u8) w A0 l0.length l0) (hc0 : l0.length ≤ c0) (hr1 : Kd.C (Kd.int .u8) w A1 l1.length l1) (hc1 : l1.length ≤ c1) (h : dragnetref01_Same.f l0 l1 = some r) :
  Calls Try.prog 13 #[.slice A0 l0.length c0, .slice A1 l1.length c1] w fun e w' => e = .returned (.bool r) ∧ Drawn0 w w' := by
 have HR0 := Aside0.mk hr0
 have HC0 := Aside0.mk hc0
 clear hr0 hc0
 have HR1 := Aside0.mk hr1
 have HC1 := Aside0.mk hc1
 clear hr1 hc1
 have H : (some ((strOfNums l0).toList == (strOfNums l1).toList)) = some r := h
 clear h
 obtain rfl := Option.some.inj H
 have hcv3 := Kd.C_string (P := Try.prog) (A := A0) (c := c0) Try.underlying22 Try.underlying5 Try.underlying9 HR0.out
 have hcv4 := Kd.C_string (P := Try.prog) (A := A1) (c := c1) Try.underlying22 Try.underlying5 Try.underlying9 HR1.out
 go_enter Try.func13, Try.ntmps13
 go_wp2
 go_ret
 exact ⟨by first | rfl | (simp; done) | (simp [*]; done), by repeat (first | exact Drawn0.refl _ | apply Drawn0.step)⟩
noncomputable def dragnetref10_Same.l0 : Nat → List (S42) → List (S42) → Int → Option (Bool)
 | 0, _, _, _ => none
 | k + 1, x0, x1, x5 => if x5 < (x0.length : Int) then (if 0 ≤ x5 then (if x5 < (x1.length : Int) then (if (!(((rd_T42 x0 x5).f0) == ((rd_T42 x1 x5).f0)) || (!(((rd_T42 x0 x5).f1) == ((rd_T42 x1 x5).f1)))) = true then (some false) else (dragnetref10_Same.l0 k x0 x1 (wrap64 (x5 + 1)))) else (none)) else (none)) else (some true)
noncomputable def dragnetref10_Same.f (k : Nat) (l0 : List (S42)) (l1 : List (S42)) : Option (Bool) := if (l0.length : Int) = (l1.length : Int) then (dragnetref10_Same.l0 k l0 l1 0) else (some false)
theorem dragnetref10_Same.mono_l : ∀ k, (∀ y0 y1 y2, LeO (dragnetref10_Same.l0 k y0 y1 y2) (dragnetref10_Same.l0 (k + 1) y0 y1 y2))
 | 0 => fun _ _ _ r h => by simp [dragnetref10_Same.l0] at h
 | k + 1 => by
  have ih0 := dragnetref10_Same.mono_l k
  ·intro y0 y1 y2
   unfold dragnetref10_Same.l0
   repeat' first
   | (with_reducible exact ih0 _ _ _)
   | (with_reducible exact LeO.refl _)
   | (with_reducible exact LeO.none _)
   | (with_reducible refine LeO.ite ?_ ?_)
   | (with_reducible refine LeO.bind ?_ (fun _ => ?_))
theorem dragnetref10_Same.mono : ∀ a0 a1 k, LeO (dragnetref10_Same.f k a0 a1) (dragnetref10_Same.f (k + 1) a0 a1) := by
 intro a0 a1 k
 have ih0 := dragnetref10_Same.mono_l k
 unfold dragnetref10_Same.f
 repeat' first
   | (with_reducible exact ih0 _ _ _)
   | (with_reducible exact LeO.refl _)
   | (with_reducible exact LeO.none _)
   | (with_reducible refine LeO.ite ?_ ?_)
   | (with_reducible refine LeO.bind ?_ (fun _ => ?_))
set_option maxHeartbeats 8000000 in
set_option maxRecDepth 100000 in
theorem dragnetref10_Same.calls (k : Nat) (A0 : Option Addr) (c0 : Nat) (l0 : List (S42)) (A1 : Option Addr) (c1 : Nat) (l1 : List (S42)) (r : Bool) (w : World) (hr0 : Kd.C k42 w A0 l0.length l0) (hc0 : l0.length ≤ c0) (hr1 : Kd.C k42 w A1 l1.length l1) (hc1 : l1.length ≤ c1) (h : dragnetref10_Same.f k l0 l1 = some r) :
  Calls Try.prog 14 #[.slice A0 l0.length c0, .slice A1 l1.length c1] w fun e w' => e = .returned (.bool r) ∧ Drawn0 w w' := by
 have hu42 := Try.underlying42
 have HR0 := Aside0.mk hr0
 have HC0 := Aside0.mk hc0
 clear hr0 hc0
 have HR1 := Aside0.mk hr1
 have HC1 := Aside0.mk hc1
 clear hr1 hc1
 have H : (if (l0.length : Int) = (l1.length : Int) then (dragnetref10_Same.l0 k l0 l1 0) else (some false)) = some r := h
 clear h
 by_cases c3 : (l0.length : Int) = (l1.length : Int)
 rotate_left
 ·rw [if_neg c3] at H
  have c3b0 : ((l0.length : Int) == (l1.length : Int)) = false := beq_eq_false_iff_ne.mpr c3
  have c3b1 : ((l0.length : Int) != (l1.length : Int)) = true := bne_iff_ne.mpr c3
  have c3b2 : (l0.length == l1.length) = false := by first | simpa using c3 | (simp at c3 ⊢; omega)
  obtain rfl := Option.some.inj H
  go_enter Try.func14, Try.ntmps14
  go_wp2
  repeat (go_quiet (fail); try go_wp2)
  go_ret
  exact ⟨by first | rfl | (simp; done) | (simp [*]; done), by repeat (first | exact Drawn0.refl _ | apply Drawn0.step)⟩
 rw [if_pos c3] at H
 have c3b0 : ((l0.length : Int) == (l1.length : Int)) = true := beq_iff_eq.mpr c3
 have c3b1 : ((l0.length : Int) != (l1.length : Int)) = false := bne_eq_false_iff_eq.mpr c3
 have c3b2 : (l0.length == l1.length) = true := by first | simpa using c3 | (simp at c3 ⊢; omega)
 clear c3
 have H' := Aside0.mk H
 clear H
 go_enter Try.func14, Try.ntmps14
 go_wp2
 repeat (go_quiet (fail); try go_wp2)
 go_loopg [5] k (fun kq v5 w' => ∃ (x5_1 : Int), v5 = .int .i64 x5_1 ∧ Aside0 (dragnetref10_Same.l0 kq l0 l1 x5_1 = some r) ∧ Aside0 (kq ≤ k) ∧ Drawn0 w w')
 case atStart => exact ⟨(0), (by first | rfl | (simp; done) | (simp [*]; done)), H', ⟨Nat.le_refl _⟩, by repeat (first | exact Drawn0.refl _ | apply Drawn0.step)⟩
 case round =>
  clear H'
  try clear c1
  try clear p2
  try clear c3
  try clear c3b0
  try clear c3b1
  try clear c3b2
  obtain ⟨x5_1, rfl, HA, HK1, ⟨m1, rfl⟩⟩ := hrel
  cases gk with
  | zero => exact absurd HA.out (by simp [dragnetref10_Same.l0])
  | succ k1 =>
   have H := HA.out
   clear HA
   simp only [dragnetref10_Same.l0] at H
   by_cases c4 : x5_1 < (l0.length : Int)
   rotate_left
   ·rw [if_neg c4] at H
    have c4b0 : decide (x5_1 < (l0.length : Int)) = false := decide_eq_false c4
    clear c4
    obtain rfl := Option.some.inj H
    go_wp2
    repeat (go_quiet (fail); try go_wp2)
    go_ret
    exact ⟨by first | rfl | (simp; done) | (simp [*]; done), by repeat (first | exact Drawn0.refl _ | apply Drawn0.step)⟩
   rw [if_pos c4] at H
   have c4b0 : decide (x5_1 < (l0.length : Int)) = true := decide_eq_true c4
   clear c4
   by_cases c5 : 0 ≤ x5_1
   rotate_left
   ·rw [if_neg c5] at H
    exact absurd H (by simp)
   rw [if_pos c5] at H
   have c5b0 : decide (0 ≤ x5_1) = true := decide_eq_true c5
   clear c5
   by_cases c6 : x5_1 < (l1.length : Int)
   rotate_left
   ·rw [if_neg c6] at H
    exact absurd H (by simp)
   rw [if_pos c6] at H
   have c6b0 : decide (x5_1 < (l1.length : Int)) = true := decide_eq_true c6
   clear c6
   by_cases c7 : (!(((rd_T42 l0 x5_1).f0) == ((rd_T42 l1 x5_1).f0)) || (!(((rd_T42 l0 x5_1).f1) == ((rd_T42 l1 x5_1).f1)))) = true
   ·rw [if_pos c7] at H
    have c7b0 : (!(((rd_T42 l0 x5_1).f0) == ((rd_T42 l1 x5_1).f0)) || (!(((rd_T42 l0 x5_1).f1) == ((rd_T42 l1 x5_1).f1)))) = true := c7
    clear c7
    obtain rfl := Option.some.inj H
    have p262 : 0 ≤ (x5_1 : Int) := od_
    have q262 : x5_1 < (l0.length : Int) := od_
    obtain ⟨ad262, e262, hx262_0, hx262_1⟩ := at_T42 HR0.out x5_1 p262 q262
    cases e262
    replace p262 := eq_true p262
    replace q262 := eq_true q262
    have p263 : 0 ≤ (x5_1 : Int) := od_
    have q263 : x5_1 < (l1.length : Int) := od_
    obtain ⟨ad263, e263, hx263_0, hx263_1⟩ := at_T42 HR1.out x5_1 p263 q263
    cases e263
    replace p263 := eq_true p263
    replace q263 := eq_true q263
    go_wp2
    repeat (go_quiet (fail); try go_wp2)
    go_ret
    exact ⟨by first | rfl | (simp; done) | (simp [*]; done), by repeat (first | exact Drawn0.refl _ | apply Drawn0.step)⟩
   ·rw [if_neg c7] at H
    have c7b0 : (!(((rd_T42 l0 x5_1).f0) == ((rd_T42 l1 x5_1).f0)) || (!(((rd_T42 l0 x5_1).f1) == ((rd_T42 l1 x5_1).f1)))) = false := by simpa using c7
    clear c7
    have H' := Aside0.mk H
    clear H
    have p262 : 0 ≤ (x5_1 : Int) := od_
    have q262 : x5_1 < (l0.length : Int) := od_
    obtain ⟨ad262, e262, hx262_0, hx262_1⟩ := at_T42 HR0.out x5_1 p262 q262
    cases e262
    replace p262 := eq_true p262
    replace q262 := eq_true q262
    have p263 : 0 ≤ (x5_1 : Int) := od_
    have q263 : x5_1 < (l1.length : Int) := od_
    obtain ⟨ad263, e263, hx263_0, hx263_1⟩ := at_T42 HR1.out x5_1 p263 q263
    cases e263
    replace p263 := eq_true p263
    replace q263 := eq_true q263
    go_wp2
    repeat (go_quiet (fail); try go_wp2)
    go_roundg k1
    case measure => have := HK1.out; omega
    case rel => exact ⟨(wrap64 (x5_1 + 1)), (by first | rfl | (simp; done) | (simp [*]; done)), H', ⟨by have := HK1.out; omega⟩, by repeat (first | exact Drawn0.refl _ | apply Drawn0.step)⟩
end Go.Proofs.Ytcjkmmajokkkfaa.P
end
section
namespace Go.Proofs.Ytcjkmmajokkkfaa.P
open Go.RowKit Go.Proofs.YtcjkmmajokkkfaaW.PrintWords Go.Proofs.YtcjkmmajokkkfaaW.PrintLast Go.Proofs.YtcjkmmajokkkfaaW.PrintMore
attribute [local go_sem] max2_int min2_int max_two min_two max_three min_three max_four min_four
set_option linter.unusedVariables false
set_option linter.unusedSimpArgs false
def dragnetref10_Formed.l0 : Nat → List (S42) → Int → Option (Bool)
 | 0, _, _ => none
 | k + 1, x0, x3 => if x3 < (x0.length : Int) then (if 0 ≤ x3 then (if ((rd_T42 x0 x3).f0 = true) then (dragnetref10_Formed.l0 k x0 (wrap64 (x3 + 1))) else (if ((rd_T42 x0 x3).f1) = 0 then (dragnetref10_Formed.l0 k x0 (wrap64 (x3 + 1))) else (some false))) else (none)) else (some (decide ((x0.length : Int) ≤ 4096)))
def dragnetref10_Formed.f (k : Nat) (l0 : List (S42)) : Option (Bool) := dragnetref10_Formed.l0 k l0 0
theorem dragnetref10_Formed.mono_l : ∀ k, (∀ y0 y1, LeO (dragnetref10_Formed.l0 k y0 y1) (dragnetref10_Formed.l0 (k + 1) y0 y1))
 | 0 => fun _ _ r h => by simp [dragnetref10_Formed.l0] at h
 | k + 1 => by
  have ih0 := dragnetref10_Formed.mono_l k
  ·intro y0 y1
   unfold dragnetref10_Formed.l0
   repeat' first
   | (with_reducible exact ih0 _ _)
   | (with_reducible exact LeO.refl _)
   | (with_reducible exact LeO.none _)
   | (with_reducible refine LeO.ite ?_ ?_)
   | (with_reducible refine LeO.bind ?_ (fun _ => ?_))
theorem dragnetref10_Formed.mono : ∀ a0 k, LeO (dragnetref10_Formed.f k a0) (dragnetref10_Formed.f (k + 1) a0) := by
 intro a0 k
 have ih0 := dragnetref10_Formed.mono_l k
 unfold dragnetref10_Formed.f
 repeat' first
   | (with_reducible exact ih0 _ _)
   | (with_reducible exact LeO.refl _)
   | (with_reducible exact LeO.none _)
   | (with_reducible refine LeO.ite ?_ ?_)
   | (with_reducible refine LeO.bind ?_ (fun _ => ?_))
set_option maxHeartbeats 8000000 in
set_option maxRecDepth 100000 in
theorem dragnetref10_Formed.calls (k : Nat) (A0 : Option Addr) (c0 : Nat) (l0 : List (S42)) (r : Bool) (w : World) (hr0 : Kd.C k42 w A0 l0.length l0) (hc0 : l0.length ≤ c0) (h : dragnetref10_Formed.f k l0 = some r) :
  Calls Try.prog 16 #[.slice A0 l0.length c0] w fun e w' => e = .returned (.bool r) ∧ Drawn0 w w' := by
 have HR0 := Aside0.mk hr0
 have HC0 := Aside0.mk hc0
 clear hr0 hc0
 have H : (dragnetref10_Formed.l0 k l0 0) = some r := h
 clear h
 have H' := Aside0.mk H
 clear H
 go_enter Try.func16, Try.ntmps16
 go_wp2
 go_loopg [3] k (fun kq v3 w' => ∃ (x3_1 : Int), v3 = .int .i64 x3_1 ∧ Aside0 (dragnetref10_Formed.l0 kq l0 x3_1 = some r) ∧ Aside0 (kq ≤ k) ∧ Drawn0 w w')
 case atStart => exact ⟨(0), (by first | rfl | (simp; done) | (simp [*]; done)), H', ⟨Nat.le_refl _⟩, by repeat (first | exact Drawn0.refl _ | apply Drawn0.step)⟩
 case round =>
  clear H'
  try clear c1
  obtain ⟨x3_1, rfl, HA, HK1, ⟨m1, rfl⟩⟩ := hrel
  cases gk with
  | zero => exact absurd HA.out (by simp [dragnetref10_Formed.l0])
  | succ k1 =>
   have H := HA.out
   clear HA
   simp only [dragnetref10_Formed.l0] at H
   by_cases c2 : x3_1 < (l0.length : Int)
   rotate_left
   ·rw [if_neg c2] at H
    have c2b0 : decide (x3_1 < (l0.length : Int)) = false := decide_eq_false c2
    clear c2
    obtain rfl := Option.some.inj H
    go_wp2
    go_ret
    exact ⟨by first | rfl | (simp; done) | (simp [*]; done), by repeat (first | exact Drawn0.refl _ | apply Drawn0.step)⟩
   rw [if_pos c2] at H
   have c2b0 : decide (x3_1 < (l0.length : Int)) = true := decide_eq_true c2
   clear c2
   by_cases c3 : 0 ≤ x3_1
   rotate_left
   ·rw [if_neg c3] at H
    exact absurd H (by simp)
   rw [if_pos c3] at H
   have c3b0 : decide (0 ≤ x3_1) = true := decide_eq_true c3
   clear c3
   obtain ⟨bq4, hbq4⟩ : ∃ b_ : Bool, b_ = ((rd_T42 l0 x3_1).f0) := ⟨_, rfl⟩
   replace H : (if (bq4 = true) then (dragnetref10_Formed.l0 k1 l0 (wrap64 (x3_1 + 1))) else (if ((rd_T42 l0 x3_1).f1) = 0 then (dragnetref10_Formed.l0 k1 l0 (wrap64 (x3_1 + 1))) else (some false))) = some r := by rw [← hbq4] at H; exact H
   have Nbq4 := Aside0.mk hbq4
   clear hbq4
   by_cases c5 : (bq4 = true)
   ·subst c5
    have H1 : (dragnetref10_Formed.l0 k1 l0 (wrap64 (x3_1 + 1))) = some r := by rw [if_pos rfl] at H; exact H
    clear H
    have H := H1
    clear H1
    have H' := Aside0.mk H
    clear H
    have p264 : 0 ≤ (x3_1 : Int) := od_
    have q264 : x3_1 < (l0.length : Int) := od_
    obtain ⟨ad264, e264, hx264_0, hx264_1⟩ := at_T42 HR0.out x3_1 p264 q264
    (try rw [← Nbq4.out] at hx264_0)
    cases e264
    replace p264 := eq_true p264
    replace q264 := eq_true q264
    go_wp2
    go_roundg k1
    case measure => have := HK1.out; omega
    case rel => exact ⟨(wrap64 (x3_1 + 1)), (by first | rfl | (simp; done) | (simp [*]; done)), H', ⟨by have := HK1.out; omega⟩, by repeat (first | exact Drawn0.refl _ | apply Drawn0.step)⟩
   ·replace c5 := Bool.eq_false_iff.mpr c5
    subst c5
    have H1 : (if ((rd_T42 l0 x3_1).f1) = 0 then (dragnetref10_Formed.l0 k1 l0 (wrap64 (x3_1 + 1))) else (some false)) = some r := by rw [if_neg (show ¬ (false = true) by decide)] at H; exact H
    clear H
    have H := H1
    clear H1
    by_cases c6 : ((rd_T42 l0 x3_1).f1) = 0
    rotate_left
    ·rw [if_neg c6] at H
     have c6b0 : (((rd_T42 l0 x3_1).f1) == 0) = false := beq_eq_false_iff_ne.mpr c6
     have c6b1 : (((rd_T42 l0 x3_1).f1) != 0) = true := bne_iff_ne.mpr c6
     obtain rfl := Option.some.inj H
     have p264 : 0 ≤ (x3_1 : Int) := od_
     have q264 : x3_1 < (l0.length : Int) := od_
     obtain ⟨ad264, e264, hx264_0, hx264_1⟩ := at_T42 HR0.out x3_1 p264 q264
     (try rw [← Nbq4.out] at hx264_0)
     cases e264
     replace p264 := eq_true p264
     replace q264 := eq_true q264
     have p265 : 0 ≤ (x3_1 : Int) := od_
     have q265 : x3_1 < (l0.length : Int) := od_
     obtain ⟨ad265, e265, hx265_0, hx265_1⟩ := at_T42 HR0.out x3_1 p265 q265
     (try rw [← Nbq4.out] at hx265_0)
     obtain rfl : ad264 = ad265 := (by injection e265)
     replace p265 := eq_true p265
     replace q265 := eq_true q265
     go_wp2
     go_ret
     exact ⟨by first | rfl | (simp; done) | (simp [*]; done), by repeat (first | exact Drawn0.refl _ | apply Drawn0.step)⟩
    rw [if_pos c6] at H
    have c6b0 : (((rd_T42 l0 x3_1).f1) == 0) = true := beq_iff_eq.mpr c6
    have c6b1 : (((rd_T42 l0 x3_1).f1) != 0) = false := bne_eq_false_iff_eq.mpr c6
    clear c6
    have H' := Aside0.mk H
    clear H
    have p264 : 0 ≤ (x3_1 : Int) := od_
    have q264 : x3_1 < (l0.length : Int) := od_
    obtain ⟨ad264, e264, hx264_0, hx264_1⟩ := at_T42 HR0.out x3_1 p264 q264
    (try rw [← Nbq4.out] at hx264_0)
    cases e264
    replace p264 := eq_true p264
    replace q264 := eq_true q264
    have p265 : 0 ≤ (x3_1 : Int) := od_
    have q265 : x3_1 < (l0.length : Int) := od_
    obtain ⟨ad265, e265, hx265_0, hx265_1⟩ := at_T42 HR0.out x3_1 p265 q265
    (try rw [← Nbq4.out] at hx265_0)
    obtain rfl : ad264 = ad265 := (by injection e265)
    replace p265 := eq_true p265
    replace q265 := eq_true q265
    go_wp2
    go_roundg k1
    case measure => have := HK1.out; omega
    case rel => exact ⟨(wrap64 (x3_1 + 1)), (by first | rfl | (simp; done) | (simp [*]; done)), H', ⟨by have := HK1.out; omega⟩, by repeat (first | exact Drawn0.refl _ | apply Drawn0.step)⟩
attribute [local go_sem high] eqA38
def num_Take.l0 : Nat → Int → Int → List Int → Int → Int → Option (Int × Int × Int)
 | 0, _, _, _, _, _ => none
 | k + 1, x2, x5, x34, x35, x36 => if x36 < x35 then (if 0 ≤ x36 then (if x36 < (x34.length : Int) then (if 0 ≤ (wrap64 (8 * x36)) then (num_Take.l0 k (Go.bits .or .u64 x2 (shl .u64 (IntKind.u64.wrap (rd x34 x36)) (wrap64 (8 * x36)))) x5 x34 x35 (wrap64 (x36 + 1))) else (none)) else (none)) else (none)) else (if x2 ≤ 247 then (some (0, 0, 2)) else ((num_size.f x2).bind fun t503 => (if t503 < x5 then (some (0, 0, 2)) else (some (x2, wrap64 (1 + x5), 0)))))
def num_Take.f (k : Nat) (l0 : List Int) : Option (Int × Int × Int) := if (l0.length : Int) = 0 then (some (0, 0, 3)) else (if 0 < (l0.length : Int) then (if (rd l0 0) ≤ 247 then (some (IntKind.u64.wrap (rd l0 0), 1, 0)) else (if (wrap64 ((wrap64 (rd l0 0)) - 247)) > (wrap64 ((l0.length : Int) - 1)) then (some (0, 0, 3)) else (if 1 ≤ (wrap64 (1 + (wrap64 ((wrap64 (rd l0 0)) - 247)))) then (if (wrap64 (1 + (wrap64 ((wrap64 (rd l0 0)) - 247)))) ≤ (l0.length : Int) then ((some ((l0.take ((wrap64 (1 + (wrap64 ((wrap64 (rd l0 0)) - 247)))) : Int).toNat).drop 1 : List Int)).bind fun y498 => (num_Take.l0 k 0 (wrap64 ((wrap64 (rd l0 0)) - 247)) y498 (y498.length : Int) 0)) else (none)) else (none)))) else (none))
theorem num_Take.mono_l : ∀ k, (∀ y0 y1 y2 y3 y4, LeO (num_Take.l0 k y0 y1 y2 y3 y4) (num_Take.l0 (k + 1) y0 y1 y2 y3 y4))
 | 0 => fun _ _ _ _ _ r h => by simp [num_Take.l0] at h
 | k + 1 => by
  have ih0 := num_Take.mono_l k
  ·intro y0 y1 y2 y3 y4
   unfold num_Take.l0
   repeat' first
   | (with_reducible exact ih0 _ _ _ _ _)
   | (with_reducible exact LeO.refl _)
   | (with_reducible exact LeO.none _)
   | (with_reducible refine LeO.ite ?_ ?_)
   | (with_reducible refine LeO.bind ?_ (fun _ => ?_))
theorem num_Take.mono : ∀ a0 k, LeO (num_Take.f k a0) (num_Take.f (k + 1) a0) := by
 intro a0 k
 have ih0 := num_Take.mono_l k
 unfold num_Take.f
 repeat' first
   | (with_reducible exact ih0 _ _ _ _ _)
   | (with_reducible exact LeO.refl _)
   | (with_reducible exact LeO.none _)
   | (with_reducible refine LeO.ite ?_ ?_)
   | (with_reducible refine LeO.bind ?_ (fun _ => ?_))
set_option maxHeartbeats 8000000 in
set_option maxRecDepth 100000 in
theorem num_Take.calls (k : Nat) (A0 : Option Addr) (c0 : Nat) (l0 : List Int) (r1 : Int) (r2 : Int) (r3 : Int) (w : World) (hr0 : Kd.C (Kd.int .u8) w A0 l0.length l0) (hc0 : l0.length ≤ c0) (h : num_Take.f k l0 = some (r1, r2, r3)) :
  Calls Try.prog 38 #[.slice A0 l0.length c0] w fun e w' => e = .returned (.tuple #[.int .u64 r1, .int .i64 r2, .int .i64 r3]) ∧ Drawn0 w w' := by
 have HR0 := Aside0.mk hr0
 have HC0 := Aside0.mk hc0
 clear hr0 hc0
 have H : (if (l0.length : Int) = 0 then (some (0, 0, 3)) else (if 0 < (l0.length : Int) then (if (rd l0 0) ≤ 247 then (some (IntKind.u64.wrap (rd l0 0), 1, 0)) else (if (wrap64 ((wrap64 (rd l0 0)) - 247)) > (wrap64 ((l0.length : Int) - 1)) then (some (0, 0, 3)) else (if 1 ≤ (wrap64 (1 + (wrap64 ((wrap64 (rd l0 0)) - 247)))) then (if (wrap64 (1 + (wrap64 ((wrap64 (rd l0 0)) - 247)))) ≤ (l0.length : Int) then ((some ((l0.take ((wrap64 (1 + (wrap64 ((wrap64 (rd l0 0)) - 247)))) : Int).toNat).drop 1 : List Int)).bind fun y498 => (num_Take.l0 k 0 (wrap64 ((wrap64 (rd l0 0)) - 247)) y498 (y498.length : Int) 0)) else (none)) else (none)))) else (none))) = some (r1, r2, r3) := h
 clear h
 by_cases c2 : (l0.length : Int) = 0
 ·rw [if_pos c2] at H
  have c2b0 : ((l0.length : Int) == 0) = true := beq_iff_eq.mpr c2
  have c2b1 : ((l0.length : Int) != 0) = false := bne_eq_false_iff_eq.mpr c2
  clear c2
  simp only [Option.some.injEq, Prod.mk.injEq] at H
  obtain ⟨rfl, rfl, rfl⟩ := H
  go_enter Try.func38, Try.ntmps38
  go_wp2
  go_ret3
  exact ⟨by first | rfl | (simp; done) | (simp [*]; done), by repeat (first | exact Drawn0.refl _ | apply Drawn0.step)⟩
 ·rw [if_neg c2] at H
  have c2b0 : ((l0.length : Int) == 0) = false := beq_eq_false_iff_ne.mpr c2
  have c2b1 : ((l0.length : Int) != 0) = true := bne_iff_ne.mpr c2
  have c2b2 : ¬ (l0 = []) := fun h_ => c2 (by rw [h_]; rfl)
  by_cases c3 : 0 < (l0.length : Int)
  rotate_left
  ·rw [if_neg c3] at H
   exact absurd H (by simp)
  rw [if_pos c3] at H
  have c3b0 : decide (0 < (l0.length : Int)) = true := decide_eq_true c3
  have c3b1 : decide (0 < l0.length) = true := decide_eq_true (by omega)
  clear c3
  by_cases c4 : (rd l0 0) ≤ 247
  ·rw [if_pos c4] at H
   have c4b0 : decide ((rd l0 0) ≤ 247) = true := decide_eq_true c4
   clear c4
   simp only [Option.some.injEq, Prod.mk.injEq] at H
   obtain ⟨rfl, rfl, rfl⟩ := H
   have p495 : 0 ≤ (0 : Int) := (by omega)
   have q495 : 0 < (l0.length : Int) := od_
   obtain ⟨ad495, e495, hx495_0⟩ := Kd.at_int HR0.out 0 p495 q495
   cases e495
   have qi495 : (0 < l0.length) = True := eq_true (by omega)
   (try rw [show ((0 : Int)).toNat = 0 from rfl] at hx495_0)
   (try rw [Addr.add_zero'] at hx495_0)
   replace p495 := eq_true p495
   replace q495 := eq_true q495
   have p496 : 0 ≤ (0 : Int) := (by omega)
   have q496 : 0 < (l0.length : Int) := od_
   obtain ⟨ad496, e496, hx496_0⟩ := Kd.at_int HR0.out 0 p496 q496
   obtain rfl : ad495 = ad496 := (by injection e496)
   have qi496 : (0 < l0.length) = True := eq_true (by omega)
   (try rw [show ((0 : Int)).toNat = 0 from rfl] at hx496_0)
   (try rw [Addr.add_zero'] at hx496_0)
   replace p496 := eq_true p496
   replace q496 := eq_true q496
   go_enter Try.func38, Try.ntmps38
   go_wp2
   go_ret3
   exact ⟨by first | rfl | (simp; done) | (simp [*]; done), by repeat (first | exact Drawn0.refl _ | apply Drawn0.step)⟩
  ·rw [if_neg c4] at H
   have c4b0 : decide ((rd l0 0) ≤ 247) = false := decide_eq_false c4
   clear c4
   by_cases c5 : (wrap64 ((wrap64 (rd l0 0)) - 247)) > (wrap64 ((l0.length : Int) - 1))
   ·rw [if_pos c5] at H
    have c5b0 : decide ((wrap64 ((l0.length : Int) - 1)) < (wrap64 ((wrap64 (rd l0 0)) - 247))) = true := decide_eq_true c5
    clear c5
    simp only [Option.some.injEq, Prod.mk.injEq] at H
    obtain ⟨rfl, rfl, rfl⟩ := H
    have p495 : 0 ≤ (0 : Int) := (by omega)
    have q495 : 0 < (l0.length : Int) := od_
    obtain ⟨ad495, e495, hx495_0⟩ := Kd.at_int HR0.out 0 p495 q495
    cases e495
    have qi495 : (0 < l0.length) = True := eq_true (by omega)
    (try rw [show ((0 : Int)).toNat = 0 from rfl] at hx495_0)
    (try rw [Addr.add_zero'] at hx495_0)
    replace p495 := eq_true p495
    replace q495 := eq_true q495
    have p497 : 0 ≤ (0 : Int) := (by omega)
    have q497 : 0 < (l0.length : Int) := od_
    obtain ⟨ad497, e497, hx497_0⟩ := Kd.at_int HR0.out 0 p497 q497
    obtain rfl : ad495 = ad497 := (by injection e497)
    have qi497 : (0 < l0.length) = True := eq_true (by omega)
    (try rw [show ((0 : Int)).toNat = 0 from rfl] at hx497_0)
    (try rw [Addr.add_zero'] at hx497_0)
    replace p497 := eq_true p497
    replace q497 := eq_true q497
    go_enter Try.func38, Try.ntmps38
    go_wp2
    go_ret3
    exact ⟨by first | rfl | (simp; done) | (simp [*]; done), by repeat (first | exact Drawn0.refl _ | apply Drawn0.step)⟩
   ·rw [if_neg c5] at H
    have c5b0 : decide ((wrap64 ((l0.length : Int) - 1)) < (wrap64 ((wrap64 (rd l0 0)) - 247))) = false := decide_eq_false c5
    clear c5
    by_cases c6 : 1 ≤ (wrap64 (1 + (wrap64 ((wrap64 (rd l0 0)) - 247))))
    rotate_left
    ·rw [if_neg c6] at H
     exact absurd H (by simp)
    rw [if_pos c6] at H
    have c6b0 := eq_true c6
    have c6b1 : decide (1 ≤ (wrap64 (1 + (wrap64 ((wrap64 (rd l0 0)) - 247))))) = true := decide_eq_true c6
    by_cases c7 : (wrap64 (1 + (wrap64 ((wrap64 (rd l0 0)) - 247)))) ≤ (l0.length : Int)
    rotate_left
    ·rw [if_neg c7] at H
     exact absurd H (by simp)
    rw [if_pos c7] at H
    have c7b0 := eq_true c7
    have c7b1 : decide ((wrap64 (1 + (wrap64 ((wrap64 (rd l0 0)) - 247)))) ≤ (l0.length : Int)) = true := decide_eq_true c7
    obtain ⟨y498, hy498⟩ : ∃ y_ : List Int, y_ = ((l0.take ((wrap64 (1 + (wrap64 ((wrap64 (rd l0 0)) - 247)))) : Int).toNat).drop 1) := ⟨_, rfl⟩
    replace H : (num_Take.l0 k 0 (wrap64 ((wrap64 (rd l0 0)) - 247)) y498 (y498.length : Int) 0) = some (r1, r2, r3) := by first | (rw [hy498]; with_reducible exact H) | (have H2_ := (Option.bind_some _ _).symm.trans H; rw [hy498]; with_reducible exact H2_) | (have H2_ := (Option.bind_some _ _).symm.trans H; with_reducible exact H2_) | with_reducible exact H | (rw [hy498]; exact H) | exact H
    have Ny498 := Aside0.mk hy498
    clear hy498
    have H' := Aside0.mk H
    clear H
    have p495 : 0 ≤ (0 : Int) := (by omega)
    have q495 : 0 < (l0.length : Int) := od_
    obtain ⟨ad495, e495, hx495_0⟩ := Kd.at_int HR0.out 0 p495 q495
    cases e495
    have qi495 : (0 < l0.length) = True := eq_true (by omega)
    (try rw [show ((0 : Int)).toNat = 0 from rfl] at hx495_0)
    (try rw [Addr.add_zero'] at hx495_0)
    replace p495 := eq_true p495
    replace q495 := eq_true q495
    have p497 : 0 ≤ (0 : Int) := (by omega)
    have q497 : 0 < (l0.length : Int) := od_
    obtain ⟨ad497, e497, hx497_0⟩ := Kd.at_int HR0.out 0 p497 q497
    obtain rfl : ad495 = ad497 := (by injection e497)
    have qi497 : (0 < l0.length) = True := eq_true (by omega)
    (try rw [show ((0 : Int)).toNat = 0 from rfl] at hx497_0)
    (try rw [Addr.add_zero'] at hx497_0)
    replace p497 := eq_true p497
    replace q497 := eq_true q497
    have q8 : ((wrap64 (1 + (wrap64 ((wrap64 (rd l0 0)) - 247)))) : Int) ≤ ((l0.length : Int) : Int) := od_
    obtain ⟨i08, hi08, _, hsz8, _⟩ := info_parts info5
    have hroom8 : l0.length ≤ c0 := HC0.out
    have hC8 : Kd.C (Kd.int .u8) _ (some ad495) l0.length l0 := HR0.out
    have ql8 : (1 : Int) ≤ ((wrap64 (1 + (wrap64 ((wrap64 (rd l0 0)) - 247)))) : Int) := od_
    have hcut8 := cut_mid (P := Try.prog) 22 5 .i64 .i64 Try.underlying22 hi08 1 hsz8 (some ad495) l0.length c0 1 (wrap64 (1 + (wrap64 ((wrap64 (rd l0 0)) - 247)))) (by omega) ql8 q8 hroom8
    have hr8 := Kd.C_mid (lo := (1 : Int).toNat) (hi := ((wrap64 (1 + (wrap64 ((wrap64 (rd l0 0)) - 247)))) : Int).toNat) (c := c0) hC8 (by omega) (by omega) hroom8
    obtain ⟨A8, hA8⟩ : ∃ A1, A1 = (if c0 = (1 : Int).toNat then (some ad495) else ((some ad495) : Option Addr).map (·.add ((1 : Int).toNat * 1))) := ⟨_, rfl⟩
    obtain ⟨c8, hc8⟩ : ∃ c1, c1 = c0 - (1 : Int).toNat := ⟨_, rfl⟩
    have hy8 : y498.length = ((wrap64 (1 + (wrap64 ((wrap64 (rd l0 0)) - 247)))) : Int).toNat - (1 : Int).toNat := (by rw [Ny498.out, List.length_drop, List.length_take] <;> omega)
    rw [show ((l0).take ((wrap64 (1 + (wrap64 ((wrap64 (rd l0 0)) - 247)))) : Int).toNat).drop (1 : Int).toNat = y498 from Ny498.out.symm] at hr8
    replace hr8 : Kd.C (Kd.int .u8) _ A8 y498.length y498 := (by rw [hA8]; exact hr8)
    rw [← hy8, ← hA8, ← hc8] at hcut8
    have HR501 := Aside0.mk hr8
    have HC501 := Aside0.mk (show y498.length ≤ c8 from by rw [hy8, hc8]; exact Nat.sub_le_sub_right (Nat.le_trans (by omega) hroom8) _)
    clear hr8 hC8 hroom8 hi08 hsz8 hc8
    have KY8 := Aside0.mk hy8
    have KA8 := Aside0.mk hA8
    clear hy8 hA8
    replace q8 := eq_true q8
    go_enter Try.func38, Try.ntmps38
    go_wp2
    go_loopg [2, 36] k (fun kq v2 v36 w' => ∃ (x2_1 : Int) (x36_1 : Int), v2 = .int .u64 x2_1 ∧ v36 = .int .i64 x36_1 ∧ Aside0 (num_Take.l0 kq x2_1 (wrap64 ((wrap64 (rd l0 0)) - 247)) y498 (y498.length : Int) x36_1 = some (r1, r2, r3)) ∧ Aside0 (kq ≤ k) ∧ Drawn0 w w')
    case atStart => exact ⟨(0), (0), (by first | rfl | (simp; done) | (simp [*]; done)), (by first | rfl | (simp; done) | (simp [*]; done)), H', ⟨Nat.le_refl _⟩, by repeat (first | exact Drawn0.refl _ | apply Drawn0.step)⟩
    case round =>
     clear H'
     try clear c1
     try clear c2
     try clear c2b0
     try clear c2b1
     try clear c2b2
     try clear p2
     try clear c3
     try clear c3b0
     try clear c3b1
     try clear c4
     try clear c4b0
     try clear p4
     try clear q4
     try clear hx4
     try clear qi4
     try clear c5
     try clear c5b0
     try clear c6
     try clear c6b0
     try clear c6b1
     try clear p6
     try clear c7
     try clear c7b0
     try clear c7b1
     try clear c8
     try clear q8
     try clear hx495_0
     try clear hx496_0
     try clear hx497_0
     try clear p495
     try clear p496
     try clear p497
     try clear q495
     try clear q496
     try clear q497
     try clear q8
     obtain ⟨x2_1, x36_1, rfl, rfl, HA, HK1, ⟨m1, rfl⟩⟩ := hrel
     cases gk with
     | zero => exact absurd HA.out (by simp [num_Take.l0])
     | succ k1 =>
      have H := HA.out
      clear HA
      simp only [num_Take.l0] at H
      by_cases c9 : x36_1 < (y498.length : Int)
      rotate_left
      ·rw [if_neg c9] at H
       have c9b0 : decide (x36_1 < (y498.length : Int)) = false := decide_eq_false c9
       clear c9
       by_cases c15 : x2_1 ≤ 247
       ·rw [if_pos c15] at H
        have c15b0 : decide (x2_1 ≤ 247) = true := decide_eq_true c15
        clear c15
        simp only [Option.some.injEq, Prod.mk.injEq] at H
        obtain ⟨rfl, rfl, rfl⟩ := H
        go_wp2
        go_ret3
        exact ⟨by first | rfl | (simp; done) | (simp [*]; done), by repeat (first | exact Drawn0.refl _ | apply Drawn0.step)⟩
       ·rw [if_neg c15] at H
        have c15b0 : decide (x2_1 ≤ 247) = false := decide_eq_false c15
        clear c15
        replace H := Option.bind_eq_some_iff.mp H
        obtain ⟨t503, A160, H⟩ := H
        replace H : (if t503 < (wrap64 ((wrap64 (rd l0 0)) - 247)) then (some (0, 0, 2)) else (some (x2_1, wrap64 (1 + (wrap64 ((wrap64 (rd l0 0)) - 247))), 0))) = some (r1, r2, r3) := H
        have A16 := Aside0.mk A160
        clear A160
        by_cases c17 : t503 < (wrap64 ((wrap64 (rd l0 0)) - 247))
        rotate_left
        ·rw [if_neg c17] at H
         have c17b0 : decide (t503 < (wrap64 ((wrap64 (rd l0 0)) - 247))) = false := decide_eq_false c17
         clear c17
         simp only [Option.some.injEq, Prod.mk.injEq] at H
         obtain ⟨rfl, rfl, rfl⟩ := H
         go_wp2_with (first | (go_at_call 50; (with_reducible refine (num_size.calls x2_1 t503 _ A16.out).mono ?_); rintro e w' ⟨rfl, ⟨nd, rfl⟩⟩))
         go_ret3
         exact ⟨by first | rfl | (simp; done) | (simp [*]; done), by repeat (first | exact Drawn0.refl _ | apply Drawn0.step)⟩
        rw [if_pos c17] at H
        have c17b0 : decide (t503 < (wrap64 ((wrap64 (rd l0 0)) - 247))) = true := decide_eq_true c17
        clear c17
        simp only [Option.some.injEq, Prod.mk.injEq] at H
        obtain ⟨rfl, rfl, rfl⟩ := H
        go_wp2_with (first | (go_at_call 50; (with_reducible refine (num_size.calls x2_1 t503 _ A16.out).mono ?_); rintro e w' ⟨rfl, ⟨nd, rfl⟩⟩))
        go_ret3
        exact ⟨by first | rfl | (simp; done) | (simp [*]; done), by repeat (first | exact Drawn0.refl _ | apply Drawn0.step)⟩
      rw [if_pos c9] at H
      have c9b0 : decide (x36_1 < (y498.length : Int)) = true := decide_eq_true c9
      clear c9
      by_cases c10 : 0 ≤ x36_1
      rotate_left
      ·rw [if_neg c10] at H
       exact absurd H (by simp)
      rw [if_pos c10] at H
      have c10b0 : decide (0 ≤ x36_1) = true := decide_eq_true c10
      clear c10
      by_cases c11 : x36_1 < (y498.length : Int)
      rotate_left
      ·rw [if_neg c11] at H
       exact absurd H (by simp)
      rw [if_pos c11] at H
      have c11b0 : decide (x36_1 < (y498.length : Int)) = true := decide_eq_true c11
      clear c11
      obtain ⟨ji12, hji12⟩ : ∃ j_ : Int, (wrap64 (8 * x36_1)) = j_ := ⟨_, rfl⟩
      replace H : (if 0 ≤ (ji12) then (num_Take.l0 k1 (Go.bits .or .u64 x2_1 (shl .u64 (IntKind.u64.wrap (rd y498 x36_1)) (ji12))) (wrap64 ((wrap64 (rd l0 0)) - 247)) y498 (y498.length : Int) (wrap64 (x36_1 + 1))) else (none)) = some (r1, r2, r3) := by first | (rw [hji12] at H; exact H) | (simp only [hji12] at H ⊢; exact H)
      have hji12w : (IntKind.i64.wrap (8 * x36_1)) = ji12 := (i64_w _).trans hji12
      by_cases c13 : 0 ≤ (ji12)
      rotate_left
      ·rw [if_neg c13] at H
       exact absurd H (by simp)
      rw [if_pos c13] at H
      have c13b0 := eq_true c13
      have c13b1 : decide (0 ≤ (ji12)) = true := decide_eq_true c13
      clear c13
      obtain ⟨ji14, hji14⟩ : ∃ j_ : Int, (shl .u64 (IntKind.u64.wrap (rd y498 x36_1)) (ji12)) = j_ := ⟨_, rfl⟩
      replace H : (num_Take.l0 k1 (Go.bits .or .u64 x2_1 (ji14)) (wrap64 ((wrap64 (rd l0 0)) - 247)) y498 (y498.length : Int) (wrap64 (x36_1 + 1))) = some (r1, r2, r3) := by first | (rw [hji14] at H; exact H) | (simp only [hji14] at H ⊢; exact H)
      have hji14_ : (IntKind.u64.wrap ((IntKind.u64.wrap (rd y498 x36_1)) * 2 ^ min (ji12).toNat 64)) = ji14 := hji14
      have hji14z : (ji12) ≤ 64 → (IntKind.u64.wrap ((IntKind.u64.wrap (rd y498 x36_1)) * 2 ^ (ji12).toNat)) = ji14 := shl_small hji14
      have H' := Aside0.mk H
      clear H
      have p502 : 0 ≤ (x36_1 : Int) := od_
      have q502 : x36_1 < (y498.length : Int) := od_
      obtain ⟨ad502, e502, hx502_0⟩ := Kd.at_int HR501.out x36_1 p502 q502
      cases e502
      replace p502 := eq_true p502
      replace q502 := eq_true q502
      go_wp2
      (try subst hji14 hji12)
      go_roundg k1
      case measure => have := HK1.out; omega
      case rel => exact ⟨(Go.bits .or .u64 x2_1 ((shl .u64 (IntKind.u64.wrap (rd y498 x36_1)) ((wrap64 (8 * x36_1)))))), (wrap64 (x36_1 + 1)), (by first | rfl | (simp; done) | (simp only [← hji14] <;> (first | rfl | simp)) | (simp [*]; done)), (by first | rfl | (simp; done) | (simp [*]; done)), H', ⟨by have := HK1.out; omega⟩, by repeat (first | exact Drawn0.refl _ | apply Drawn0.step)⟩
end Go.Proofs.Ytcjkmmajokkkfaa.P
end
