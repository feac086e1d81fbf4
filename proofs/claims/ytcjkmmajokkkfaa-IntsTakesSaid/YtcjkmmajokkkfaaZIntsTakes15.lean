/- Words and proofs that IntsTakes leans on; put together by wip/tools/shake.py. -/
import Derived.Test.YtcjkmmajokkkfaaZIntsTakes7
import Derived.Test.YtcjkmmajokkkfaaZIntsTakes13
import Derived.Test.YtcjkmmajokkkfaaZIntsTakes14
section
namespace Go.Proofs.Ytcjkmmajokkkfaa.P
open Go.RowKit Go.Proofs.YtcjkmmajokkkfaaW.PrintWords Go.Proofs.YtcjkmmajokkkfaaW.PrintLast Go.Proofs.YtcjkmmajokkkfaaW.PrintMore
attribute [local go_sem] max2_int min2_int max_two min_two max_three min_three max_four min_four
set_option linter.unusedVariables false
set_option linter.unusedSimpArgs false
def dragnetref02_Bytes.l0 : Nat → Int → List Int → Option (List Int)
 | 0, _, _ => none
 | k + 1, x0, x3 => if x0 > 0 then (if x3.length < 140737488355328 then ((some (x3 ++ [(Int.tmod x0 256) % 256] : List Int)).bind fun y281 => (if 0 < (y281.length : Int) then (dragnetref02_Bytes.l0 k (IntKind.u64.wrap (Int.tdiv x0 256)) (y281.set (0 : Int).toNat (((rd y281 0) + 1) % 256))) else (none))) else (none)) else (some x3)
def dragnetref02_Bytes.f (k : Nat) (a0 : Int) : Option (List Int) := if a0 ≤ 247 then (some (([(a0) % 256] : List Int))) else (dragnetref02_Bytes.l0 k a0 (([247] : List Int)))
theorem dragnetref02_Bytes.mono_l : ∀ k, (∀ y0 y1, LeO (dragnetref02_Bytes.l0 k y0 y1) (dragnetref02_Bytes.l0 (k + 1) y0 y1))
 | 0 => fun _ _ r h => by simp [dragnetref02_Bytes.l0] at h
 | k + 1 => by
  have ih0 := dragnetref02_Bytes.mono_l k
  ·intro y0 y1
   unfold dragnetref02_Bytes.l0
   repeat' first
   | (with_reducible exact ih0 _ _)
   | (with_reducible exact LeO.refl _)
   | (with_reducible exact LeO.none _)
   | (with_reducible refine LeO.ite ?_ ?_)
   | (with_reducible refine LeO.bind ?_ (fun _ => ?_))
theorem dragnetref02_Bytes.mono : ∀ a0 k, LeO (dragnetref02_Bytes.f k a0) (dragnetref02_Bytes.f (k + 1) a0) := by
 intro a0 k
 have ih0 := dragnetref02_Bytes.mono_l k
 unfold dragnetref02_Bytes.f
 repeat' first
   | (with_reducible exact ih0 _ _)
   | (with_reducible exact LeO.refl _)
   | (with_reducible exact LeO.none _)
   | (with_reducible refine LeO.ite ?_ ?_)
   | (with_reducible refine LeO.bind ?_ (fun _ => ?_))
set_option maxHeartbeats 8000000 in
set_option maxRecDepth 100000 in
theorem dragnetref02_Bytes.calls (k : Nat) (a0 : Int) (r : List Int) (w : World) (h : dragnetref02_Bytes.f k a0 = some r) :
  Calls Try.prog 32 #[.int .u64 a0] w fun e w' => ∃ v0_ : Value, e = .returned (v0_) ∧ Kd.R (Kd.int .u8) 5 w' w.heap.size (fun _ => True) v0_ r ∧ Below w.heap.size w w' := by
 have HB := Aside0.mk (Below.refl w.heap.size w)
 have H : (if a0 ≤ 247 then (some (([(a0) % 256] : List Int))) else (dragnetref02_Bytes.l0 k a0 (([247] : List Int)))) = some r := h
 clear h
 by_cases c2 : a0 ≤ 247
 ·rw [if_pos c2] at H
  have c2b0 : decide (a0 ≤ 247) = true := decide_eq_true c2
  clear c2
  obtain ⟨y275, hy275⟩ : ∃ y_ : List Int, y_ = (([(a0) % 256] : List Int)) := ⟨_, rfl⟩
  replace H : (some y275) = some r := by first | (rw [hy275]; with_reducible exact H) | (have H2_ := (Option.bind_some _ _).symm.trans H; rw [hy275]; with_reducible exact H2_) | (have H2_ := (Option.bind_some _ _).symm.trans H; with_reducible exact H2_) | with_reducible exact H | (rw [hy275]; exact H) | exact H
  have Ny275 := Aside0.mk hy275
  clear hy275
  obtain rfl := Option.some.inj H
  go_enter Try.func32, Try.ntmps32
  go_wp2_with (first | ((with_reducible refine gate_dst (N := 8) rfl ?_); refine Kd.R_lit (Kd.int .u8) _ 5 ?hg (N := 8) ?hd (xs := ([(a0) % 256] : List Int)) (inner := [.int .u8 ((a0) % 256)]) (ok := fun _ => True) (okp := fun _ => True) ?hr ?hp (fun _ hk => hk) trivial (Below.refl _ _) (Nat.le_refl _) (by simp) ?_; (case hd => rfl); (case hg => rfl); (case hr => first | (go_simp; done) | (go_simp; rfl)); (case hp => exact (Reps.one (show Kd.M (Kd.int .u8) _ _ _ ((a0) % 256) [.int .u8 ((a0) % 256)] from rfl) (Reps.none _ _))); intro v276 w3 ho4 hb hg_ hnew_; clear hg_ hnew_; (first | rw [← Ny275.out] at ho4 | (simp only [Int.reduceToNat] at ho4; rw [← Ny275.out] at ho4)); have HO277 := Aside0.mk (Kd.R_lower ho4 (pbS_ bw_)); replace HB := Aside0.mk (below_step bw_ hb); clear hb ho4))
  go_ret
  exact ⟨_, rf_, by (with_reducible repeat (first | apply Kd.rA_ | apply Kd.rN_ | apply Kd.rD_)); exact HO277.out, bw_⟩
 ·rw [if_neg c2] at H
  have c2b0 : decide (a0 ≤ 247) = false := decide_eq_false c2
  clear c2
  obtain ⟨y278, hy278⟩ : ∃ y_ : List Int, y_ = (([247] : List Int)) := ⟨_, rfl⟩
  replace H : (dragnetref02_Bytes.l0 k a0 y278) = some r := by first | (rw [hy278]; with_reducible exact H) | (have H2_ := (Option.bind_some _ _).symm.trans H; rw [hy278]; with_reducible exact H2_) | (have H2_ := (Option.bind_some _ _).symm.trans H; with_reducible exact H2_) | with_reducible exact H | (rw [hy278]; exact H) | exact H
  have Ny278 := Aside0.mk hy278
  clear hy278
  have H' := Aside0.mk H
  clear H
  go_enter Try.func32, Try.ntmps32
  go_wp2_with (first | ((with_reducible refine gate_dst (N := 9) rfl ?_); refine Kd.R_lit (Kd.int .u8) _ 5 ?hg (N := 9) ?hd (xs := ([247] : List Int)) (inner := [.int .u8 247]) (ok := fun _ => True) (okp := fun _ => True) ?hr ?hp (fun _ hk => hk) trivial (Below.refl _ _) (Nat.le_refl _) (by simp) ?_; (case hd => rfl); (case hg => rfl); (case hr => first | (go_simp; done) | (go_simp; rfl)); (case hp => exact (Reps.one (show Kd.M (Kd.int .u8) _ _ _ 247 [.int .u8 247] from rfl) (Reps.none _ _))); intro v279 w5 ho6 hb hg_ hnew_; clear hg_ hnew_; (first | rw [← Ny278.out] at ho6 | (simp only [Int.reduceToNat] at ho6; rw [← Ny278.out] at ho6)); have HO280 := Aside0.mk (Kd.R_lower ho6 (pbS_ bw_)); replace HB := Aside0.mk (below_step bw_ hb); clear hb ho6))
  go_loopg [0, 3] k (fun kq v0 v3 w' => ∃ (x0_1 : Int) (x3_1 : List Int), v0 = .int .u64 x0_1 ∧ Aside0 (dragnetref02_Bytes.l0 kq x0_1 x3_1 = some r) ∧ Aside0 (kq ≤ k) ∧ Aside0 (Kd.R (Kd.int .u8) 5 w' w.heap.size (fun _ => True) v3 x3_1) ∧ Aside0 (Below w.heap.size w w'))
  case atStart => exact ⟨(a0), (y278), (by first | rfl | (simp; done) | (simp [*]; done)), H', ⟨Nat.le_refl _⟩, ⟨Kd.ru_ HO280.out⟩, ⟨bw_⟩⟩
  case round =>
   clear H'
   try clear c2
   try clear c2b0
   try clear p2
   try clear c3
   obtain ⟨x0_1, x3_1, rfl, HA, HK1, HO_3, HB⟩ := hrel
   cases gk with
   | zero => exact absurd HA.out (by simp [dragnetref02_Bytes.l0])
   | succ k1 =>
    have H := HA.out
    clear HA
    simp only [dragnetref02_Bytes.l0] at H
    by_cases c7 : x0_1 > 0
    rotate_left
    ·rw [if_neg c7] at H
     have c7b0 : decide (0 < x0_1) = false := decide_eq_false c7
     clear c7
     obtain rfl := Option.some.inj H
     go_wp2
     go_ret
     exact ⟨_, rf_, by (with_reducible repeat (first | apply Kd.rA_ | apply Kd.rN_ | apply Kd.rD_)); exact HO_3.out, bw_⟩
    rw [if_pos c7] at H
    have c7b0 : decide (0 < x0_1) = true := decide_eq_true c7
    clear c7
    by_cases c8 : x3_1.length < 140737488355328
    rotate_left
    ·rw [if_neg c8] at H
     exact absurd H (by simp)
    rw [if_pos c8] at H
    have LMc8 := Aside0.mk c8
    clear c8
    obtain ⟨y281, hy281⟩ : ∃ y_ : List Int, y_ = (x3_1 ++ [(Int.tmod x0_1 256) % 256]) := ⟨_, rfl⟩
    replace H : (if 0 < (y281.length : Int) then (dragnetref02_Bytes.l0 k1 (IntKind.u64.wrap (Int.tdiv x0_1 256)) (y281.set (0 : Int).toNat (((rd y281 0) + 1) % 256))) else (none)) = some r := by first | (rw [hy281]; with_reducible exact H) | (have H2_ := (Option.bind_some _ _).symm.trans H; rw [hy281]; with_reducible exact H2_) | (have H2_ := (Option.bind_some _ _).symm.trans H; with_reducible exact H2_) | with_reducible exact H | (rw [hy281]; exact H) | exact H
    have Ny281 := Aside0.mk hy281
    clear hy281
    by_cases c9 : 0 < (y281.length : Int)
    rotate_left
    ·rw [if_neg c9] at H
     exact absurd H (by simp)
    rw [if_pos c9] at H
    have c9b0 : decide (0 < (y281.length : Int)) = true := decide_eq_true c9
    have c9b1 : decide (0 < y281.length) = true := decide_eq_true (by omega)
    clear c9
    obtain ⟨y285, hy285⟩ : ∃ y_ : List Int, y_ = (y281.set (0 : Int).toNat (((rd y281 0) + 1) % 256)) := ⟨_, rfl⟩
    replace H : (dragnetref02_Bytes.l0 k1 (IntKind.u64.wrap (Int.tdiv x0_1 256)) y285) = some r := by first | (rw [hy285]; with_reducible exact H) | (have H2_ := (Option.bind_some _ _).symm.trans H; rw [hy285]; with_reducible exact H2_) | (have H2_ := (Option.bind_some _ _).symm.trans H; with_reducible exact H2_) | with_reducible exact H | (rw [hy285]; exact H) | exact H
    have Ny285 := Aside0.mk hy285
    clear hy285
    have H' := Aside0.mk H
    clear H
    go_wp2_with (first | ((with_reducible refine gate_builtin (b := .append) (xs := #[.tmp 12, .tmp 16]) rfl ?_); at_builtin; refine Kd.R_append (Kd.int .u8) (w0 := w) w.heap.size rfl (.tmp 12) (.tmp 16) 22 5 (.int .u8 0) 1 rfl Try.underlying22 info5 rfl (by decide) (by omega) u3 x3_1 ((Int.tmod x0_1 256) % 256) [.int .u8 ((Int.tmod x0_1 256) % 256)] (fun _ => True) (fun _ => False) rfl rfl ?aP (fun _ hk => hk.elim) ?aF ?aO ?aB ?aS ?aL ?_; (case aP => exact rfl); (case aB => exact bw_); (case aF => exact (fun _ _ => trivial)); (case aO => exact (Kd.ru_ HO_3.out)); (case aS => exact (pbS_ bw_)); (case aL => have := LMc8.out; omega); intro v282 w11 ho hb hg hat; rw [← Ny281.out] at ho; have n0_ := Aside0.mk (hb); have n1_ := Aside0.mk (ho); clear HB; clear HO_3; have HB := n0_; have HO283 := n1_; clear n0_ n1_; clear ho hb hg hat; obtain ⟨Ao12, co12, eo12⟩ := Kd.R_slice HO283.out; subst eo12; have p284 : 0 ≤ (0 : Int) := (by omega); have q284 : 0 < (y281.length : Int) := od_; obtain ⟨ad284, e284, hx284_0⟩ := Kd.at_int (Kd.R_reads' HO283.out).2.2 0 p284 q284; cases e284; have qi284 : (0 < y281.length) = True := eq_true (by omega); (try rw [show ((0 : Int)).toNat = 0 from rfl] at hx284_0); (try rw [Addr.add_zero'] at hx284_0); replace p284 := eq_true p284; replace q284 := eq_true q284; have p10 : 0 ≤ (0 : Int) := (by omega); have q10 : (0 : Int) < ((y281.length : Int) : Int) := od_; have qi10 : (0 < y281.length) = True := eq_true (by omega); obtain ⟨go10, co10, eo10, gb10, gl10, cl10, HG10⟩ := Kd.R_form HO283.out (by omega); (first | cases eo10 | (injection eo10 with ea_ en_ ec_; (first | subst ea_ | (injection ea_ with ea_; subst ea_)); subst ec_; clear en_)); have GB10 := Aside0.mk gb10; have GG10 := Aside0.mk HG10; clear gb10 gl10 HG10; (first | simp only [add_plain] at hx284_0 | skip); obtain ⟨hx10_0, hf10_0⟩ := Kd.R_celln 0 HO283.out (0 : Int) p10 q10; (try rw [show ((0 : Int)).toNat = 0 from rfl] at hx10_0); (try simp only [Nat.reduceMul, Nat.zero_mul, Nat.zero_add, Nat.reduceAdd] at hx10_0); (try rw [show ((0 : Int)).toNat = 0 from rfl] at hf10_0); (try simp only [Nat.reduceMul, Nat.zero_mul, Nat.zero_add, Nat.reduceAdd] at hf10_0); replace p10 := eq_true p10; replace q10 := eq_true q10; obtain ⟨hy13_, hz13_⟩ := Kd.R_celln 0 HO283.out (0 : Int) (by omega) od_; (try simp only [Int.reduceToNat, Int.toNat_zero, Int.toNat_ofNat, Nat.reduceMul, Nat.zero_mul, Nat.zero_add] at hy13_ hz13_); (try rw [show ((0 : Int)).toNat = 0 from rfl] at hy13_); (try rw [show ((0 : Int)).toNat = 0 from rfl] at hz13_); have HP13 := Kd.R_putg HO283.out (0 : Int) (((rd y281 0) + 1) % 256)) | ((with_reducible refine gate_store (t := 5) (p := 23) rfl ?_); refine store_event (t := 5) (p := 23) (v := ?vo_w14) (w1 := (w11.setCell ⟨go10, (0 : Int).toNat, none⟩ (.int .u8 (((rd y281 0) + 1) % 256)))) ?hg ?ho ?hn ?hr ?_; (case ho => rfl); (case hg => rfl); (case hn => rfl); (case hr => first | (go_simp; done) | (go_simp; rfl)); intro w14 hw; have hg : w11.grownBy w14 (some go10) := (by rw [hw]; exact HP13.2); have hp_ : Kd.R (Kd.int .u8) 5 w14 w.heap.size (fun _ => True) (.slice (some ⟨go10, 0, none⟩) y281.length co12) y285 := (by rw [hw, Ny285.out]; exact HP13.1); clear HP13; replace HO283 := Aside0.mk (hp_); replace HB := Aside0.mk ((by rw [hw]; exact below_set (HB.out) GB10.out : Below w.heap.size w w14)); clear hg hw hp_))
    go_roundg k1
    case measure => have := HK1.out; omega
    case rel => exact ⟨(IntKind.u64.wrap (Int.tdiv x0_1 256)), (y285), (by first | rfl | (simp; done) | (simp [*]; done)), H', ⟨by have := HK1.out; omega⟩, ⟨Kd.ru_ HO283.out⟩, ⟨bw_⟩⟩
mutual
def dragnetref04_By.l0 : Nat → List Int → Int → Int → Int → Option (List Int)
 | 0, _, _, _, _ => none
 | k + 1, x0, x1, x5, x6 => if x6 < (x0.length : Int) then (if 0 ≤ x6 then (dragnetref04_By.l0 k x0 x1 (mn x5 (rd x0 x6)) (wrap64 (x6 + 1))) else (none)) else (dragnetref04_By.l1 k x0 x1 x5 ([] : List Int) ([] : List Int) 0 0)
def dragnetref04_By.l1 : Nat → List Int → Int → Int → List Int → List Int → Int → Int → Option (List Int)
 | 0, _, _, _, _, _, _, _ => none
 | k + 1, x0, x1, x5, x7, x8, x9, x10 => if x10 < (x0.length : Int) then (if 0 ≤ x10 then (if x1 = 64 then (if x7.length < 17592186044416 then (dragnetref04_By.l1 k x0 x1 x5 (x7 ++ [IntKind.u64.wrap ((rd x0 x10) - x5)]) x8 x9 (wrap64 (x10 + 1))) else (none)) else (if 0 ≤ x1 then (if (shl .u64 1 x1) = 0 then (none) else (if x7.length < 17592186044416 then ((some (x7 ++ [Int.tmod (IntKind.u64.wrap ((rd x0 x10) - x5)) (shl .u64 1 x1)] : List Int)).bind fun y317 => (if (shr .u64 (IntKind.u64.wrap ((rd x0 x10) - x5)) x1) > 0 then (if x8.length < 140737488355328 then ((some (x8 ++ [(x10) % 256] : List Int)).bind fun y320 => ((dragnetref02_Bytes.f k (shr .u64 (IntKind.u64.wrap ((rd x0 x10) - x5)) x1)).bind fun t323 => (if y320.length + t323.length < 140737488355328 then (dragnetref04_By.l1 k x0 x1 x5 y317 (y320 ++ t323) (wrap64 (x9 + 1)) (wrap64 (x10 + 1))) else (none)))) else (none)) else (dragnetref04_By.l1 k x0 x1 x5 y317 x8 x9 (wrap64 (x10 + 1))))) else (none))) else (none))) else (none)) else ((dragnetref03_Pack.f k x7 x1).bind fun bt288 => ((some (([((x0.length : Int)) % 256] : List Int) : List Int)).bind fun y292 => ((dragnetref02_Bytes.f k x5).bind fun t295 => (if y292.length + t295.length < 140737488355328 then ((some (y292 ++ t295 : List Int)).bind fun y298 => ((some (([(x1) % 256, (x9) % 256] : List Int) : List Int)).bind fun y301 => (if y298.length + y301.length < 140737488355328 then ((some (y298 ++ y301 : List Int)).bind fun y304 => (if y304.length + bt288.1.length < 140737488355328 then ((some (y304 ++ bt288.1 : List Int)).bind fun y307 => (if y307.length + x8.length < 140737488355328 then (some (y307 ++ x8)) else (none))) else (none))) else (none)))) else (none)))))
end
def dragnetref04_By.f (k : Nat) (l0 : List Int) (a1 : Int) : Option (List Int) := if 0 < (l0.length : Int) then (dragnetref04_By.l0 k l0 a1 (rd l0 0) 0) else (none)
theorem dragnetref04_By.mono_l : ∀ k, (∀ y0 y1 y2 y3, LeO (dragnetref04_By.l0 k y0 y1 y2 y3) (dragnetref04_By.l0 (k + 1) y0 y1 y2 y3)) ∧ (∀ y0 y1 y2 y3 y4 y5 y6, LeO (dragnetref04_By.l1 k y0 y1 y2 y3 y4 y5 y6) (dragnetref04_By.l1 (k + 1) y0 y1 y2 y3 y4 y5 y6))
 | 0 => ⟨fun _ _ _ _ r h => by simp [dragnetref04_By.l0] at h, fun _ _ _ _ _ _ _ r h => by simp [dragnetref04_By.l1] at h⟩
 | k + 1 => by
  obtain ⟨ih0, ih1⟩ := dragnetref04_By.mono_l k
  refine ⟨?_, ?_⟩
  ·intro y0 y1 y2 y3
   unfold dragnetref04_By.l0
   repeat' first
   | (with_reducible exact ih0 _ _ _ _)
   | (with_reducible exact ih1 _ _ _ _ _ _ _)
   | (with_reducible exact dragnetref02_Bytes.mono _ _)
   | (with_reducible exact dragnetref03_Pack.mono _ _ _)
   | (with_reducible exact LeO.refl _)
   | (with_reducible exact LeO.none _)
   | (with_reducible refine LeO.ite ?_ ?_)
   | (with_reducible refine LeO.bind ?_ (fun _ => ?_))
  ·intro y0 y1 y2 y3 y4 y5 y6
   unfold dragnetref04_By.l1
   repeat' first
   | (with_reducible exact ih0 _ _ _ _)
   | (with_reducible exact ih1 _ _ _ _ _ _ _)
   | (with_reducible exact dragnetref02_Bytes.mono _ _)
   | (with_reducible exact dragnetref03_Pack.mono _ _ _)
   | (with_reducible exact LeO.refl _)
   | (with_reducible exact LeO.none _)
   | (with_reducible refine LeO.ite ?_ ?_)
   | (with_reducible refine LeO.bind ?_ (fun _ => ?_))
theorem dragnetref04_By.mono : ∀ a0 a1 k, LeO (dragnetref04_By.f k a0 a1) (dragnetref04_By.f (k + 1) a0 a1) := by
 intro a0 a1 k
 obtain ⟨ih0, ih1⟩ := dragnetref04_By.mono_l k
 unfold dragnetref04_By.f
 repeat' first
   | (with_reducible exact ih0 _ _ _ _)
   | (with_reducible exact ih1 _ _ _ _ _ _ _)
   | (with_reducible exact dragnetref02_Bytes.mono _ _)
   | (with_reducible exact dragnetref03_Pack.mono _ _ _)
   | (with_reducible exact LeO.refl _)
   | (with_reducible exact LeO.none _)
   | (with_reducible refine LeO.ite ?_ ?_)
   | (with_reducible refine LeO.bind ?_ (fun _ => ?_))
def dragnetref04_By.T18 : Bool × List (List Nat × List Nat) := (true, [([], []), ([], []), ([1], [1]), ([2], [2]), ([0, 3], [0, 3]), ([], []), ([], []), ([5, 6], [5, 6]), ([7, 4], [7]), ([4, 8, 8], [4, 8]), ([9, 9, 0, 1, 2, 3, 4, 5, 6, 7, 8, 9], [0, 9])])
def dragnetref04_By.B18 : List Nat := [0, 0, 2, 6, 15, 0, 0, 96, 255, 511, 1023]
theorem dragnetref04_By.tab18 : rtab .any (opsOf Try.f73 18) = dragnetref04_By.T18 := by kernel_rfl
theorem dragnetref04_By.bits18 : waitsOk dragnetref04_By.T18.2 dragnetref04_By.B18 = true := by kernel_rfl
set_option maxHeartbeats 8000000 in
set_option maxRecDepth 100000 in
theorem dragnetref04_By.calls (k : Nat) (A0 : Option Addr) (c0 : Nat) (l0 : List Int) (a1 : Int) (r : List Int) (w : World) (hr0 : Kd.C (Kd.int .u64) w A0 l0.length l0) (hc0 : l0.length ≤ c0) (h : dragnetref04_By.f k l0 a1 = some r) :
  Calls Try.prog 73 #[.slice A0 l0.length c0, .int .i64 a1] w fun e w' => ∃ v0_ : Value, e = .returned (v0_) ∧ Kd.R (Kd.int .u8) 5 w' w.heap.size (fun _ => True) v0_ r ∧ Below w.heap.size w w' := by
 have HR0 := Aside0.mk hr0
 have HC0 := Aside0.mk hc0
 clear hr0 hc0
 have HB := Aside0.mk (Below.refl w.heap.size w)
 have H : (if 0 < (l0.length : Int) then (dragnetref04_By.l0 k l0 a1 (rd l0 0) 0) else (none)) = some r := h
 clear h
 by_cases c3 : 0 < (l0.length : Int)
 rotate_left
 ·rw [if_neg c3] at H
  exact absurd H (by simp)
 rw [if_pos c3] at H
 have c3b0 : decide (0 < (l0.length : Int)) = true := decide_eq_true c3
 have c3b1 : decide (0 < l0.length) = true := decide_eq_true (by omega)
 clear c3
 have H' := Aside0.mk H
 clear H
 have p286 : 0 ≤ (0 : Int) := (by omega)
 have q286 : 0 < (l0.length : Int) := od_
 obtain ⟨ad286, e286, hx286_0⟩ := Kd.at_int HR0.out 0 p286 q286
 cases e286
 have qi286 : (0 < l0.length) = True := eq_true (by omega)
 (try rw [show ((0 : Int)).toNat = 0 from rfl] at hx286_0)
 (try rw [Addr.add_zero'] at hx286_0)
 replace p286 := eq_true p286
 replace q286 := eq_true q286
 go_enter Try.func73, Try.ntmps73
 go_wp2
 go_loopg [5, 6] k (fun kq v5 v6 w' => ∃ (x5_1 : Int) (x6_1 : Int), v5 = .int .u64 x5_1 ∧ v6 = .int .i64 x6_1 ∧ Aside0 (dragnetref04_By.l0 kq l0 a1 x5_1 x6_1 = some r) ∧ Aside0 (kq ≤ k) ∧ Aside0 (Below w.heap.size w w'))
 case atStart => exact ⟨(rd l0 0), (0), (by first | rfl | (simp; done) | (simp [*]; done)), (by first | rfl | (simp; done) | (simp [*]; done)), H', ⟨Nat.le_refl _⟩, ⟨bw_⟩⟩
 case round =>
  clear H'
  try clear p2
  try clear q2
  try clear hx2
  try clear qi2
  try clear c3
  try clear c3b0
  try clear c3b1
  try clear hx286_0
  try clear p286
  try clear q286
  obtain ⟨x5_1, x6_1, rfl, rfl, HA, HK1, HB⟩ := hrel
  cases gk with
  | zero => exact absurd HA.out (by simp [dragnetref04_By.l0])
  | succ k1 =>
   have H := HA.out
   clear HA
   simp only [dragnetref04_By.l0] at H
   by_cases c4 : x6_1 < (l0.length : Int)
   ·rw [if_pos c4] at H
    have c4b0 : decide (x6_1 < (l0.length : Int)) = true := decide_eq_true c4
    clear c4
    by_cases c5 : 0 ≤ x6_1
    rotate_left
    ·rw [if_neg c5] at H
     exact absurd H (by simp)
    rw [if_pos c5] at H
    have c5b0 : decide (0 ≤ x6_1) = true := decide_eq_true c5
    clear c5
    obtain ⟨ji6, hji6⟩ : ∃ j_ : Int, (mn x5_1 (rd l0 x6_1)) = j_ := ⟨_, rfl⟩
    replace H : (dragnetref04_By.l0 k1 l0 a1 ji6 (wrap64 (x6_1 + 1))) = some r := by first | (rw [hji6] at H; exact H) | (simp only [hji6] at H ⊢; exact H)
    have hji6_ : (if (rd l0 x6_1) < x5_1 then (rd l0 x6_1) else x5_1) = ji6 := hji6
    have H' := Aside0.mk H
    clear H
    have p287 : 0 ≤ (x6_1 : Int) := od_
    have q287 : x6_1 < (l0.length : Int) := od_
    obtain ⟨ad287, e287, hx287_0⟩ := Kd.at_int HR0.out x6_1 p287 q287
    obtain rfl : ad286 = ad287 := (by injection e287)
    replace hx287_0 := (HB.out.cell (World.block_lt_of_cell? w _ hx287_0)).trans hx287_0
    replace p287 := eq_true p287
    replace q287 := eq_true q287
    go_wp2
    (try subst hji6)
    go_roundg k1
    case measure => have := HK1.out; omega
    case rel => exact ⟨((mn x5_1 (rd l0 x6_1))), (wrap64 (x6_1 + 1)), (by first | rfl | (simp; done) | (simp only [← hji6] <;> (first | rfl | simp)) | (simp [*]; done)), (by first | rfl | (simp; done) | (simp [*]; done)), H', ⟨by have := HK1.out; omega⟩, ⟨bw_⟩⟩
   ·rw [if_neg c4] at H
    have c4b0 : decide (x6_1 < (l0.length : Int)) = false := decide_eq_false c4
    clear c4
    have H' := Aside0.mk H
    clear H
    go_wp2
    go_loopg [7, 8, 9, 10] k1 (fun kq v7 v8 v9 v10 w' => ∃ (x7_2 : List Int) (x8_2 : List Int) (x9_2 : Int) (x10_2 : Int), v9 = .int .i64 x9_2 ∧ v10 = .int .i64 x10_2 ∧ Aside0 (dragnetref04_By.l1 kq l0 a1 x5_1 x7_2 x8_2 x9_2 x10_2 = some r) ∧ Aside0 (kq ≤ k1) ∧ Aside0 (Kd.R (Kd.int .u64) 50 w' w.heap.size (fun _ => True) v7 x7_2) ∧ Aside0 (Kd.R (Kd.int .u8) 5 w' w.heap.size (fun _ => True) v8 x8_2) ∧ Aside0 (Below w.heap.size w w'))
    case atStart => exact ⟨(([] : List Int)), (([] : List Int)), (0), (0), (by first | rfl | (simp; done) | (simp [*]; done)), (by first | rfl | (simp; done) | (simp [*]; done)), H', ⟨Nat.le_refl _⟩, ⟨ni_⟩, ⟨ni_⟩, ⟨bw_⟩⟩
    case round =>
     clear H'
     try clear p2
     try clear q2
     try clear hx2
     try clear qi2
     try clear c3
     try clear c3b0
     try clear c3b1
     try clear c4
     try clear c4b0
     try clear c5
     try clear c5b0
     try clear p6
     try clear hx286_0
     try clear hx287_0
     try clear p2
     try clear p286
     try clear p287
     try clear q2
     try clear q286
     try clear q287
     obtain ⟨x7_2, x8_2, x9_2, x10_2, rfl, rfl, HA, HK2, HO_7, HO_8, HB⟩ := hrel
     cases gk with
     | zero => exact absurd HA.out (by simp [dragnetref04_By.l1])
     | succ k2 =>
      have H := HA.out
      clear HA
      simp only [dragnetref04_By.l1] at H
      by_cases c7 : x10_2 < (l0.length : Int)
      rotate_left
      ·rw [if_neg c7] at H
       have c7b0 : decide (x10_2 < (l0.length : Int)) = false := decide_eq_false c7
       clear c7
       replace H := Option.bind_eq_some_iff.mp H
       obtain ⟨⟨t288, t289⟩, A300, H⟩ := H
       replace H : ((some (([((l0.length : Int)) % 256] : List Int) : List Int)).bind fun y292 => ((dragnetref02_Bytes.f k2 x5_1).bind fun t295 => (if y292.length + t295.length < 140737488355328 then ((some (y292 ++ t295 : List Int)).bind fun y298 => ((some (([(a1) % 256, (x9_2) % 256] : List Int) : List Int)).bind fun y301 => (if y298.length + y301.length < 140737488355328 then ((some (y298 ++ y301 : List Int)).bind fun y304 => (if y304.length + t288.length < 140737488355328 then ((some (y304 ++ t288 : List Int)).bind fun y307 => (if y307.length + x8_2.length < 140737488355328 then (some (y307 ++ x8_2)) else (none))) else (none))) else (none)))) else (none)))) = some r := H
       have A30 := Aside0.mk A300
       clear A300
       obtain ⟨y292, hy292⟩ : ∃ y_ : List Int, y_ = (([((l0.length : Int)) % 256] : List Int)) := ⟨_, rfl⟩
       replace H : ((dragnetref02_Bytes.f k2 x5_1).bind fun t295 => (if y292.length + t295.length < 140737488355328 then ((some (y292 ++ t295 : List Int)).bind fun y298 => ((some (([(a1) % 256, (x9_2) % 256] : List Int) : List Int)).bind fun y301 => (if y298.length + y301.length < 140737488355328 then ((some (y298 ++ y301 : List Int)).bind fun y304 => (if y304.length + t288.length < 140737488355328 then ((some (y304 ++ t288 : List Int)).bind fun y307 => (if y307.length + x8_2.length < 140737488355328 then (some (y307 ++ x8_2)) else (none))) else (none))) else (none)))) else (none))) = some r := by first | (rw [hy292]; with_reducible exact H) | (have H2_ := (Option.bind_some _ _).symm.trans H; rw [hy292]; with_reducible exact H2_) | (have H2_ := (Option.bind_some _ _).symm.trans H; with_reducible exact H2_) | with_reducible exact H | (rw [hy292]; exact H) | exact H
       have Ny292 := Aside0.mk hy292
       clear hy292
       replace H := Option.bind_eq_some_iff.mp H
       obtain ⟨t295, A310, H⟩ := H
       replace H : (if y292.length + t295.length < 140737488355328 then ((some (y292 ++ t295 : List Int)).bind fun y298 => ((some (([(a1) % 256, (x9_2) % 256] : List Int) : List Int)).bind fun y301 => (if y298.length + y301.length < 140737488355328 then ((some (y298 ++ y301 : List Int)).bind fun y304 => (if y304.length + t288.length < 140737488355328 then ((some (y304 ++ t288 : List Int)).bind fun y307 => (if y307.length + x8_2.length < 140737488355328 then (some (y307 ++ x8_2)) else (none))) else (none))) else (none)))) else (none)) = some r := H
       have A31 := Aside0.mk A310
       clear A310
       by_cases c32 : y292.length + t295.length < 140737488355328
       rotate_left
       ·rw [if_neg c32] at H
        exact absurd H (by simp)
       rw [if_pos c32] at H
       have LMc32 := Aside0.mk c32
       clear c32
       obtain ⟨y298, hy298⟩ : ∃ y_ : List Int, y_ = (y292 ++ t295) := ⟨_, rfl⟩
       replace H : ((some (([(a1) % 256, (x9_2) % 256] : List Int) : List Int)).bind fun y301 => (if y298.length + y301.length < 140737488355328 then ((some (y298 ++ y301 : List Int)).bind fun y304 => (if y304.length + t288.length < 140737488355328 then ((some (y304 ++ t288 : List Int)).bind fun y307 => (if y307.length + x8_2.length < 140737488355328 then (some (y307 ++ x8_2)) else (none))) else (none))) else (none))) = some r := by first | (rw [hy298]; with_reducible exact H) | (have H2_ := (Option.bind_some _ _).symm.trans H; rw [hy298]; with_reducible exact H2_) | (have H2_ := (Option.bind_some _ _).symm.trans H; with_reducible exact H2_) | with_reducible exact H | (rw [hy298]; exact H) | exact H
       have Ny298 := Aside0.mk hy298
       clear hy298
       obtain ⟨y301, hy301⟩ : ∃ y_ : List Int, y_ = (([(a1) % 256, (x9_2) % 256] : List Int)) := ⟨_, rfl⟩
       replace H : (if y298.length + y301.length < 140737488355328 then ((some (y298 ++ y301 : List Int)).bind fun y304 => (if y304.length + t288.length < 140737488355328 then ((some (y304 ++ t288 : List Int)).bind fun y307 => (if y307.length + x8_2.length < 140737488355328 then (some (y307 ++ x8_2)) else (none))) else (none))) else (none)) = some r := by first | (rw [hy301]; with_reducible exact H) | (have H2_ := (Option.bind_some _ _).symm.trans H; rw [hy301]; with_reducible exact H2_) | (have H2_ := (Option.bind_some _ _).symm.trans H; with_reducible exact H2_) | with_reducible exact H | (rw [hy301]; exact H) | exact H
       have Ny301 := Aside0.mk hy301
       clear hy301
       by_cases c33 : y298.length + y301.length < 140737488355328
       rotate_left
       ·rw [if_neg c33] at H
        exact absurd H (by simp)
       rw [if_pos c33] at H
       have LMc33 := Aside0.mk c33
       clear c33
       obtain ⟨y304, hy304⟩ : ∃ y_ : List Int, y_ = (y298 ++ y301) := ⟨_, rfl⟩
       replace H : (if y304.length + t288.length < 140737488355328 then ((some (y304 ++ t288 : List Int)).bind fun y307 => (if y307.length + x8_2.length < 140737488355328 then (some (y307 ++ x8_2)) else (none))) else (none)) = some r := by first | (rw [hy304]; with_reducible exact H) | (have H2_ := (Option.bind_some _ _).symm.trans H; rw [hy304]; with_reducible exact H2_) | (have H2_ := (Option.bind_some _ _).symm.trans H; with_reducible exact H2_) | with_reducible exact H | (rw [hy304]; exact H) | exact H
       have Ny304 := Aside0.mk hy304
       clear hy304
       by_cases c34 : y304.length + t288.length < 140737488355328
       rotate_left
       ·rw [if_neg c34] at H
        exact absurd H (by simp)
       rw [if_pos c34] at H
       have LMc34 := Aside0.mk c34
       clear c34
       obtain ⟨y307, hy307⟩ : ∃ y_ : List Int, y_ = (y304 ++ t288) := ⟨_, rfl⟩
       replace H : (if y307.length + x8_2.length < 140737488355328 then (some (y307 ++ x8_2)) else (none)) = some r := by first | (rw [hy307]; with_reducible exact H) | (have H2_ := (Option.bind_some _ _).symm.trans H; rw [hy307]; with_reducible exact H2_) | (have H2_ := (Option.bind_some _ _).symm.trans H; with_reducible exact H2_) | with_reducible exact H | (rw [hy307]; exact H) | exact H
       have Ny307 := Aside0.mk hy307
       clear hy307
       by_cases c35 : y307.length + x8_2.length < 140737488355328
       rotate_left
       ·rw [if_neg c35] at H
        exact absurd H (by simp)
       rw [if_pos c35] at H
       have LMc35 := Aside0.mk c35
       clear c35
       obtain ⟨y310, hy310⟩ : ∃ y_ : List Int, y_ = (y307 ++ x8_2) := ⟨_, rfl⟩
       replace H : (some y310) = some r := by first | (rw [hy310]; with_reducible exact H) | (have H2_ := (Option.bind_some _ _).symm.trans H; rw [hy310]; with_reducible exact H2_) | (have H2_ := (Option.bind_some _ _).symm.trans H; with_reducible exact H2_) | with_reducible exact H | (rw [hy310]; exact H) | exact H
       have Ny310 := Aside0.mk hy310
       clear hy310
       obtain rfl := Option.some.inj H
       obtain ⟨Ao36, co36, eo36⟩ := Kd.R_slice HO_7.out
       subst eo36
       go_wp2_with (first | ((with_reducible refine gaC_ (f := 31) rfl ?_); refine goesL_ (some 74) rfl rfl Try.func31 (by kernel_rfl) rfl #[.slice Ao36 x7_2.length co36, .int .i64 a1] rfl (by (try simp only [List.map_toArray, List.map_cons, List.map_nil]); first | done | rfl | (simp only [List.length_drop, List.length_take]; rfl)) ?_; (with_reducible refine (dragnetref03_Pack.calls k2 _ _ x7_2 a1 t288 t289 _ ?side1 ?side2 A30.out).mono ?_); (case side1 => exact Kd.cu_ (Kd.R_reads' HO_7.out).2.2); (case side2 => exact (Kd.R_reads' HO_7.out).2.1); rintro e w37 ⟨v290, rfl, ho0, hb⟩; refine ⟨_, rfl, ?_⟩; have n0_ := Aside0.mk (Kd.R_below (Kd.ru_ HO_7.out) hb); have n1_ := Aside0.mk (Kd.R_elder' (Kd.ru_ HO_8.out) (Kd.R_base ho0) hb); have n2_ := Aside0.mk (Kd.R_lower (Kd.R_new' ho0 (Kd.R_lt (Kd.ru_ HO_8.out))) (pbS_ bw_)); have n3_ := Aside0.mk (below_step bw_ hb); clear HO_7; clear HO_8; clear HB; have HO_7 := n0_; have HO_8 := n1_; have HO291 := n2_; have HB := n3_; clear n0_ n1_ n2_ n3_; (try clear hb); (try clear hb2); (try clear hk); (try clear hi); (try clear ho0)) | ((with_reducible refine gate_dst (N := 80) rfl ?_); refine Kd.R_lit (Kd.int .u8) _ 5 ?hg (N := 80) ?hd (xs := ([((l0.length : Int)) % 256] : List Int)) (inner := [.int .u8 (((l0.length : Int)) % 256)]) (ok := fun _ => True) (okp := fun _ => True) ?hr ?hp (fun _ hk => hk) trivial (Below.refl _ _) (Nat.le_refl _) (by simp) ?_; (case hd => rfl); (case hg => rfl); (case hr => first | (go_simp; done) | (go_simp; rfl)); (case hp => exact (Reps.one (show Kd.M (Kd.int .u8) _ _ _ (((l0.length : Int)) % 256) [.int .u8 (((l0.length : Int)) % 256)] from rfl) (Reps.none _ _))); intro v293 w38 ho39 hb hg_ hnew_; clear hg_ hnew_; (first | rw [← Ny292.out] at ho39 | (simp only [Int.reduceToNat] at ho39; rw [← Ny292.out] at ho39)); have n0_ := Aside0.mk (Kd.R_below (Kd.ru_ HO_7.out) hb); have n1_ := Aside0.mk (Kd.R_elder' (Kd.ru_ HO_8.out) (Kd.R_base ho39) hb); have n2_ := Aside0.mk (Kd.R_elder' (Kd.ru_ HO291.out) (Kd.R_base ho39) hb); have n3_ := Aside0.mk (Kd.R_lower (Kd.R_new' (Kd.R_new' ho39 (Kd.R_lt (Kd.ru_ HO_8.out))) (Kd.R_lt (Kd.ru_ HO291.out))) (pbS_ bw_)); have n4_ := Aside0.mk (below_step bw_ hb); clear HO_7; clear HO_8; clear HO291; clear HB; have HO_7 := n0_; have HO_8 := n1_; have HO291 := n2_; have HO294 := n3_; have HB := n4_; clear n0_ n1_ n2_ n3_ n4_; clear hb ho39) | ((with_reducible refine gaC_ (f := 32) rfl ?_); refine goesL_ (some 82) rfl rfl Try.func32 (by kernel_rfl) rfl #[.int .u64 x5_1] rfl (by (try simp only [List.map_toArray, List.map_cons, List.map_nil]); first | done | rfl | (simp only [List.length_drop, List.length_take]; rfl)) ?_; (with_reducible refine (dragnetref02_Bytes.calls k2 x5_1 t295 _ A31.out).mono ?_); rintro e w40 ⟨v296, rfl, ho0, hb⟩; refine ⟨_, rfl, ?_⟩; have n0_ := Aside0.mk (Kd.R_below (Kd.ru_ HO_7.out) hb); have n1_ := Aside0.mk (Kd.R_elder' (Kd.ru_ HO_8.out) (Kd.R_base ho0) hb); have n2_ := Aside0.mk (Kd.R_elder' (Kd.ru_ HO291.out) (Kd.R_base ho0) hb); have n3_ := Aside0.mk (Kd.R_elder' (Kd.ru_ HO294.out) (Kd.R_base ho0) hb); have n4_ := Aside0.mk (Kd.R_lower (Kd.R_new' (Kd.R_new' (Kd.R_new' ho0 (Kd.R_lt (Kd.ru_ HO_8.out))) (Kd.R_lt (Kd.ru_ HO291.out))) (Kd.R_lt (Kd.ru_ HO294.out))) (pbS_ bw_)); have n5_ := Aside0.mk (below_step bw_ hb); clear HO_7; clear HO_8; clear HO291; clear HO294; clear HB; have HO_7 := n0_; have HO_8 := n1_; have HO291 := n2_; have HO294 := n3_; have HO297 := n4_; have HB := n5_; clear n0_ n1_ n2_ n3_ n4_ n5_; (try clear hb); (try clear hb2); (try clear hk); (try clear hi); (try clear ho0); obtain ⟨Ao42, co42, eo42⟩ := Kd.R_slice HO297.out; subst eo42) | ((with_reducible refine gate_builtin (b := .append) (xs := #[.tmp 80, .tmp 82]) rfl ?_); at_builtin; refine Kd.R_append_rows (Kd.int .u8) (w0 := w) w.heap.size rfl (.tmp 80) (.tmp 82) 22 5 (.int .u8 0) 1 rfl Try.underlying22 info5 rfl (by decide) (by omega) v293 y292 t295 _ _ _ (fun k_ => some k_ ≠ (u8 : Value).ownBlock ∧ some k_ ≠ (v290 : Value).ownBlock ∧ some k_ ≠ (.slice Ao42 t295.length co42 : Value).ownBlock) (fun _ => False) rfl rfl ?aO ?aR (fun _ _ h => h) (fun _ h => h.elim) ?aF ?aB ?aS ?aL ?_; (case aR => exact Kd.cu_ (Kd.R_reads' HO297.out).2.2); (case aB => exact bw_); (case aF => exact (fun k_ hk => ⟨Kd.fresh' (Kd.R_lt (Kd.ru_ HO_8.out)) k_ hk, Kd.fresh' (Kd.R_lt (Kd.ru_ HO291.out)) k_ hk, Kd.fresh' (Kd.R_lt (Kd.ru_ HO297.out)) k_ hk⟩)); (case aO => exact (by (with_reducible repeat (first | apply Kd.rA_ | apply Kd.rN_ | apply Kd.rD_)); exact Kd.R_mono HO294.out (fun _ hk => ⟨hk.1.1.2, ⟨hk.1.2, hk.2⟩⟩))); (case aS => exact (pbS_ bw_)); (case aL => have := LMc32.out; omega); intro v299 w41 ho hb hg hat; rw [← Ny298.out] at ho; have n0_ := Aside0.mk (Kd.R_over' (Kd.ru_ HO_7.out) (Kd.R_typed (Kd.ru_ HO294.out)) (by decide) hg); have n1_ := Aside0.mk (Kd.R_after (ok := (fun k_ => some k_ ≠ (v290 : Value).ownBlock ∧ some k_ ≠ (.slice Ao42 t295.length co42 : Value).ownBlock)) (by (with_reducible repeat (first | apply Kd.rA_ | apply Kd.rN_ | apply Kd.rD_)); exact Kd.R_mono HO_8.out (fun _ hk => ⟨⟨hk.1.1.2, hk.2⟩, hk.1.2⟩)) hg hat); have n2_ := Aside0.mk (Kd.R_after (ok := (fun k_ => some k_ ≠ (u8 : Value).ownBlock ∧ some k_ ≠ (.slice Ao42 t295.length co42 : Value).ownBlock)) (by (with_reducible repeat (first | apply Kd.rA_ | apply Kd.rN_ | apply Kd.rD_)); exact Kd.R_mono HO291.out (fun _ hk => ⟨⟨hk.1.1.2, hk.2⟩, hk.1.2⟩)) hg hat); have n3_ := Aside0.mk (Kd.R_after (ok := (fun k_ => some k_ ≠ (u8 : Value).ownBlock ∧ some k_ ≠ (v290 : Value).ownBlock)) (by (with_reducible repeat (first | apply Kd.rA_ | apply Kd.rN_ | apply Kd.rD_)); exact Kd.R_mono HO297.out (fun _ hk => ⟨⟨hk.1.1.2, hk.1.2⟩, hk.2⟩)) hg hat); have n4_ := Aside0.mk (hb); have n5_ := Aside0.mk (ho); clear HO_7; clear HO_8; clear HO291; clear HO297; clear HB; clear HO294; have HO_7 := n0_; have HO_8 := n1_; have HO291 := n2_; have HO297 := n3_; have HB := n4_; have HO300 := n5_; clear n0_ n1_ n2_ n3_ n4_ n5_; clear ho hb hg hat) | ((with_reducible refine gate_dst (N := 89) rfl ?_); refine Kd.R_lit (Kd.int .u8) _ 5 ?hg (N := 89) ?hd (xs := ([(a1) % 256, (x9_2) % 256] : List Int)) (inner := [.int .u8 ((a1) % 256), .int .u8 ((x9_2) % 256)]) (ok := fun _ => True) (okp := fun _ => True) ?hr ?hp (fun _ hk => hk) trivial (Below.refl _ _) (Nat.le_refl _) (by simp) ?_; (case hd => rfl); (case hg => rfl); (case hr => first | (go_simp; done) | (go_simp; rfl)); (case hp => exact (Reps.one (show Kd.M (Kd.int .u8) _ _ _ ((a1) % 256) [.int .u8 ((a1) % 256)] from rfl) (Reps.one (show Kd.M (Kd.int .u8) _ _ _ ((x9_2) % 256) [.int .u8 ((x9_2) % 256)] from rfl) (Reps.none _ _)))); intro v302 w43 ho44 hb hg_ hnew_; clear hg_ hnew_; (first | rw [← Ny301.out] at ho44 | (simp only [Int.reduceToNat] at ho44; rw [← Ny301.out] at ho44)); have n0_ := Aside0.mk (Kd.R_below (Kd.ru_ HO_7.out) hb); have n1_ := Aside0.mk (Kd.R_elder' (Kd.ru_ HO_8.out) (Kd.R_base ho44) hb); have n2_ := Aside0.mk (Kd.R_elder' (Kd.ru_ HO291.out) (Kd.R_base ho44) hb); have n3_ := Aside0.mk (Kd.R_elder' (Kd.ru_ HO297.out) (Kd.R_base ho44) hb); have n4_ := Aside0.mk (Kd.R_elder' (Kd.ru_ HO300.out) (Kd.R_base ho44) hb); have n5_ := Aside0.mk (Kd.R_lower (Kd.R_new' (Kd.R_new' (Kd.R_new' (Kd.R_new' ho44 (Kd.R_lt (Kd.ru_ HO_8.out))) (Kd.R_lt (Kd.ru_ HO291.out))) (Kd.R_lt (Kd.ru_ HO297.out))) (Kd.R_lt (Kd.ru_ HO300.out))) (pbS_ bw_)); have n6_ := Aside0.mk (below_step bw_ hb); clear HO_7; clear HO_8; clear HO291; clear HO297; clear HO300; clear HB; have HO_7 := n0_; have HO_8 := n1_; have HO291 := n2_; have HO297 := n3_; have HO300 := n4_; have HO303 := n5_; have HB := n6_; clear n0_ n1_ n2_ n3_ n4_ n5_ n6_; clear hb ho44; obtain ⟨Ao46, co46, eo46⟩ := Kd.R_slice HO303.out; subst eo46) | ((with_reducible refine gate_builtin (b := .append) (xs := #[.tmp 84, .tmp 89]) rfl ?_); at_builtin; refine Kd.R_append_rows (Kd.int .u8) (w0 := w) w.heap.size rfl (.tmp 84) (.tmp 89) 22 5 (.int .u8 0) 1 rfl Try.underlying22 info5 rfl (by decide) (by omega) v299 y298 y301 _ _ _ (fun k_ => some k_ ≠ (u8 : Value).ownBlock ∧ some k_ ≠ (v290 : Value).ownBlock ∧ some k_ ≠ (.slice Ao42 t295.length co42 : Value).ownBlock ∧ some k_ ≠ (.slice Ao46 y301.length co46 : Value).ownBlock) (fun _ => False) rfl rfl ?aO ?aR (fun _ _ h => h) (fun _ h => h.elim) ?aF ?aB ?aS ?aL ?_; (case aR => exact Kd.cu_ (Kd.R_reads' HO303.out).2.2); (case aB => exact bw_); (case aF => exact (fun k_ hk => ⟨Kd.fresh' (Kd.R_lt (Kd.ru_ HO_8.out)) k_ hk, Kd.fresh' (Kd.R_lt (Kd.ru_ HO291.out)) k_ hk, Kd.fresh' (Kd.R_lt (Kd.ru_ HO297.out)) k_ hk, Kd.fresh' (Kd.R_lt (Kd.ru_ HO303.out)) k_ hk⟩)); (case aO => exact (by (with_reducible repeat (first | apply Kd.rA_ | apply Kd.rN_ | apply Kd.rD_)); exact Kd.R_mono HO300.out (fun _ hk => ⟨hk.1.1, ⟨hk.1.2.1, ⟨hk.1.2.2, hk.2⟩⟩⟩))); (case aS => exact (pbS_ bw_)); (case aL => have := LMc33.out; omega); intro v305 w45 ho hb hg hat; rw [← Ny304.out] at ho; have n0_ := Aside0.mk (Kd.R_over' (Kd.ru_ HO_7.out) (Kd.R_typed (Kd.ru_ HO300.out)) (by decide) hg); have n1_ := Aside0.mk (Kd.R_after (ok := (fun k_ => some k_ ≠ (v290 : Value).ownBlock ∧ some k_ ≠ (.slice Ao42 t295.length co42 : Value).ownBlock ∧ some k_ ≠ (.slice Ao46 y301.length co46 : Value).ownBlock)) (by (with_reducible repeat (first | apply Kd.rA_ | apply Kd.rN_ | apply Kd.rD_)); exact Kd.R_mono HO_8.out (fun _ hk => ⟨⟨hk.1.1.1, ⟨hk.1.1.2, hk.2⟩⟩, hk.1.2⟩)) hg hat); have n2_ := Aside0.mk (Kd.R_after (ok := (fun k_ => some k_ ≠ (u8 : Value).ownBlock ∧ some k_ ≠ (.slice Ao42 t295.length co42 : Value).ownBlock ∧ some k_ ≠ (.slice Ao46 y301.length co46 : Value).ownBlock)) (by (with_reducible repeat (first | apply Kd.rA_ | apply Kd.rN_ | apply Kd.rD_)); exact Kd.R_mono HO291.out (fun _ hk => ⟨⟨hk.1.1.1, ⟨hk.1.1.2, hk.2⟩⟩, hk.1.2⟩)) hg hat); have n3_ := Aside0.mk (Kd.R_after (ok := (fun k_ => some k_ ≠ (u8 : Value).ownBlock ∧ some k_ ≠ (v290 : Value).ownBlock ∧ some k_ ≠ (.slice Ao46 y301.length co46 : Value).ownBlock)) (by (with_reducible repeat (first | apply Kd.rA_ | apply Kd.rN_ | apply Kd.rD_)); exact Kd.R_mono HO297.out (fun _ hk => ⟨⟨hk.1.1.1, ⟨hk.1.1.2, hk.2⟩⟩, hk.1.2⟩)) hg hat); have n4_ := Aside0.mk (Kd.R_after (ok := (fun k_ => some k_ ≠ (u8 : Value).ownBlock ∧ some k_ ≠ (v290 : Value).ownBlock ∧ some k_ ≠ (.slice Ao42 t295.length co42 : Value).ownBlock)) (by (with_reducible repeat (first | apply Kd.rA_ | apply Kd.rN_ | apply Kd.rD_)); exact Kd.R_mono HO303.out (fun _ hk => ⟨⟨hk.1.1.1.2, ⟨hk.1.1.2, hk.1.2⟩⟩, hk.2⟩)) hg hat); have n5_ := Aside0.mk (hb); have n6_ := Aside0.mk (ho); clear HO_7; clear HO_8; clear HO291; clear HO297; clear HO303; clear HB; clear HO300; have HO_7 := n0_; have HO_8 := n1_; have HO291 := n2_; have HO297 := n3_; have HO303 := n4_; have HB := n5_; have HO306 := n6_; clear n0_ n1_ n2_ n3_ n4_ n5_ n6_; clear ho hb hg hat; obtain ⟨Ao48, co48, eo48⟩ := Kd.R_slice HO291.out; subst eo48) | ((with_reducible refine gate_builtin (b := .append) (xs := #[.tmp 90, .tmp 91]) rfl ?_); at_builtin; refine Kd.R_append_rows (Kd.int .u8) (w0 := w) w.heap.size rfl (.tmp 90) (.tmp 91) 22 5 (.int .u8 0) 1 rfl Try.underlying22 info5 rfl (by decide) (by omega) v305 y304 t288 _ _ _ (fun k_ => some k_ ≠ (u8 : Value).ownBlock ∧ some k_ ≠ (.slice Ao48 t288.length co48 : Value).ownBlock ∧ some k_ ≠ (.slice Ao42 t295.length co42 : Value).ownBlock ∧ some k_ ≠ (.slice Ao46 y301.length co46 : Value).ownBlock) (fun _ => False) rfl rfl ?aO ?aR (fun _ _ h => h) (fun _ h => h.elim) ?aF ?aB ?aS ?aL ?_; (case aR => exact Kd.cu_ (Kd.R_reads' HO291.out).2.2); (case aB => exact bw_); (case aF => exact (fun k_ hk => ⟨Kd.fresh' (Kd.R_lt (Kd.ru_ HO_8.out)) k_ hk, Kd.fresh' (Kd.R_lt (Kd.ru_ HO291.out)) k_ hk, Kd.fresh' (Kd.R_lt (Kd.ru_ HO297.out)) k_ hk, Kd.fresh' (Kd.R_lt (Kd.ru_ HO303.out)) k_ hk⟩)); (case aO => exact (Kd.ru_ HO306.out)); (case aS => exact (pbS_ bw_)); (case aL => have := LMc34.out; omega); intro v308 w47 ho hb hg hat; rw [← Ny307.out] at ho; have n0_ := Aside0.mk (Kd.R_over' (Kd.ru_ HO_7.out) (Kd.R_typed (Kd.ru_ HO306.out)) (by decide) hg); have n1_ := Aside0.mk (Kd.R_after (ok := (fun k_ => some k_ ≠ (.slice Ao48 t288.length co48 : Value).ownBlock ∧ some k_ ≠ (.slice Ao42 t295.length co42 : Value).ownBlock ∧ some k_ ≠ (.slice Ao46 y301.length co46 : Value).ownBlock)) (Kd.ru_ HO_8.out) hg hat); have n2_ := Aside0.mk (Kd.R_after (ok := (fun k_ => some k_ ≠ (u8 : Value).ownBlock ∧ some k_ ≠ (.slice Ao42 t295.length co42 : Value).ownBlock ∧ some k_ ≠ (.slice Ao46 y301.length co46 : Value).ownBlock)) (Kd.ru_ HO291.out) hg hat); have n3_ := Aside0.mk (Kd.R_after (ok := (fun k_ => some k_ ≠ (u8 : Value).ownBlock ∧ some k_ ≠ (.slice Ao48 t288.length co48 : Value).ownBlock ∧ some k_ ≠ (.slice Ao46 y301.length co46 : Value).ownBlock)) (Kd.ru_ HO297.out) hg hat); have n4_ := Aside0.mk (Kd.R_after (ok := (fun k_ => some k_ ≠ (u8 : Value).ownBlock ∧ some k_ ≠ (.slice Ao48 t288.length co48 : Value).ownBlock ∧ some k_ ≠ (.slice Ao42 t295.length co42 : Value).ownBlock)) (Kd.ru_ HO303.out) hg hat); have n5_ := Aside0.mk (hb); have n6_ := Aside0.mk (ho); clear HO_7; clear HO_8; clear HO291; clear HO297; clear HO303; clear HB; clear HO306; have HO_7 := n0_; have HO_8 := n1_; have HO291 := n2_; have HO297 := n3_; have HO303 := n4_; have HB := n5_; have HO309 := n6_; clear n0_ n1_ n2_ n3_ n4_ n5_ n6_; clear ho hb hg hat; obtain ⟨Ao50, co50, eo50⟩ := Kd.R_slice HO_8.out; subst eo50) | ((with_reducible refine gate_builtin (b := .append) (xs := #[.tmp 92, .tmp 93]) rfl ?_); at_builtin; refine Kd.R_append_rows (Kd.int .u8) (w0 := w) w.heap.size rfl (.tmp 92) (.tmp 93) 22 5 (.int .u8 0) 1 rfl Try.underlying22 info5 rfl (by decide) (by omega) v308 y307 x8_2 _ _ _ (fun k_ => some k_ ≠ (.slice Ao50 x8_2.length co50 : Value).ownBlock ∧ some k_ ≠ (.slice Ao48 t288.length co48 : Value).ownBlock ∧ some k_ ≠ (.slice Ao42 t295.length co42 : Value).ownBlock ∧ some k_ ≠ (.slice Ao46 y301.length co46 : Value).ownBlock) (fun _ => False) rfl rfl ?aO ?aR (fun _ _ h => h) (fun _ h => h.elim) ?aF ?aB ?aS ?aL ?_; (case aR => exact Kd.cu_ (Kd.R_reads' HO_8.out).2.2); (case aB => exact bw_); (case aF => exact (fun k_ hk => ⟨Kd.fresh' (Kd.R_lt (Kd.ru_ HO_8.out)) k_ hk, Kd.fresh' (Kd.R_lt (Kd.ru_ HO291.out)) k_ hk, Kd.fresh' (Kd.R_lt (Kd.ru_ HO297.out)) k_ hk, Kd.fresh' (Kd.R_lt (Kd.ru_ HO303.out)) k_ hk⟩)); (case aO => exact (Kd.ru_ HO309.out)); (case aS => exact (pbS_ bw_)); (case aL => have := LMc35.out; omega); intro v311 w49 ho hb hg hat; rw [← Ny310.out] at ho; have n0_ := Aside0.mk (Kd.R_over' (Kd.ru_ HO_7.out) (Kd.R_typed (Kd.ru_ HO309.out)) (by decide) hg); have n1_ := Aside0.mk (Kd.R_after (ok := (fun k_ => some k_ ≠ (.slice Ao48 t288.length co48 : Value).ownBlock ∧ some k_ ≠ (.slice Ao42 t295.length co42 : Value).ownBlock ∧ some k_ ≠ (.slice Ao46 y301.length co46 : Value).ownBlock)) (Kd.ru_ HO_8.out) hg hat); have n2_ := Aside0.mk (Kd.R_after (ok := (fun k_ => some k_ ≠ (.slice Ao50 x8_2.length co50 : Value).ownBlock ∧ some k_ ≠ (.slice Ao42 t295.length co42 : Value).ownBlock ∧ some k_ ≠ (.slice Ao46 y301.length co46 : Value).ownBlock)) (Kd.ru_ HO291.out) hg hat); have n3_ := Aside0.mk (Kd.R_after (ok := (fun k_ => some k_ ≠ (.slice Ao50 x8_2.length co50 : Value).ownBlock ∧ some k_ ≠ (.slice Ao48 t288.length co48 : Value).ownBlock ∧ some k_ ≠ (.slice Ao46 y301.length co46 : Value).ownBlock)) (Kd.ru_ HO297.out) hg hat); have n4_ := Aside0.mk (Kd.R_after (ok := (fun k_ => some k_ ≠ (.slice Ao50 x8_2.length co50 : Value).ownBlock ∧ some k_ ≠ (.slice Ao48 t288.length co48 : Value).ownBlock ∧ some k_ ≠ (.slice Ao42 t295.length co42 : Value).ownBlock)) (Kd.ru_ HO303.out) hg hat); have n5_ := Aside0.mk (hb); have n6_ := Aside0.mk (ho); clear HO_7; clear HO_8; clear HO291; clear HO297; clear HO303; clear HB; clear HO309; have HO_7 := n0_; have HO_8 := n1_; have HO291 := n2_; have HO297 := n3_; have HO303 := n4_; have HB := n5_; have HO312 := n6_; clear n0_ n1_ n2_ n3_ n4_ n5_ n6_; clear ho hb hg hat))
       go_ret
       exact ⟨_, rf_, by (with_reducible repeat (first | apply Kd.rA_ | apply Kd.rN_ | apply Kd.rD_)); exact Kd.R_mono HO312.out (fun _ hk => trivial), bw_⟩
      rw [if_pos c7] at H
      have c7b0 : decide (x10_2 < (l0.length : Int)) = true := decide_eq_true c7
      clear c7
      by_cases c8 : 0 ≤ x10_2
      rotate_left
      ·rw [if_neg c8] at H
       exact absurd H (by simp)
      rw [if_pos c8] at H
      have c8b0 : decide (0 ≤ x10_2) = true := decide_eq_true c8
      clear c8
      by_cases c9 : a1 = 64
      ·rw [if_pos c9] at H
       have c9b0 : (a1 == 64) = true := beq_iff_eq.mpr c9
       have c9b1 : (a1 != 64) = false := bne_eq_false_iff_eq.mpr c9
       clear c9
       by_cases c10 : x7_2.length < 17592186044416
       rotate_left
       ·rw [if_neg c10] at H
        exact absurd H (by simp)
       rw [if_pos c10] at H
       have LMc10 := Aside0.mk c10
       clear c10
       obtain ⟨y314, hy314⟩ : ∃ y_ : List Int, y_ = (x7_2 ++ [IntKind.u64.wrap ((rd l0 x10_2) - x5_1)]) := ⟨_, rfl⟩
       replace H : (dragnetref04_By.l1 k2 l0 a1 x5_1 y314 x8_2 x9_2 (wrap64 (x10_2 + 1))) = some r := by first | (rw [hy314]; with_reducible exact H) | (have H2_ := (Option.bind_some _ _).symm.trans H; rw [hy314]; with_reducible exact H2_) | (have H2_ := (Option.bind_some _ _).symm.trans H; with_reducible exact H2_) | with_reducible exact H | (rw [hy314]; exact H) | exact H
       have Ny314 := Aside0.mk hy314
       clear hy314
       have H' := Aside0.mk H
       clear H
       have p313 : 0 ≤ (x10_2 : Int) := od_
       have q313 : x10_2 < (l0.length : Int) := od_
       obtain ⟨ad313, e313, hx313_0⟩ := Kd.at_int HR0.out x10_2 p313 q313
       obtain rfl : ad286 = ad313 := (by injection e313)
       replace hx313_0 := (HB.out.cell (World.block_lt_of_cell? w _ hx313_0)).trans hx313_0
       replace p313 := eq_true p313
       replace q313 := eq_true q313
       go_wp2_with (first | ((with_reducible refine gate_builtin (b := .append) (xs := #[.tmp 44, .tmp 46]) rfl ?_); at_builtin; refine Kd.R_append (Kd.int .u64) (w0 := w) w.heap.size rfl (.tmp 44) (.tmp 46) 49 50 (.int .u64 0) 8 rfl Try.underlying49 info50 rfl (by decide) (by omega) u7 x7_2 (IntKind.u64.wrap ((rd l0 x10_2) - x5_1)) [.int .u64 (IntKind.u64.wrap ((rd l0 x10_2) - x5_1))] (fun _ => True) (fun _ => False) rfl rfl ?aP (fun _ hk => hk.elim) ?aF ?aO ?aB ?aS ?aL ?_; (case aP => exact rfl); (case aB => exact bw_); (case aF => exact (fun _ _ => trivial)); (case aO => exact (Kd.ru_ HO_7.out)); (case aS => exact (pbS_ bw_)); (case aL => have := LMc10.out; omega); intro v315 w11 ho hb hg hat; rw [← Ny314.out] at ho; have n0_ := Aside0.mk (Kd.R_over' (Kd.ru_ HO_8.out) (Kd.R_typed (Kd.ru_ HO_7.out)) (by decide) hg); have n1_ := Aside0.mk (hb); have n2_ := Aside0.mk (ho); clear HO_8; clear HB; clear HO_7; have HO_8 := n0_; have HB := n1_; have HO316 := n2_; clear n0_ n1_ n2_; clear ho hb hg hat))
       go_roundg k2
       case measure => have := HK1.out; have := HK2.out; omega
       case rel => exact ⟨(y314), (x8_2), (x9_2), (wrap64 (x10_2 + 1)), (by first | rfl | (simp; done) | (simp [*]; done)), (by first | rfl | (simp; done) | (simp [*]; done)), H', ⟨by have := HK1.out; have := HK2.out; omega⟩, ⟨Kd.ru_ HO316.out⟩, ⟨Kd.ru_ HO_8.out⟩, ⟨bw_⟩⟩
      ·rw [if_neg c9] at H
       have c9b0 : (a1 == 64) = false := beq_eq_false_iff_ne.mpr c9
       have c9b1 : (a1 != 64) = true := bne_iff_ne.mpr c9
       by_cases c12 : 0 ≤ a1
       rotate_left
       ·rw [if_neg c12] at H
        exact absurd H (by simp)
       rw [if_pos c12] at H
       have c12b0 := eq_true c12
       have c12b1 : decide (0 ≤ a1) = true := decide_eq_true c12
       clear c12
       obtain ⟨ji13, hji13⟩ : ∃ j_ : Int, (shl .u64 1 a1) = j_ := ⟨_, rfl⟩
       replace H : (if (ji13) = 0 then (none) else (if x7_2.length < 17592186044416 then ((some (x7_2 ++ [Int.tmod (IntKind.u64.wrap ((rd l0 x10_2) - x5_1)) (ji13)] : List Int)).bind fun y317 => (if (shr .u64 (IntKind.u64.wrap ((rd l0 x10_2) - x5_1)) a1) > 0 then (if x8_2.length < 140737488355328 then ((some (x8_2 ++ [(x10_2) % 256] : List Int)).bind fun y320 => ((dragnetref02_Bytes.f k2 (shr .u64 (IntKind.u64.wrap ((rd l0 x10_2) - x5_1)) a1)).bind fun t323 => (if y320.length + t323.length < 140737488355328 then (dragnetref04_By.l1 k2 l0 a1 x5_1 y317 (y320 ++ t323) (wrap64 (x9_2 + 1)) (wrap64 (x10_2 + 1))) else (none)))) else (none)) else (dragnetref04_By.l1 k2 l0 a1 x5_1 y317 x8_2 x9_2 (wrap64 (x10_2 + 1))))) else (none))) = some r := by first | (rw [hji13] at H; exact H) | (simp only [hji13] at H ⊢; exact H)
       have hji13_ : (IntKind.u64.wrap (1 * 2 ^ min a1.toNat 64)) = ji13 := hji13
       have hji13z : a1 ≤ 64 → (IntKind.u64.wrap (1 * 2 ^ a1.toNat)) = ji13 := shl_small hji13
       have hji13u : (IntKind.u64.wrap (2 ^ min a1.toNat 64)) = ji13 := by have h_ := hji13_; rw [Int.one_mul] at h_; exact h_
       have hji13v : a1 ≤ 64 → (IntKind.u64.wrap (2 ^ a1.toNat)) = ji13 := fun hle_ => by have h_ := hji13z hle_; rw [Int.one_mul] at h_; exact h_
       by_cases c14 : (ji13) = 0
       ·rw [if_pos c14] at H
        exact absurd H (by simp)
       ·rw [if_neg c14] at H
        have c14b0 : ((ji13) == 0) = false := beq_eq_false_iff_ne.mpr c14
        have c14b1 : ((ji13) != 0) = true := bne_iff_ne.mpr c14
        by_cases c15 : x7_2.length < 17592186044416
        rotate_left
        ·rw [if_neg c15] at H
         exact absurd H (by simp)
        rw [if_pos c15] at H
        have LMc15 := Aside0.mk c15
        clear c15
        obtain ⟨y317, hy317⟩ : ∃ y_ : List Int, y_ = (x7_2 ++ [Int.tmod (IntKind.u64.wrap ((rd l0 x10_2) - x5_1)) (ji13)]) := ⟨_, rfl⟩
        replace H : (if (shr .u64 (IntKind.u64.wrap ((rd l0 x10_2) - x5_1)) a1) > 0 then (if x8_2.length < 140737488355328 then ((some (x8_2 ++ [(x10_2) % 256] : List Int)).bind fun y320 => ((dragnetref02_Bytes.f k2 (shr .u64 (IntKind.u64.wrap ((rd l0 x10_2) - x5_1)) a1)).bind fun t323 => (if y320.length + t323.length < 140737488355328 then (dragnetref04_By.l1 k2 l0 a1 x5_1 y317 (y320 ++ t323) (wrap64 (x9_2 + 1)) (wrap64 (x10_2 + 1))) else (none)))) else (none)) else (dragnetref04_By.l1 k2 l0 a1 x5_1 y317 x8_2 x9_2 (wrap64 (x10_2 + 1)))) = some r := by first | (rw [hy317]; with_reducible exact H) | (have H2_ := (Option.bind_some _ _).symm.trans H; rw [hy317]; with_reducible exact H2_) | (have H2_ := (Option.bind_some _ _).symm.trans H; with_reducible exact H2_) | with_reducible exact H | (rw [hy317]; exact H) | exact H
        have Ny317 := Aside0.mk hy317
        clear hy317
        have c16b0 := eq_true (od_ : 0 ≤ a1)
        obtain ⟨ji17, hji17⟩ : ∃ j_ : Int, (shr .u64 (IntKind.u64.wrap ((rd l0 x10_2) - x5_1)) a1) = j_ := ⟨_, rfl⟩
        replace H : (if (ji17) > 0 then (if x8_2.length < 140737488355328 then ((some (x8_2 ++ [(x10_2) % 256] : List Int)).bind fun y320 => ((dragnetref02_Bytes.f k2 (ji17)).bind fun t323 => (if y320.length + t323.length < 140737488355328 then (dragnetref04_By.l1 k2 l0 a1 x5_1 y317 (y320 ++ t323) (wrap64 (x9_2 + 1)) (wrap64 (x10_2 + 1))) else (none)))) else (none)) else (dragnetref04_By.l1 k2 l0 a1 x5_1 y317 x8_2 x9_2 (wrap64 (x10_2 + 1)))) = some r := by first | (rw [hji17] at H; exact H) | (simp only [hji17] at H ⊢; exact H)
        have hji17_ : ((IntKind.u64.wrap ((rd l0 x10_2) - x5_1)) / 2 ^ min a1.toNat 64) = ji17 := hji17
        have hji17z : a1 ≤ 64 → ((IntKind.u64.wrap ((rd l0 x10_2) - x5_1)) / 2 ^ a1.toNat) = ji17 := shr_small hji17
        by_cases c18 : (ji17) > 0
        rotate_left
        ·rw [if_neg c18] at H
         have c18b0 : decide (0 < (ji17)) = false := decide_eq_false c18
         clear c18
         have H' := Aside0.mk H
         clear H
         have p313 : 0 ≤ (x10_2 : Int) := od_
         have q313 : x10_2 < (l0.length : Int) := od_
         obtain ⟨ad313, e313, hx313_0⟩ := Kd.at_int HR0.out x10_2 p313 q313
         obtain rfl : ad286 = ad313 := (by injection e313)
         replace hx313_0 := (HB.out.cell (World.block_lt_of_cell? w _ hx313_0)).trans hx313_0
         replace p313 := eq_true p313
         replace q313 := eq_true q313
         go_wp2_with (first | ((with_reducible refine gate_builtin (b := .append) (xs := #[.tmp 48, .tmp 53]) rfl ?_); at_builtin; refine Kd.R_append (Kd.int .u64) (w0 := w) w.heap.size rfl (.tmp 48) (.tmp 53) 49 50 (.int .u64 0) 8 rfl Try.underlying49 info50 rfl (by decide) (by omega) u7 x7_2 (Int.tmod (IntKind.u64.wrap ((rd l0 x10_2) - x5_1)) (ji13)) [.int .u64 (Int.tmod (IntKind.u64.wrap ((rd l0 x10_2) - x5_1)) (ji13))] (fun _ => True) (fun _ => False) rfl rfl ?aP (fun _ hk => hk.elim) ?aF ?aO ?aB ?aS ?aL ?_; (case aP => exact rfl); (case aB => exact bw_); (case aF => exact (fun _ _ => trivial)); (case aO => exact (Kd.ru_ HO_7.out)); (case aS => exact (pbS_ bw_)); (case aL => have := LMc15.out; omega); intro v318 w29 ho hb hg hat; rw [← Ny317.out] at ho; have n0_ := Aside0.mk (Kd.R_over' (Kd.ru_ HO_8.out) (Kd.R_typed (Kd.ru_ HO_7.out)) (by decide) hg); have n1_ := Aside0.mk (hb); have n2_ := Aside0.mk (ho); clear HO_8; clear HB; clear HO_7; have HO_8 := n0_; have HB := n1_; have HO319 := n2_; clear n0_ n1_ n2_; clear ho hb hg hat))
         (try subst hji17 hji13)
         go_roundg k2
         case measure => have := HK1.out; have := HK2.out; omega
         case rel => exact ⟨(y317), (x8_2), (x9_2), (wrap64 (x10_2 + 1)), (by first | rfl | (simp; done) | (simp [*]; done)), (by first | rfl | (simp; done) | (simp [*]; done)), H', ⟨by have := HK1.out; have := HK2.out; omega⟩, ⟨Kd.ru_ HO319.out⟩, ⟨Kd.ru_ HO_8.out⟩, ⟨bw_⟩⟩
        rw [if_pos c18] at H
        have c18b0 : decide (0 < (ji17)) = true := decide_eq_true c18
        clear c18
        by_cases c19 : x8_2.length < 140737488355328
        rotate_left
        ·rw [if_neg c19] at H
         exact absurd H (by simp)
        rw [if_pos c19] at H
        have LMc19 := Aside0.mk c19
        clear c19
        obtain ⟨y320, hy320⟩ : ∃ y_ : List Int, y_ = (x8_2 ++ [(x10_2) % 256]) := ⟨_, rfl⟩
        replace H : ((dragnetref02_Bytes.f k2 (ji17)).bind fun t323 => (if y320.length + t323.length < 140737488355328 then (dragnetref04_By.l1 k2 l0 a1 x5_1 y317 (y320 ++ t323) (wrap64 (x9_2 + 1)) (wrap64 (x10_2 + 1))) else (none))) = some r := by first | (rw [hy320]; with_reducible exact H) | (have H2_ := (Option.bind_some _ _).symm.trans H; rw [hy320]; with_reducible exact H2_) | (have H2_ := (Option.bind_some _ _).symm.trans H; with_reducible exact H2_) | with_reducible exact H | (rw [hy320]; exact H) | exact H
        have Ny320 := Aside0.mk hy320
        clear hy320
        have c20b0 := eq_true (od_ : 0 ≤ a1)
        replace H := Option.bind_eq_some_iff.mp H
        obtain ⟨t323, A210, H⟩ := H
        replace H : (if y320.length + t323.length < 140737488355328 then (dragnetref04_By.l1 k2 l0 a1 x5_1 y317 (y320 ++ t323) (wrap64 (x9_2 + 1)) (wrap64 (x10_2 + 1))) else (none)) = some r := H
        have A21 := Aside0.mk A210
        clear A210
        by_cases c22 : y320.length + t323.length < 140737488355328
        rotate_left
        ·rw [if_neg c22] at H
         exact absurd H (by simp)
        rw [if_pos c22] at H
        have LMc22 := Aside0.mk c22
        clear c22
        obtain ⟨y326, hy326⟩ : ∃ y_ : List Int, y_ = (y320 ++ t323) := ⟨_, rfl⟩
        replace H : (dragnetref04_By.l1 k2 l0 a1 x5_1 y317 y326 (wrap64 (x9_2 + 1)) (wrap64 (x10_2 + 1))) = some r := by first | (rw [hy326]; with_reducible exact H) | (have H2_ := (Option.bind_some _ _).symm.trans H; rw [hy326]; with_reducible exact H2_) | (have H2_ := (Option.bind_some _ _).symm.trans H; with_reducible exact H2_) | with_reducible exact H | (rw [hy326]; exact H) | exact H
        have Ny326 := Aside0.mk hy326
        clear hy326
        have H' := Aside0.mk H
        clear H
        have p313 : 0 ≤ (x10_2 : Int) := od_
        have q313 : x10_2 < (l0.length : Int) := od_
        obtain ⟨ad313, e313, hx313_0⟩ := Kd.at_int HR0.out x10_2 p313 q313
        obtain rfl : ad286 = ad313 := (by injection e313)
        replace hx313_0 := (HB.out.cell (World.block_lt_of_cell? w _ hx313_0)).trans hx313_0
        replace p313 := eq_true p313
        replace q313 := eq_true q313
        try go_wp2_with (first | ((with_reducible refine gate_builtin (b := .append) (xs := #[.tmp 48, .tmp 53]) rfl ?_); at_builtin; refine Kd.R_append (Kd.int .u64) (w0 := w) w.heap.size rfl (.tmp 48) (.tmp 53) 49 50 (.int .u64 0) 8 rfl Try.underlying49 info50 rfl (by decide) (by omega) u7 x7_2 (Int.tmod (IntKind.u64.wrap ((rd l0 x10_2) - x5_1)) (ji13)) [.int .u64 (Int.tmod (IntKind.u64.wrap ((rd l0 x10_2) - x5_1)) (ji13))] (fun _ => True) (fun _ => False) rfl rfl ?aP (fun _ hk => hk.elim) ?aF ?aO ?aB ?aS ?aL ?_; (case aP => exact rfl); (case aB => exact bw_); (case aF => exact (fun _ _ => trivial)); (case aO => exact (Kd.ru_ HO_7.out)); (case aS => exact (pbS_ bw_)); (case aL => have := LMc15.out; omega); intro v318 w23 ho hb hg hat; rw [← Ny317.out] at ho; have n0_ := Aside0.mk (Kd.R_over' (Kd.ru_ HO_8.out) (Kd.R_typed (Kd.ru_ HO_7.out)) (by decide) hg); have n1_ := Aside0.mk (hb); have n2_ := Aside0.mk (ho); clear HO_8; clear HB; clear HO_7; have HO_8 := n0_; have HB := n1_; have HO319 := n2_; clear n0_ n1_ n2_; clear ho hb hg hat))
        (try (rw [drewN_self w23]; generalize hq_ : World.drewN w23 _ = w23; have n0_ : Aside0 (Kd.R (Kd.int .u64) 50 w23 w.heap.size (fun _ => True) v318 y317) := ⟨by rw [← hq_]; exact (Kd.ru_ HO319.out)⟩; have n1_ : Aside0 (Kd.R (Kd.int .u8) 5 w23 w.heap.size (fun _ => True) u8 x8_2) := ⟨by rw [← hq_]; exact (Kd.ru_ HO_8.out)⟩; have n2_ : Aside0 (Below w.heap.size w w23) := ⟨by rw [← hq_]; exact bw_⟩; clear HO319 HO_8 HB hq_; have HO319 := n0_; have HO_8 := n1_; have HB := n2_; clear n0_ n1_ n2_))
        have n0_ := Aside0.mk (Kd.rD_ HO_8.out)
        have n1_ := Aside0.mk (Kd.rD_ HO319.out)
        have n2_ := Aside0.mk (pb1_ HB.out)
        clear HO_8
        clear HO319
        clear HB
        have HO_8 := n0_
        have HO319 := n1_
        have HB := n2_
        clear n0_ n1_ n2_
        refine start_ (n := 11) (S := fun w' => True) (ds := []) #[false, false, false, false, false, false, false, false, false, false, false] (by kernel_rfl) rfl rfl trivial (fun hHeld => ?_); refine with_tabW dragnetref04_By.tab18 dragnetref04_By.bits18 (fun HT_ HW_ => ?_)
        generalize w23.drew = w24 at HO_8 HO319 HB hHeld ⊢
        refine pu_ (i := 0) (N := some 61) HT_ #[true, false, false, false, false, false, false, false, false, false, false] ?_
        refine pu_ (i := 1) (N := some 62) HT_ #[true, true, false, false, false, false, false, false, false, false, false] ?_
        refine pu_ (i := 2) (N := some 63) HT_ #[true, true, true, false, false, false, false, false, false, false, false] ?_
        refine pu_ (i := 5) (N := some 66) HT_ #[true, true, true, false, false, true, false, false, false, false, false] ?_
        refine pu_ (i := 6) (N := some 67) HT_ #[true, true, true, false, false, true, true, false, false, false, false] ?_
        refine pu_ (i := 7) (N := some 68) HT_ #[true, true, true, false, false, true, true, true, false, false, false] ?_
        refine one_ (i := 3) (N := some 64) #[tT,tT,tT,tT,fF,tT,tT,tT,fF,fF,fF] rfl rfl (one_of HT_.out (by kernel_rfl)) (by decide) (fun K hK => ?_)
        refine value_ (w1 := ?_) (v := ?_) (by rfl) rfl ?_ ?_
        rotate_left 2
        ·go_simp
         constructor
         ·rfl
         ·rfl
        refine hK.out _ _ trivial (fun hHeld => ?_)
        clear hK K
        refine norm_ (a' := ?_) ?_ ?_
        rotate_left
        ·show Act.put _ (some 64) _ = _
         simp only [Act.put, List.setIfInBounds_toArray, List.set_cons_zero, List.set_cons_succ, i64_w, i32_w]
         rfl
        refine one_ (i := 4) (N := some 65) #[tT,tT,tT,tT,tT,tT,tT,tT,fF,fF,fF] rfl rfl (one_of HT_.out (by kernel_rfl)) (by decide) (fun K hK => ?_)
        refine Kd.R_append_step (Kd.int .u8) (w0 := w) w.heap.size (by rfl) (.tmp 61) (.tmp 64) 22 5 (.int .u8 0) 1 rfl Try.underlying22 info5 rfl (by decide) (by omega) u8 x8_2 ((x10_2) % 256) [.int .u8 ((x10_2) % 256)] (fun _ => True) (fun _ => False) rfl rfl ?aP (fun _ hk => hk.elim) ?aF ?aO ?aB ?aS ?aL ?_
        (case aP => exact rfl)
        (case aB => exact bw_)
        (case aF => exact (fun _ _ => trivial))
        (case aO => exact (Kd.ru_ HO_8.out))
        (case aS => exact (pbS_ bw_))
        (case aL => have := LMc19.out; omega)
        intro v321 w25 ho hb hg hat
        rw [← Ny320.out] at ho
        have n0_ := Aside0.mk (Kd.R_over' (Kd.ru_ HO319.out) (Kd.R_typed (Kd.ru_ HO_8.out)) (by decide) hg)
        have n1_ := Aside0.mk (hb)
        have n2_ := Aside0.mk (ho)
        clear HO319
        clear HB
        clear HO_8
        have HO319 := n0_
        have HB := n1_
        have HO322 := n2_
        clear n0_ n1_ n2_
        clear ho hb hg hat
        refine hK.out _ _ trivial (fun hHeld => ?_)
        clear hK K
        refine norm_ (a' := ?_) ?_ ?_
        rotate_left
        ·show Act.put _ (some 65) _ = _
         simp only [Act.put, List.setIfInBounds_toArray, List.set_cons_zero, List.set_cons_succ, i64_w, i32_w]
         rfl
        refine one_ (i := 8) (N := some 69) #[tT,tT,tT,tT,tT,tT,tT,tT,tT,fF,fF] rfl rfl (one_of HT_.out (by kernel_rfl)) (by decide) (fun K hK => ?_)
        refine goes_ Try.func32 (by kernel_rfl) rfl #[.int .u64 ji17] (by rfl) rfl rfl (by (try simp only [List.map_toArray, List.map_cons, List.map_nil]); first | done | (simp only [hji17]; rfl) | rfl | (simp only [List.length_drop, List.length_take]; rfl)) ?_
        with_reducible refine (dragnetref02_Bytes.calls k2 ji17 t323 _ A21.out).mono ?_
        rintro e w26 ⟨v324, rfl, ho0, hb⟩
        refine ⟨_, rfl, ?_⟩
        have n0_ := Aside0.mk (Kd.R_below (Kd.ru_ HO319.out) hb)
        have n1_ := Aside0.mk (Kd.R_elder' (Kd.ru_ HO322.out) (Kd.R_base ho0) hb)
        have n2_ := Aside0.mk (Kd.R_lower (Kd.R_new' ho0 (Kd.R_lt (Kd.ru_ HO322.out))) (pbS_ bw_))
        have n3_ := Aside0.mk (below_step bw_ hb)
        clear HO319
        clear HO322
        clear HB
        have HO319 := n0_
        have HO322 := n1_
        have HO325 := n2_
        have HB := n3_
        clear n0_ n1_ n2_ n3_
        (try clear hb)
        (try clear hb2)
        (try clear hk)
        (try clear hi)
        (try clear ho0)
        obtain ⟨Ao28, co28, eo28⟩ := Kd.R_slice HO325.out
        (first | subst eo28 | (injection eo28 with f1_ f2_ f3_; have f4_ := f1_.symm; have f5_ := f3_.symm; clear f1_ f2_ f3_; subst f4_; subst f5_))
        refine hK.out _ _ trivial (fun hHeld => ?_)
        clear hK K
        refine norm_ (a' := ?_) ?_ ?_
        rotate_left
        ·show Act.put _ (some 69) _ = _
         simp only [Act.put, List.setIfInBounds_toArray, List.set_cons_zero, List.set_cons_succ, i64_w, i32_w]
         rfl
        refine one_ (i := 9) (N := some 70) #[tT,tT,tT,tT,tT,tT,tT,tT,tT,tT,fF] rfl rfl (one_of HT_.out (by kernel_rfl)) (by decide) (fun K hK => ?_)
        refine Kd.R_append_rows_step (Kd.int .u8) (w0 := w) w.heap.size (by rfl) (.tmp 65) (.tmp 69) 22 5 (.int .u8 0) 1 rfl Try.underlying22 info5 rfl (by decide) (by omega) v321 y320 t323 _ _ _ (fun k_ => some k_ ≠ (.slice Ao28 t323.length co28 : Value).ownBlock) (fun _ => False) rfl rfl ?aO ?aR (fun _ _ h => h) (fun _ h => h.elim) ?aF ?aB ?aS ?aL ?_
        (case aR => exact Kd.cu_ (Kd.R_reads' HO325.out).2.2)
        (case aB => exact bw_)
        (case aF => exact (fun k_ hk => Kd.fresh' (Kd.R_lt (Kd.ru_ HO325.out)) k_ hk))
        (case aO => exact (by (with_reducible repeat (first | apply Kd.rA_ | apply Kd.rN_ | apply Kd.rD_)); exact Kd.R_mono HO322.out (fun _ hk => hk.2)))
        (case aS => exact (pbS_ bw_))
        (case aL => have := LMc22.out; omega)
        intro v327 w27 ho hb hg hat
        rw [← Ny326.out] at ho
        have n0_ := Aside0.mk (Kd.R_over' (Kd.ru_ HO319.out) (Kd.R_typed (Kd.ru_ HO322.out)) (by decide) hg)
        have n1_ := Aside0.mk (Kd.R_after (ok := (fun _ => True)) (Kd.ru_ HO325.out) hg hat)
        have n2_ := Aside0.mk (hb)
        have n3_ := Aside0.mk (ho)
        clear HO319
        clear HO325
        clear HB
        clear HO322
        have HO319 := n0_
        have HO325 := n1_
        have HB := n2_
        have HO328 := n3_
        clear n0_ n1_ n2_ n3_
        clear ho hb hg hat
        refine hK.out _ _ trivial (fun hHeld => ?_)
        clear hK K
        refine norm_ (a' := ?_) ?_ ?_
        rotate_left
        ·show Act.put _ (some 70) _ = _
         simp only [Act.put, List.setIfInBounds_toArray, List.set_cons_zero, List.set_cons_succ, i64_w, i32_w]
         rfl
        refine pu_ (i := 10) (N := some 8) HT_ #[true, true, true, true, true, true, true, true, true, true, true] ?_
        refine done_ (done_of HT_.out (by kernel_rfl)) ?_
        try go_wp2
        (try subst hji17 hji13)
        go_roundg k2
        case measure => have := HK1.out; have := HK2.out; omega
        case rel => exact ⟨(y317), (y326), (wrap64 (x9_2 + 1)), (wrap64 (x10_2 + 1)), (by first | rfl | (simp; done) | (simp [*]; done)), (by first | rfl | (simp; done) | (simp [*]; done)), H', ⟨by have := HK1.out; have := HK2.out; omega⟩, ⟨Kd.ru_ HO319.out⟩, ⟨by (with_reducible repeat (first | apply Kd.rA_ | apply Kd.rN_ | apply Kd.rD_)); exact Kd.R_mono HO328.out (fun _ hk => trivial)⟩, ⟨bw_⟩⟩
def dragnetref04_Block.l0 : Nat → List Int → List Int → Int → Option (List Int)
 | 0, _, _, _ => none
 | k + 1, x0, x3, x4 => if x4 ≤ 64 then ((dragnetref04_By.f k x0 x4).bind fun t332 => (if (t332.length : Int) < (x3.length : Int) then (dragnetref04_Block.l0 k x0 t332 (wrap64 (x4 + 1))) else (dragnetref04_Block.l0 k x0 x3 (wrap64 (x4 + 1))))) else (some x3)
def dragnetref04_Block.f (k : Nat) (l0 : List Int) : Option (List Int) := (dragnetref04_By.f k l0 0).bind fun t329 => (dragnetref04_Block.l0 k l0 t329 1)
theorem dragnetref04_Block.mono_l : ∀ k, (∀ y0 y1 y2, LeO (dragnetref04_Block.l0 k y0 y1 y2) (dragnetref04_Block.l0 (k + 1) y0 y1 y2))
 | 0 => fun _ _ _ r h => by simp [dragnetref04_Block.l0] at h
 | k + 1 => by
  have ih0 := dragnetref04_Block.mono_l k
  ·intro y0 y1 y2
   unfold dragnetref04_Block.l0
   repeat' first
   | (with_reducible exact ih0 _ _ _)
   | (with_reducible exact dragnetref04_By.mono _ _ _)
   | (with_reducible exact LeO.refl _)
   | (with_reducible exact LeO.none _)
   | (with_reducible refine LeO.ite ?_ ?_)
   | (with_reducible refine LeO.bind ?_ (fun _ => ?_))
theorem dragnetref04_Block.mono : ∀ a0 k, LeO (dragnetref04_Block.f k a0) (dragnetref04_Block.f (k + 1) a0) := by
 intro a0 k
 have ih0 := dragnetref04_Block.mono_l k
 unfold dragnetref04_Block.f
 repeat' first
   | (with_reducible exact ih0 _ _ _)
   | (with_reducible exact dragnetref04_By.mono _ _ _)
   | (with_reducible exact LeO.refl _)
   | (with_reducible exact LeO.none _)
   | (with_reducible refine LeO.ite ?_ ?_)
   | (with_reducible refine LeO.bind ?_ (fun _ => ?_))
set_option maxHeartbeats 8000000 in
set_option maxRecDepth 100000 in
theorem dragnetref04_Block.calls (k : Nat) (A0 : Option Addr) (c0 : Nat) (l0 : List Int) (r : List Int) (w : World) (hr0 : Kd.C (Kd.int .u64) w A0 l0.length l0) (hc0 : l0.length ≤ c0) (h : dragnetref04_Block.f k l0 = some r) :
  Calls Try.prog 63 #[.slice A0 l0.length c0] w fun e w' => ∃ v0_ : Value, e = .returned (v0_) ∧ Kd.R (Kd.int .u8) 5 w' w.heap.size (fun _ => True) v0_ r ∧ Below w.heap.size w w' := by
 have HR0 := Aside0.mk hr0
 have HC0 := Aside0.mk hc0
 clear hr0 hc0
 have HB := Aside0.mk (Below.refl w.heap.size w)
 have H : ((dragnetref04_By.f k l0 0).bind fun t329 => (dragnetref04_Block.l0 k l0 t329 1)) = some r := h
 clear h
 replace H := Option.bind_eq_some_iff.mp H
 obtain ⟨t329, A20, H⟩ := H
 replace H : (dragnetref04_Block.l0 k l0 t329 1) = some r := H
 have A2 := Aside0.mk A20
 clear A20
 have H' := Aside0.mk H
 clear H
 go_enter Try.func63, Try.ntmps63
 go_wp2_with (first | ((with_reducible refine gaC_ (f := 73) rfl ?_); refine goesL_ (some 7) rfl rfl Try.func73 (by kernel_rfl) rfl #[.slice A0 l0.length c0, .int .i64 0] rfl (by (try simp only [List.map_toArray, List.map_cons, List.map_nil]); first | done | rfl | (simp only [List.length_drop, List.length_take]; rfl)) ?_; (with_reducible refine (dragnetref04_By.calls k _ _ l0 0 t329 _ ?side1 ?side2 A2.out).mono ?_); (case side1 => exact Kd.cu_ HR0.out); (case side2 => exact HC0.out); rintro e w3 ⟨v330, rfl, ho0, hb⟩; refine ⟨_, rfl, ?_⟩; have HO331 := Aside0.mk (Kd.R_lower ho0 (pbS_ bw_)); replace HB := Aside0.mk (below_step bw_ hb); (try clear hb); (try clear hb2); (try clear hk); (try clear hi); (try clear ho0)))
 go_loopg [3, 4] k (fun kq v3 v4 w' => ∃ (x3_1 : List Int) (x4_1 : Int), v4 = .int .i64 x4_1 ∧ Aside0 (dragnetref04_Block.l0 kq l0 x3_1 x4_1 = some r) ∧ Aside0 (kq ≤ k) ∧ Aside0 (Kd.R (Kd.int .u8) 5 w' w.heap.size (fun _ => True) v3 x3_1) ∧ Aside0 (Below w.heap.size w w'))
 case atStart => exact ⟨(t329), (1), (by first | rfl | (simp; done) | (simp [*]; done)), H', ⟨Nat.le_refl _⟩, ⟨Kd.ru_ HO331.out⟩, ⟨bw_⟩⟩
 case round =>
  clear H'
  try clear p2
  obtain ⟨x3_1, x4_1, rfl, HA, HK1, HO_3, HB⟩ := hrel
  cases gk with
  | zero => exact absurd HA.out (by simp [dragnetref04_Block.l0])
  | succ k1 =>
   have H := HA.out
   clear HA
   simp only [dragnetref04_Block.l0] at H
   by_cases c4 : x4_1 ≤ 64
   rotate_left
   ·rw [if_neg c4] at H
    have c4b0 : decide (x4_1 ≤ 64) = false := decide_eq_false c4
    clear c4
    obtain rfl := Option.some.inj H
    go_wp2
    go_ret
    exact ⟨_, rf_, by (with_reducible repeat (first | apply Kd.rA_ | apply Kd.rN_ | apply Kd.rD_)); exact HO_3.out, bw_⟩
   rw [if_pos c4] at H
   have c4b0 : decide (x4_1 ≤ 64) = true := decide_eq_true c4
   clear c4
   replace H := Option.bind_eq_some_iff.mp H
   obtain ⟨t332, A50, H⟩ := H
   replace H : (if (t332.length : Int) < (x3_1.length : Int) then (dragnetref04_Block.l0 k1 l0 t332 (wrap64 (x4_1 + 1))) else (dragnetref04_Block.l0 k1 l0 x3_1 (wrap64 (x4_1 + 1)))) = some r := H
   have A5 := Aside0.mk A50
   clear A50
   by_cases c6 : (t332.length : Int) < (x3_1.length : Int)
   rotate_left
   ·rw [if_neg c6] at H
    have c6b0 : decide ((t332.length : Int) < (x3_1.length : Int)) = false := decide_eq_false c6
    have c6b1 : decide (t332.length < x3_1.length) = false := decide_eq_false (fun h => c6 (Int.ofNat_lt.mpr h))
    clear c6
    have H' := Aside0.mk H
    clear H
    go_wp2_with (first | ((with_reducible refine gaC_ (f := 73) rfl ?_); refine goesL_ (some 14) rfl rfl Try.func73 (by kernel_rfl) rfl #[.slice A0 l0.length c0, .int .i64 x4_1] rfl (by (try simp only [List.map_toArray, List.map_cons, List.map_nil]); first | done | rfl | (simp only [List.length_drop, List.length_take]; rfl)) ?_; (with_reducible refine (dragnetref04_By.calls k1 _ _ l0 x4_1 t332 _ ?side1 ?side2 A5.out).mono ?_); (case side1 => exact Kd.cu_ (Kd.C_below HR0.out HB.out)); (case side2 => exact HC0.out); rintro e w10 ⟨v333, rfl, ho0, hb⟩; refine ⟨_, rfl, ?_⟩; have n0_ := Aside0.mk (Kd.R_elder' (Kd.ru_ HO_3.out) (Kd.R_base ho0) hb); have n1_ := Aside0.mk (Kd.R_lower (Kd.R_new' ho0 (Kd.R_lt (Kd.ru_ HO_3.out))) (pbS_ bw_)); have n2_ := Aside0.mk (below_step bw_ hb); clear HO_3; clear HB; have HO_3 := n0_; have HO334 := n1_; have HB := n2_; clear n0_ n1_ n2_; (try clear hb); (try clear hb2); (try clear hk); (try clear hi); (try clear ho0); obtain ⟨Ao11, co11, eo11⟩ := Kd.R_slice HO334.out; subst eo11; obtain ⟨Ao12, co12, eo12⟩ := Kd.R_slice HO_3.out; subst eo12))
    go_roundg k1
    case measure => have := HK1.out; omega
    case rel => exact ⟨(x3_1), (wrap64 (x4_1 + 1)), (by first | rfl | (simp; done) | (simp [*]; done)), H', ⟨by have := HK1.out; omega⟩, ⟨by (with_reducible repeat (first | apply Kd.rA_ | apply Kd.rN_ | apply Kd.rD_)); exact Kd.R_mono HO_3.out (fun _ hk => trivial)⟩, ⟨bw_⟩⟩
   rw [if_pos c6] at H
   have c6b0 : decide ((t332.length : Int) < (x3_1.length : Int)) = true := decide_eq_true c6
   have c6b1 : decide (t332.length < x3_1.length) = true := decide_eq_true (Int.ofNat_lt.mp c6)
   clear c6
   have H' := Aside0.mk H
   clear H
   go_wp2_with (first | ((with_reducible refine gaC_ (f := 73) rfl ?_); refine goesL_ (some 14) rfl rfl Try.func73 (by kernel_rfl) rfl #[.slice A0 l0.length c0, .int .i64 x4_1] rfl (by (try simp only [List.map_toArray, List.map_cons, List.map_nil]); first | done | rfl | (simp only [List.length_drop, List.length_take]; rfl)) ?_; (with_reducible refine (dragnetref04_By.calls k1 _ _ l0 x4_1 t332 _ ?side1 ?side2 A5.out).mono ?_); (case side1 => exact Kd.cu_ (Kd.C_below HR0.out HB.out)); (case side2 => exact HC0.out); rintro e w7 ⟨v333, rfl, ho0, hb⟩; refine ⟨_, rfl, ?_⟩; have n0_ := Aside0.mk (Kd.R_elder' (Kd.ru_ HO_3.out) (Kd.R_base ho0) hb); have n1_ := Aside0.mk (Kd.R_lower (Kd.R_new' ho0 (Kd.R_lt (Kd.ru_ HO_3.out))) (pbS_ bw_)); have n2_ := Aside0.mk (below_step bw_ hb); clear HO_3; clear HB; have HO_3 := n0_; have HO334 := n1_; have HB := n2_; clear n0_ n1_ n2_; (try clear hb); (try clear hb2); (try clear hk); (try clear hi); (try clear ho0); obtain ⟨Ao8, co8, eo8⟩ := Kd.R_slice HO334.out; subst eo8; obtain ⟨Ao9, co9, eo9⟩ := Kd.R_slice HO_3.out; subst eo9))
   go_roundg k1
   case measure => have := HK1.out; omega
   case rel => exact ⟨(t332), (wrap64 (x4_1 + 1)), (by first | rfl | (simp; done) | (simp [*]; done)), H', ⟨by have := HK1.out; omega⟩, ⟨by (with_reducible repeat (first | apply Kd.rA_ | apply Kd.rN_ | apply Kd.rD_)); exact Kd.R_mono HO334.out (fun _ hk => trivial)⟩, ⟨bw_⟩⟩
def num_Take.l0 : Nat → Int → Int → List Int → Int → Int → Option (Int × Int × Int)
 | 0, _, _, _, _, _ => none
 | k + 1, x2, x5, x34, x35, x36 => if x36 < x35 then (if 0 ≤ x36 then (if x36 < (x34.length : Int) then (if 0 ≤ (wrap64 (8 * x36)) then (num_Take.l0 k (Go.bits .or .u64 x2 (shl .u64 (IntKind.u64.wrap (rd x34 x36)) (wrap64 (8 * x36)))) x5 x34 x35 (wrap64 (x36 + 1))) else (none)) else (none)) else (none)) else (if x2 ≤ 247 then (some (0, 0, 2)) else ((num_size.f x2).bind fun t503 => (if t503 < x5 then (some (0, 0, 2)) else (some (x2, wrap64 (1 + x5), 0)))))
def num_Take.f (k : Nat) (l0 : List Int) : Option (Int × Int × Int) := if (l0.length : Int) = 0 then (some (0, 0, 3)) else (if 0 < (l0.length : Int) then (if (rd l0 0) ≤ 247 then (some (IntKind.u64.wrap (rd l0 0), 1, 0)) else (if (wrap64 ((wrap64 (rd l0 0)) - 247)) > (wrap64 ((l0.length : Int) - 1)) then (some (0, 0, 3)) else (if 1 ≤ (wrap64 (1 + (wrap64 ((wrap64 (rd l0 0)) - 247)))) then (if (wrap64 (1 + (wrap64 ((wrap64 (rd l0 0)) - 247)))) ≤ (l0.length : Int) then ((some ((l0.take ((wrap64 (1 + (wrap64 ((wrap64 (rd l0 0)) - 247)))) : Int).toNat).drop 1 : List Int)).bind fun y498 => (num_Take.l0 k 0 (wrap64 ((wrap64 (rd l0 0)) - 247)) y498 (y498.length : Int) 0)) else (none)) else (none)))) else (none))
theorem num_Take.mono_l : ∀ k, (∀ y0 y1 y2 y3 y4, LeO (num_Take.l0 k y0 y1 y2 y3 y4) (num_Take.l0 (k + 1) y0 y1 y2 y3 y4))
 | 0 => fun _ _ _ _ _ r h => by simp [num_Take.l0] at h
 | k + 1 => by
  have ih0 := num_Take.mono_l k
  ·intro y0 y1 y2 y3 y4
   unfold num_Take.l0
   repeat' first
   | (with_reducible exact ih0 _ _ _ _ _)
   | (with_reducible exact LeO.refl _)
   | (with_reducible exact LeO.none _)
   | (with_reducible refine LeO.ite ?_ ?_)
   | (with_reducible refine LeO.bind ?_ (fun _ => ?_))
theorem num_Take.mono : ∀ a0 k, LeO (num_Take.f k a0) (num_Take.f (k + 1) a0) := by
 intro a0 k
 have ih0 := num_Take.mono_l k
 unfold num_Take.f
 repeat' first
   | (with_reducible exact ih0 _ _ _ _ _)
   | (with_reducible exact LeO.refl _)
   | (with_reducible exact LeO.none _)
   | (with_reducible refine LeO.ite ?_ ?_)
   | (with_reducible refine LeO.bind ?_ (fun _ => ?_))
set_option maxHeartbeats 8000000 in
set_option maxRecDepth 100000 in
theorem num_Take.calls (k : Nat) (A0 : Option Addr) (c0 : Nat) (l0 : List Int) (r1 : Int) (r2 : Int) (r3 : Int) (w : World) (hr0 : Kd.C (Kd.int .u8) w A0 l0.length l0) (hc0 : l0.length ≤ c0) (h : num_Take.f k l0 = some (r1, r2, r3)) :
  Calls Try.prog 38 #[.slice A0 l0.length c0] w fun e w' => e = .returned (.tuple #[.int .u64 r1, .int .i64 r2, .int .i64 r3]) ∧ Drawn0 w w' := by
 have HR0 := Aside0.mk hr0
 have HC0 := Aside0.mk hc0
 clear hr0 hc0
 have H : (if (l0.length : Int) = 0 then (some (0, 0, 3)) else (if 0 < (l0.length : Int) then (if (rd l0 0) ≤ 247 then (some (IntKind.u64.wrap (rd l0 0), 1, 0)) else (if (wrap64 ((wrap64 (rd l0 0)) - 247)) > (wrap64 ((l0.length : Int) - 1)) then (some (0, 0, 3)) else (if 1 ≤ (wrap64 (1 + (wrap64 ((wrap64 (rd l0 0)) - 247)))) then (if (wrap64 (1 + (wrap64 ((wrap64 (rd l0 0)) - 247)))) ≤ (l0.length : Int) then ((some ((l0.take ((wrap64 (1 + (wrap64 ((wrap64 (rd l0 0)) - 247)))) : Int).toNat).drop 1 : List Int)).bind fun y498 => (num_Take.l0 k 0 (wrap64 ((wrap64 (rd l0 0)) - 247)) y498 (y498.length : Int) 0)) else (none)) else (none)))) else (none))) = some (r1, r2, r3) := h
 clear h
 by_cases c2 : (l0.length : Int) = 0
 ·rw [if_pos c2] at H
  have c2b0 : ((l0.length : Int) == 0) = true := beq_iff_eq.mpr c2
  have c2b1 : ((l0.length : Int) != 0) = false := bne_eq_false_iff_eq.mpr c2
  clear c2
  simp only [Option.some.injEq, Prod.mk.injEq] at H
  obtain ⟨rfl, rfl, rfl⟩ := H
  go_enter Try.func38, Try.ntmps38
  go_wp2
  go_ret3
  exact ⟨by first | rfl | (simp; done) | (simp [*]; done), by repeat (first | exact Drawn0.refl _ | apply Drawn0.step)⟩
 ·rw [if_neg c2] at H
  have c2b0 : ((l0.length : Int) == 0) = false := beq_eq_false_iff_ne.mpr c2
  have c2b1 : ((l0.length : Int) != 0) = true := bne_iff_ne.mpr c2
  have c2b2 : ¬ (l0 = []) := fun h_ => c2 (by rw [h_]; rfl)
  by_cases c3 : 0 < (l0.length : Int)
  rotate_left
  ·rw [if_neg c3] at H
   exact absurd H (by simp)
  rw [if_pos c3] at H
  have c3b0 : decide (0 < (l0.length : Int)) = true := decide_eq_true c3
  have c3b1 : decide (0 < l0.length) = true := decide_eq_true (by omega)
  clear c3
  by_cases c4 : (rd l0 0) ≤ 247
  ·rw [if_pos c4] at H
   have c4b0 : decide ((rd l0 0) ≤ 247) = true := decide_eq_true c4
   clear c4
   simp only [Option.some.injEq, Prod.mk.injEq] at H
   obtain ⟨rfl, rfl, rfl⟩ := H
   have p495 : 0 ≤ (0 : Int) := (by omega)
   have q495 : 0 < (l0.length : Int) := od_
   obtain ⟨ad495, e495, hx495_0⟩ := Kd.at_int HR0.out 0 p495 q495
   cases e495
   have qi495 : (0 < l0.length) = True := eq_true (by omega)
   (try rw [show ((0 : Int)).toNat = 0 from rfl] at hx495_0)
   (try rw [Addr.add_zero'] at hx495_0)
   replace p495 := eq_true p495
   replace q495 := eq_true q495
   have p496 : 0 ≤ (0 : Int) := (by omega)
   have q496 : 0 < (l0.length : Int) := od_
   obtain ⟨ad496, e496, hx496_0⟩ := Kd.at_int HR0.out 0 p496 q496
   obtain rfl : ad495 = ad496 := (by injection e496)
   have qi496 : (0 < l0.length) = True := eq_true (by omega)
   (try rw [show ((0 : Int)).toNat = 0 from rfl] at hx496_0)
   (try rw [Addr.add_zero'] at hx496_0)
   replace p496 := eq_true p496
   replace q496 := eq_true q496
   go_enter Try.func38, Try.ntmps38
   go_wp2
   go_ret3
   exact ⟨by first | rfl | (simp; done) | (simp [*]; done), by repeat (first | exact Drawn0.refl _ | apply Drawn0.step)⟩
  ·rw [if_neg c4] at H
   have c4b0 : decide ((rd l0 0) ≤ 247) = false := decide_eq_false c4
   clear c4
   by_cases c5 : (wrap64 ((wrap64 (rd l0 0)) - 247)) > (wrap64 ((l0.length : Int) - 1))
   ·rw [if_pos c5] at H
    have c5b0 : decide ((wrap64 ((l0.length : Int) - 1)) < (wrap64 ((wrap64 (rd l0 0)) - 247))) = true := decide_eq_true c5
    clear c5
    simp only [Option.some.injEq, Prod.mk.injEq] at H
    obtain ⟨rfl, rfl, rfl⟩ := H
    have p495 : 0 ≤ (0 : Int) := (by omega)
    have q495 : 0 < (l0.length : Int) := od_
    obtain ⟨ad495, e495, hx495_0⟩ := Kd.at_int HR0.out 0 p495 q495
    cases e495
    have qi495 : (0 < l0.length) = True := eq_true (by omega)
    (try rw [show ((0 : Int)).toNat = 0 from rfl] at hx495_0)
    (try rw [Addr.add_zero'] at hx495_0)
    replace p495 := eq_true p495
    replace q495 := eq_true q495
    have p497 : 0 ≤ (0 : Int) := (by omega)
    have q497 : 0 < (l0.length : Int) := od_
    obtain ⟨ad497, e497, hx497_0⟩ := Kd.at_int HR0.out 0 p497 q497
    obtain rfl : ad495 = ad497 := (by injection e497)
    have qi497 : (0 < l0.length) = True := eq_true (by omega)
    (try rw [show ((0 : Int)).toNat = 0 from rfl] at hx497_0)
    (try rw [Addr.add_zero'] at hx497_0)
    replace p497 := eq_true p497
    replace q497 := eq_true q497
    go_enter Try.func38, Try.ntmps38
    go_wp2
    go_ret3
    exact ⟨by first | rfl | (simp; done) | (simp [*]; done), by repeat (first | exact Drawn0.refl _ | apply Drawn0.step)⟩
   ·rw [if_neg c5] at H
    have c5b0 : decide ((wrap64 ((l0.length : Int) - 1)) < (wrap64 ((wrap64 (rd l0 0)) - 247))) = false := decide_eq_false c5
    clear c5
    by_cases c6 : 1 ≤ (wrap64 (1 + (wrap64 ((wrap64 (rd l0 0)) - 247))))
    rotate_left
    ·rw [if_neg c6] at H
     exact absurd H (by simp)
    rw [if_pos c6] at H
    have c6b0 := eq_true c6
    have c6b1 : decide (1 ≤ (wrap64 (1 + (wrap64 ((wrap64 (rd l0 0)) - 247))))) = true := decide_eq_true c6
    by_cases c7 : (wrap64 (1 + (wrap64 ((wrap64 (rd l0 0)) - 247)))) ≤ (l0.length : Int)
    rotate_left
    ·rw [if_neg c7] at H
     exact absurd H (by simp)
    rw [if_pos c7] at H
    have c7b0 := eq_true c7
    have c7b1 : decide ((wrap64 (1 + (wrap64 ((wrap64 (rd l0 0)) - 247)))) ≤ (l0.length : Int)) = true := decide_eq_true c7
    obtain ⟨y498, hy498⟩ : ∃ y_ : List Int, y_ = ((l0.take ((wrap64 (1 + (wrap64 ((wrap64 (rd l0 0)) - 247)))) : Int).toNat).drop 1) := ⟨_, rfl⟩
    replace H : (num_Take.l0 k 0 (wrap64 ((wrap64 (rd l0 0)) - 247)) y498 (y498.length : Int) 0) = some (r1, r2, r3) := by first | (rw [hy498]; with_reducible exact H) | (have H2_ := (Option.bind_some _ _).symm.trans H; rw [hy498]; with_reducible exact H2_) | (have H2_ := (Option.bind_some _ _).symm.trans H; with_reducible exact H2_) | with_reducible exact H | (rw [hy498]; exact H) | exact H
    have Ny498 := Aside0.mk hy498
    clear hy498
    have H' := Aside0.mk H
    clear H
    have p495 : 0 ≤ (0 : Int) := (by omega)
    have q495 : 0 < (l0.length : Int) := od_
    obtain ⟨ad495, e495, hx495_0⟩ := Kd.at_int HR0.out 0 p495 q495
    cases e495
    have qi495 : (0 < l0.length) = True := eq_true (by omega)
    (try rw [show ((0 : Int)).toNat = 0 from rfl] at hx495_0)
    (try rw [Addr.add_zero'] at hx495_0)
    replace p495 := eq_true p495
    replace q495 := eq_true q495
    have p497 : 0 ≤ (0 : Int) := (by omega)
    have q497 : 0 < (l0.length : Int) := od_
    obtain ⟨ad497, e497, hx497_0⟩ := Kd.at_int HR0.out 0 p497 q497
    obtain rfl : ad495 = ad497 := (by injection e497)
    have qi497 : (0 < l0.length) = True := eq_true (by omega)
    (try rw [show ((0 : Int)).toNat = 0 from rfl] at hx497_0)
    (try rw [Addr.add_zero'] at hx497_0)
    replace p497 := eq_true p497
    replace q497 := eq_true q497
    have q8 : ((wrap64 (1 + (wrap64 ((wrap64 (rd l0 0)) - 247)))) : Int) ≤ ((l0.length : Int) : Int) := od_
    obtain ⟨i08, hi08, _, hsz8, _⟩ := info_parts info5
    have hroom8 : l0.length ≤ c0 := HC0.out
    have hC8 : Kd.C (Kd.int .u8) _ (some ad495) l0.length l0 := HR0.out
    have ql8 : (1 : Int) ≤ ((wrap64 (1 + (wrap64 ((wrap64 (rd l0 0)) - 247)))) : Int) := od_
    have hcut8 := cut_mid (P := Try.prog) 22 5 .i64 .i64 Try.underlying22 hi08 1 hsz8 (some ad495) l0.length c0 1 (wrap64 (1 + (wrap64 ((wrap64 (rd l0 0)) - 247)))) (by omega) ql8 q8 hroom8
    have hr8 := Kd.C_mid (lo := (1 : Int).toNat) (hi := ((wrap64 (1 + (wrap64 ((wrap64 (rd l0 0)) - 247)))) : Int).toNat) (c := c0) hC8 (by omega) (by omega) hroom8
    obtain ⟨A8, hA8⟩ : ∃ A1, A1 = (if c0 = (1 : Int).toNat then (some ad495) else ((some ad495) : Option Addr).map (·.add ((1 : Int).toNat * 1))) := ⟨_, rfl⟩
    obtain ⟨c8, hc8⟩ : ∃ c1, c1 = c0 - (1 : Int).toNat := ⟨_, rfl⟩
    have hy8 : y498.length = ((wrap64 (1 + (wrap64 ((wrap64 (rd l0 0)) - 247)))) : Int).toNat - (1 : Int).toNat := (by rw [Ny498.out, List.length_drop, List.length_take] <;> omega)
    rw [show ((l0).take ((wrap64 (1 + (wrap64 ((wrap64 (rd l0 0)) - 247)))) : Int).toNat).drop (1 : Int).toNat = y498 from Ny498.out.symm] at hr8
    replace hr8 : Kd.C (Kd.int .u8) _ A8 y498.length y498 := (by rw [hA8]; exact hr8)
    rw [← hy8, ← hA8, ← hc8] at hcut8
    have HR501 := Aside0.mk hr8
    have HC501 := Aside0.mk (show y498.length ≤ c8 from by rw [hy8, hc8]; exact Nat.sub_le_sub_right (Nat.le_trans (by omega) hroom8) _)
    clear hr8 hC8 hroom8 hi08 hsz8 hc8
    have KY8 := Aside0.mk hy8
    have KA8 := Aside0.mk hA8
    clear hy8 hA8
    replace q8 := eq_true q8
    go_enter Try.func38, Try.ntmps38
    go_wp2
    go_loopg [2, 36] k (fun kq v2 v36 w' => ∃ (x2_1 : Int) (x36_1 : Int), v2 = .int .u64 x2_1 ∧ v36 = .int .i64 x36_1 ∧ Aside0 (num_Take.l0 kq x2_1 (wrap64 ((wrap64 (rd l0 0)) - 247)) y498 (y498.length : Int) x36_1 = some (r1, r2, r3)) ∧ Aside0 (kq ≤ k) ∧ Drawn0 w w')
    case atStart => exact ⟨(0), (0), (by first | rfl | (simp; done) | (simp [*]; done)), (by first | rfl | (simp; done) | (simp [*]; done)), H', ⟨Nat.le_refl _⟩, by repeat (first | exact Drawn0.refl _ | apply Drawn0.step)⟩
    case round =>
     clear H'
     try clear c1
     try clear c2
     try clear c2b0
     try clear c2b1
     try clear c2b2
     try clear p2
     try clear c3
     try clear c3b0
     try clear c3b1
     try clear c4
     try clear c4b0
     try clear p4
     try clear q4
     try clear hx4
     try clear qi4
     try clear c5
     try clear c5b0
     try clear c6
     try clear c6b0
     try clear c6b1
     try clear p6
     try clear c7
     try clear c7b0
     try clear c7b1
     try clear c8
     try clear q8
     try clear hx495_0
     try clear hx496_0
     try clear hx497_0
     try clear p495
     try clear p496
     try clear p497
     try clear q495
     try clear q496
     try clear q497
     try clear q8
     obtain ⟨x2_1, x36_1, rfl, rfl, HA, HK1, ⟨m1, rfl⟩⟩ := hrel
     cases gk with
     | zero => exact absurd HA.out (by simp [num_Take.l0])
     | succ k1 =>
      have H := HA.out
      clear HA
      simp only [num_Take.l0] at H
      by_cases c9 : x36_1 < (y498.length : Int)
      rotate_left
      ·rw [if_neg c9] at H
       have c9b0 : decide (x36_1 < (y498.length : Int)) = false := decide_eq_false c9
       clear c9
       by_cases c15 : x2_1 ≤ 247
       ·rw [if_pos c15] at H
        have c15b0 : decide (x2_1 ≤ 247) = true := decide_eq_true c15
        clear c15
        simp only [Option.some.injEq, Prod.mk.injEq] at H
        obtain ⟨rfl, rfl, rfl⟩ := H
        go_wp2
        go_ret3
        exact ⟨by first | rfl | (simp; done) | (simp [*]; done), by repeat (first | exact Drawn0.refl _ | apply Drawn0.step)⟩
       ·rw [if_neg c15] at H
        have c15b0 : decide (x2_1 ≤ 247) = false := decide_eq_false c15
        clear c15
        replace H := Option.bind_eq_some_iff.mp H
        obtain ⟨t503, A160, H⟩ := H
        replace H : (if t503 < (wrap64 ((wrap64 (rd l0 0)) - 247)) then (some (0, 0, 2)) else (some (x2_1, wrap64 (1 + (wrap64 ((wrap64 (rd l0 0)) - 247))), 0))) = some (r1, r2, r3) := H
        have A16 := Aside0.mk A160
        clear A160
        by_cases c17 : t503 < (wrap64 ((wrap64 (rd l0 0)) - 247))
        rotate_left
        ·rw [if_neg c17] at H
         have c17b0 : decide (t503 < (wrap64 ((wrap64 (rd l0 0)) - 247))) = false := decide_eq_false c17
         clear c17
         simp only [Option.some.injEq, Prod.mk.injEq] at H
         obtain ⟨rfl, rfl, rfl⟩ := H
         go_wp2_with (first | (go_at_call 50; (with_reducible refine (num_size.calls x2_1 t503 _ A16.out).mono ?_); rintro e w' ⟨rfl, ⟨nd, rfl⟩⟩))
         go_ret3
         exact ⟨by first | rfl | (simp; done) | (simp [*]; done), by repeat (first | exact Drawn0.refl _ | apply Drawn0.step)⟩
        rw [if_pos c17] at H
        have c17b0 : decide (t503 < (wrap64 ((wrap64 (rd l0 0)) - 247))) = true := decide_eq_true c17
        clear c17
        simp only [Option.some.injEq, Prod.mk.injEq] at H
        obtain ⟨rfl, rfl, rfl⟩ := H
        go_wp2_with (first | (go_at_call 50; (with_reducible refine (num_size.calls x2_1 t503 _ A16.out).mono ?_); rintro e w' ⟨rfl, ⟨nd, rfl⟩⟩))
        go_ret3
        exact ⟨by first | rfl | (simp; done) | (simp [*]; done), by repeat (first | exact Drawn0.refl _ | apply Drawn0.step)⟩
      rw [if_pos c9] at H
      have c9b0 : decide (x36_1 < (y498.length : Int)) = true := decide_eq_true c9
      clear c9
      by_cases c10 : 0 ≤ x36_1
      rotate_left
      ·rw [if_neg c10] at H
       exact absurd H (by simp)
      rw [if_pos c10] at H
      have c10b0 : decide (0 ≤ x36_1) = true := decide_eq_true c10
      clear c10
      by_cases c11 : x36_1 < (y498.length : Int)
      rotate_left
      ·rw [if_neg c11] at H
       exact absurd H (by simp)
      rw [if_pos c11] at H
      have c11b0 : decide (x36_1 < (y498.length : Int)) = true := decide_eq_true c11
      clear c11
      obtain ⟨ji12, hji12⟩ : ∃ j_ : Int, (wrap64 (8 * x36_1)) = j_ := ⟨_, rfl⟩
      replace H : (if 0 ≤ (ji12) then (num_Take.l0 k1 (Go.bits .or .u64 x2_1 (shl .u64 (IntKind.u64.wrap (rd y498 x36_1)) (ji12))) (wrap64 ((wrap64 (rd l0 0)) - 247)) y498 (y498.length : Int) (wrap64 (x36_1 + 1))) else (none)) = some (r1, r2, r3) := by first | (rw [hji12] at H; exact H) | (simp only [hji12] at H ⊢; exact H)
      have hji12w : (IntKind.i64.wrap (8 * x36_1)) = ji12 := (i64_w _).trans hji12
      by_cases c13 : 0 ≤ (ji12)
      rotate_left
      ·rw [if_neg c13] at H
       exact absurd H (by simp)
      rw [if_pos c13] at H
      have c13b0 := eq_true c13
      have c13b1 : decide (0 ≤ (ji12)) = true := decide_eq_true c13
      clear c13
      obtain ⟨ji14, hji14⟩ : ∃ j_ : Int, (shl .u64 (IntKind.u64.wrap (rd y498 x36_1)) (ji12)) = j_ := ⟨_, rfl⟩
      replace H : (num_Take.l0 k1 (Go.bits .or .u64 x2_1 (ji14)) (wrap64 ((wrap64 (rd l0 0)) - 247)) y498 (y498.length : Int) (wrap64 (x36_1 + 1))) = some (r1, r2, r3) := by first | (rw [hji14] at H; exact H) | (simp only [hji14] at H ⊢; exact H)
      have hji14_ : (IntKind.u64.wrap ((IntKind.u64.wrap (rd y498 x36_1)) * 2 ^ min (ji12).toNat 64)) = ji14 := hji14
      have hji14z : (ji12) ≤ 64 → (IntKind.u64.wrap ((IntKind.u64.wrap (rd y498 x36_1)) * 2 ^ (ji12).toNat)) = ji14 := shl_small hji14
      have H' := Aside0.mk H
      clear H
      have p502 : 0 ≤ (x36_1 : Int) := od_
      have q502 : x36_1 < (y498.length : Int) := od_
      obtain ⟨ad502, e502, hx502_0⟩ := Kd.at_int HR501.out x36_1 p502 q502
      cases e502
      replace p502 := eq_true p502
      replace q502 := eq_true q502
      go_wp2
      (try subst hji14 hji12)
      go_roundg k1
      case measure => have := HK1.out; omega
      case rel => exact ⟨(Go.bits .or .u64 x2_1 ((shl .u64 (IntKind.u64.wrap (rd y498 x36_1)) ((wrap64 (8 * x36_1)))))), (wrap64 (x36_1 + 1)), (by first | rfl | (simp; done) | (simp only [← hji14] <;> (first | rfl | simp)) | (simp [*]; done)), (by first | rfl | (simp; done) | (simp [*]; done)), H', ⟨by have := HK1.out; omega⟩, by repeat (first | exact Drawn0.refl _ | apply Drawn0.step)⟩
mutual
def bits_Unpack.j0 : Nat → List Int → Int → Int → Bool → Option (List Int × Int)
 | 0, _, _, _, _ => none
 | k + 1, x0, x1, x2, x28 => if x28 = true then (some (([] : List Int), 1)) else (if (x0.length : Int) < (wrap64 (Int.tdiv (wrap64 ((wrap64 (x1 * x2)) + 7)) 8)) then (some (([] : List Int), 3)) else (if (x0.length : Int) > (wrap64 (Int.tdiv (wrap64 ((wrap64 (x1 * x2)) + 7)) 8)) then (some (([] : List Int), 2)) else (if (Int.tmod (wrap64 (x1 * x2)) 8) > 0 then (if 0 ≤ (wrap64 ((wrap64 (Int.tdiv (wrap64 ((wrap64 (x1 * x2)) + 7)) 8)) - 1)) then (if (wrap64 ((wrap64 (Int.tdiv (wrap64 ((wrap64 (x1 * x2)) + 7)) 8)) - 1)) < (x0.length : Int) then (if 0 ≤ (Int.tmod (wrap64 (x1 * x2)) 8) then (bits_Unpack.j1 k x0 x1 x2 ((shr .u8 (rd x0 (wrap64 ((wrap64 (Int.tdiv (wrap64 ((wrap64 (x1 * x2)) + 7)) 8)) - 1))) (Int.tmod (wrap64 (x1 * x2)) 8)) != 0)) else (none)) else (none)) else (none)) else (bits_Unpack.j1 k x0 x1 x2 false))))
def bits_Unpack.j1 : Nat → List Int → Int → Int → Bool → Option (List Int × Int)
 | 0, _, _, _, _ => none
 | k + 1, x0, x1, x2, x59 => if x59 = true then (some (([] : List Int), 2)) else (if 0 ≤ x1 then (if (x1 : Int).toNat ≤ 35184372088832 then ((some (List.replicate (x1 : Int).toNat 0 : List Int)).bind fun y505 => (bits_Unpack.l0 k x0 x2 y505 0 (y505.length : Int) 0)) else (none)) else (none))
def bits_Unpack.l0 : Nat → List Int → Int → List Int → Int → Int → Int → Option (List Int × Int)
 | 0, _, _, _, _, _, _ => none
 | k + 1, x0, x2, x10, x11, x63, x64 => if x64 < x63 then (bits_Unpack.l1 k x0 x2 x10 x11 x64 0 x63 x64) else (some (x10, 0))
def bits_Unpack.l1 : Nat → List Int → Int → List Int → Int → Int → Int → Int → Int → Option (List Int × Int)
 | 0, _, _, _, _, _, _, _, _ => none
 | k + 1, x0, x2, x10, x11, x12, x13, x63, x64 => if x13 < x2 then (if 0 ≤ x12 then (if x12 < (x10.length : Int) then (if 0 ≤ (wrap64 (Int.tdiv x11 8)) then (if (wrap64 (Int.tdiv x11 8)) < (x0.length : Int) then (if 0 ≤ (Int.tmod x11 8) then (if 0 ≤ (mn (wrap64 (x2 - x13)) (wrap64 (8 - (Int.tmod x11 8)))) then (if 0 ≤ x13 then (bits_Unpack.l1 k x0 x2 (x10.set (x12 : Int).toNat (Go.bits .or .u64 (rd x10 x12) (shl .u64 (IntKind.u64.wrap (Go.bits .and .u8 (shr .u8 (rd x0 (wrap64 (Int.tdiv x11 8))) (Int.tmod x11 8)) (((shl .u8 1 (mn (wrap64 (x2 - x13)) (wrap64 (8 - (Int.tmod x11 8))))) - 1) % 256))) x13))) (wrap64 (x11 + (mn (wrap64 (x2 - x13)) (wrap64 (8 - (Int.tmod x11 8)))))) x12 (wrap64 (x13 + (mn (wrap64 (x2 - x13)) (wrap64 (8 - (Int.tmod x11 8)))))) x63 x64) else (none)) else (none)) else (none)) else (none)) else (none)) else (none)) else (none)) else (bits_Unpack.l0 k x0 x2 x10 x11 x63 (wrap64 (x64 + 1)))
end
def bits_Unpack.f (k : Nat) (l0 : List Int) (a1 : Int) (a2 : Int) : Option (List Int × Int) := if a2 < 0 then (bits_Unpack.j0 k l0 a1 a2 true) else (if a2 > 64 then (bits_Unpack.j0 k l0 a1 a2 true) else (if a1 < 0 then (bits_Unpack.j0 k l0 a1 a2 true) else (bits_Unpack.j0 k l0 a1 a2 (decide (a1 > 4096)))))
theorem bits_Unpack.mono_l : ∀ k, (∀ y0 y1 y2 y3, LeO (bits_Unpack.j0 k y0 y1 y2 y3) (bits_Unpack.j0 (k + 1) y0 y1 y2 y3)) ∧ (∀ y0 y1 y2 y3, LeO (bits_Unpack.j1 k y0 y1 y2 y3) (bits_Unpack.j1 (k + 1) y0 y1 y2 y3)) ∧ (∀ y0 y1 y2 y3 y4 y5, LeO (bits_Unpack.l0 k y0 y1 y2 y3 y4 y5) (bits_Unpack.l0 (k + 1) y0 y1 y2 y3 y4 y5)) ∧ (∀ y0 y1 y2 y3 y4 y5 y6 y7, LeO (bits_Unpack.l1 k y0 y1 y2 y3 y4 y5 y6 y7) (bits_Unpack.l1 (k + 1) y0 y1 y2 y3 y4 y5 y6 y7))
 | 0 => ⟨fun _ _ _ _ r h => by simp [bits_Unpack.j0] at h, fun _ _ _ _ r h => by simp [bits_Unpack.j1] at h, fun _ _ _ _ _ _ r h => by simp [bits_Unpack.l0] at h, fun _ _ _ _ _ _ _ _ r h => by simp [bits_Unpack.l1] at h⟩
 | k + 1 => by
  obtain ⟨ih0, ih1, ih2, ih3⟩ := bits_Unpack.mono_l k
  refine ⟨?_, ?_, ?_, ?_⟩
  ·intro y0 y1 y2 y3
   unfold bits_Unpack.j0
   repeat' first
   | (with_reducible exact ih0 _ _ _ _)
   | (with_reducible exact ih1 _ _ _ _)
   | (with_reducible exact ih2 _ _ _ _ _ _)
   | (with_reducible exact ih3 _ _ _ _ _ _ _ _)
   | (with_reducible exact LeO.refl _)
   | (with_reducible exact LeO.none _)
   | (with_reducible refine LeO.ite ?_ ?_)
   | (with_reducible refine LeO.bind ?_ (fun _ => ?_))
  ·intro y0 y1 y2 y3
   unfold bits_Unpack.j1
   repeat' first
   | (with_reducible exact ih0 _ _ _ _)
   | (with_reducible exact ih1 _ _ _ _)
   | (with_reducible exact ih2 _ _ _ _ _ _)
   | (with_reducible exact ih3 _ _ _ _ _ _ _ _)
   | (with_reducible exact LeO.refl _)
   | (with_reducible exact LeO.none _)
   | (with_reducible refine LeO.ite ?_ ?_)
   | (with_reducible refine LeO.bind ?_ (fun _ => ?_))
  ·intro y0 y1 y2 y3 y4 y5
   unfold bits_Unpack.l0
   repeat' first
   | (with_reducible exact ih0 _ _ _ _)
   | (with_reducible exact ih1 _ _ _ _)
   | (with_reducible exact ih2 _ _ _ _ _ _)
   | (with_reducible exact ih3 _ _ _ _ _ _ _ _)
   | (with_reducible exact LeO.refl _)
   | (with_reducible exact LeO.none _)
   | (with_reducible refine LeO.ite ?_ ?_)
   | (with_reducible refine LeO.bind ?_ (fun _ => ?_))
  ·intro y0 y1 y2 y3 y4 y5 y6 y7
   unfold bits_Unpack.l1
   repeat' first
   | (with_reducible exact ih0 _ _ _ _)
   | (with_reducible exact ih1 _ _ _ _)
   | (with_reducible exact ih2 _ _ _ _ _ _)
   | (with_reducible exact ih3 _ _ _ _ _ _ _ _)
   | (with_reducible exact LeO.refl _)
   | (with_reducible exact LeO.none _)
   | (with_reducible refine LeO.ite ?_ ?_)
   | (with_reducible refine LeO.bind ?_ (fun _ => ?_))
theorem bits_Unpack.mono : ∀ a0 a1 a2 k, LeO (bits_Unpack.f k a0 a1 a2) (bits_Unpack.f (k + 1) a0 a1 a2) := by
 intro a0 a1 a2 k
 obtain ⟨ih0, ih1, ih2, ih3⟩ := bits_Unpack.mono_l k
 unfold bits_Unpack.f
 repeat' first
   | (with_reducible exact ih0 _ _ _ _)
   | (with_reducible exact ih1 _ _ _ _)
   | (with_reducible exact ih2 _ _ _ _ _ _)
   | (with_reducible exact ih3 _ _ _ _ _ _ _ _)
   | (with_reducible exact LeO.refl _)
   | (with_reducible exact LeO.none _)
   | (with_reducible refine LeO.ite ?_ ?_)
   | (with_reducible refine LeO.bind ?_ (fun _ => ?_))
def bits_Unpack.T19 : Bool × List (List Nat × List Nat) := (true, [([], []), ([], []), ([0, 1], [0, 1]), ([2], [2]), ([], []), ([], []), ([5], [5]), ([4, 6], [4, 6]), ([7], [7]), ([], []), ([9], [9]), ([8, 10], [8, 10]), ([], []), ([12], [12]), ([13], [13]), ([11, 14], [11, 14]), ([15], [15]), ([], []), ([16, 17], [16, 17]), ([3, 18], [3, 18]), ([0, 1, 0, 1, 2, 3, 4, 5, 6, 7, 8, 9, 10, 11, 12, 13, 14, 15, 16, 17, 18, 19], [0, 1]), ([20, 19, 0, 1, 2, 3, 4, 5, 6, 7, 8, 9, 10, 11, 12, 13, 14, 15, 16, 17, 18, 19], [19, 20])])
def bits_Unpack.B19 : List Nat := [0, 0, 3, 7, 0, 0, 32, 112, 240, 0, 512, 2032, 0, 4096, 12288, 32752, 65520, 0, 262128, 524287, 1048575, 2097151]
theorem bits_Unpack.tab19 : rtab .any (opsOf Try.f39 19) = bits_Unpack.T19 := by kernel_rfl
theorem bits_Unpack.bits19 : waitsOk bits_Unpack.T19.2 bits_Unpack.B19 = true := by kernel_rfl
set_option maxHeartbeats 8000000 in
set_option maxRecDepth 100000 in
theorem bits_Unpack.calls (k : Nat) (A0 : Option Addr) (c0 : Nat) (l0 : List Int) (a1 : Int) (a2 : Int) (r1 : List Int) (r2 : Int) (w : World) (hr0 : Kd.C (Kd.int .u8) w A0 l0.length l0) (hc0 : l0.length ≤ c0) (h : bits_Unpack.f k l0 a1 a2 = some (r1, r2)) :
  Calls Try.prog 39 #[.slice A0 l0.length c0, .int .i64 a1, .int .i64 a2] w fun e w' => ∃ v0_ : Value, e = .returned (.tuple #[v0_, .int .i64 r2]) ∧ Kd.R (Kd.int .u64) 50 w' w.heap.size (fun _ => True) v0_ r1 ∧ Below w.heap.size w w' := by
 have HR0 := Aside0.mk hr0
 have HC0 := Aside0.mk hc0
 clear hr0 hc0
 have HB := Aside0.mk (Below.refl w.heap.size w)
 have H : (if a2 < 0 then (bits_Unpack.j0 k l0 a1 a2 true) else (if a2 > 64 then (bits_Unpack.j0 k l0 a1 a2 true) else (if a1 < 0 then (bits_Unpack.j0 k l0 a1 a2 true) else (bits_Unpack.j0 k l0 a1 a2 (decide (a1 > 4096)))))) = some (r1, r2) := h
 clear h
 have HC4 := Aside0.mk H
 clear H
 go_enter Try.func39, Try.ntmps39
 go_upto_region 1 with (fail)
 go_cut [28] (fun v28 wc => ∃ (kq : Nat) (x28_3 : Bool), v28 = .bool x28_3 ∧ Aside0 (bits_Unpack.j0 kq l0 a1 a2 x28_3 = some (r1, r2)) ∧ Aside0 (kq ≤ k) ∧ Aside0 (Below w.heap.size w wc))
 case first =>
  have H := HC4.out
  clear HC4
  by_cases c5 : a2 < 0
  ·rw [if_pos c5] at H
   have c5b0 : decide (a2 < 0) = true := decide_eq_true c5
   clear c5
   (first | rw [c5b0] | (simp only [i64_w, i32_w]; rw [c5b0]) | skip)
   have H' := Aside0.mk H
   clear H
   go_wp2
   go_meet
   case rel => exact ⟨_, (true), (by first | rfl | (simp; done) | (simp [*]; done)), H', ⟨by first | omega | exact Nat.le_refl _⟩, ⟨bw_⟩⟩
  ·rw [if_neg c5] at H
   have c5b0 : decide (a2 < 0) = false := decide_eq_false c5
   clear c5
   (first | rw [c5b0] | (simp only [i64_w, i32_w]; rw [c5b0]) | skip)
   by_cases c6 : a2 > 64
   ·rw [if_pos c6] at H
    have c6b0 : decide (64 < a2) = true := decide_eq_true c6
    clear c6
    have H' := Aside0.mk H
    clear H
    go_wp2
    go_meet
    case rel => exact ⟨_, (true), (by first | rfl | (simp; done) | (simp [*]; done)), H', ⟨by first | omega | exact Nat.le_refl _⟩, ⟨bw_⟩⟩
   ·rw [if_neg c6] at H
    have c6b0 : decide (64 < a2) = false := decide_eq_false c6
    clear c6
    by_cases c7 : a1 < 0
    rotate_left
    ·rw [if_neg c7] at H
     have c7b0 : decide (a1 < 0) = false := decide_eq_false c7
     clear c7
     have H' := Aside0.mk H
     clear H
     go_wp2
     go_meet
     case rel => exact ⟨_, (decide (a1 > 4096)), (by first | rfl | (simp; done) | (simp [*]; done)), H', ⟨by first | omega | exact Nat.le_refl _⟩, ⟨bw_⟩⟩
    rw [if_pos c7] at H
    have c7b0 : decide (a1 < 0) = true := decide_eq_true c7
    clear c7
    have H' := Aside0.mk H
    clear H
    go_wp2
    go_meet
    case rel => exact ⟨_, (true), (by first | rfl | (simp; done) | (simp [*]; done)), H', ⟨by first | omega | exact Nat.le_refl _⟩, ⟨bw_⟩⟩
 case rest =>
  clear HC4
  try clear p2
  try clear c3
  try clear c5
  try clear c5b0
  try clear c6
  try clear c6b0
  try clear c7
  try clear c7b0
  obtain ⟨kq, x28_3, rfl, HA, HJ3, HB⟩ := hcut
  cases kq with
  | zero => exact absurd HA.out (by simp [bits_Unpack.j0])
  | succ kj3 =>
   have H := HA.out
   clear HA
   simp only [bits_Unpack.j0] at H
   by_cases c8 : x28_3 = true
   ·subst c8
    have H1 : (some (([] : List Int), 1)) = some (r1, r2) := by rw [if_pos rfl] at H; exact H
    clear H
    have H := H1
    clear H1
    simp only [Option.some.injEq, Prod.mk.injEq] at H
    obtain ⟨rfl, rfl⟩ := H
    go_wp2
    go_ret2
    exact ⟨_, rf_, ni_, bw_⟩
   ·replace c8 := Bool.eq_false_iff.mpr c8
    subst c8
    have H1 : (if (l0.length : Int) < (wrap64 (Int.tdiv (wrap64 ((wrap64 (a1 * a2)) + 7)) 8)) then (some (([] : List Int), 3)) else (if (l0.length : Int) > (wrap64 (Int.tdiv (wrap64 ((wrap64 (a1 * a2)) + 7)) 8)) then (some (([] : List Int), 2)) else (if (Int.tmod (wrap64 (a1 * a2)) 8) > 0 then (if 0 ≤ (wrap64 ((wrap64 (Int.tdiv (wrap64 ((wrap64 (a1 * a2)) + 7)) 8)) - 1)) then (if (wrap64 ((wrap64 (Int.tdiv (wrap64 ((wrap64 (a1 * a2)) + 7)) 8)) - 1)) < (l0.length : Int) then (if 0 ≤ (Int.tmod (wrap64 (a1 * a2)) 8) then (bits_Unpack.j1 kj3 l0 a1 a2 ((shr .u8 (rd l0 (wrap64 ((wrap64 (Int.tdiv (wrap64 ((wrap64 (a1 * a2)) + 7)) 8)) - 1))) (Int.tmod (wrap64 (a1 * a2)) 8)) != 0)) else (none)) else (none)) else (none)) else (bits_Unpack.j1 kj3 l0 a1 a2 false)))) = some (r1, r2) := by rw [if_neg (show ¬ (false = true) by decide)] at H; exact H
    clear H
    have H := H1
    clear H1
    by_cases c9 : (l0.length : Int) < (wrap64 (Int.tdiv (wrap64 ((wrap64 (a1 * a2)) + 7)) 8))
    ·rw [if_pos c9] at H
     have c9b0 : decide ((l0.length : Int) < (wrap64 (Int.tdiv (wrap64 ((wrap64 (a1 * a2)) + 7)) 8))) = true := decide_eq_true c9
     clear c9
     simp only [Option.some.injEq, Prod.mk.injEq] at H
     obtain ⟨rfl, rfl⟩ := H
     go_wp2
     go_ret2
     exact ⟨_, rf_, ni_, bw_⟩
    ·rw [if_neg c9] at H
     have c9b0 : decide ((l0.length : Int) < (wrap64 (Int.tdiv (wrap64 ((wrap64 (a1 * a2)) + 7)) 8))) = false := decide_eq_false c9
     clear c9
     by_cases c10 : (l0.length : Int) > (wrap64 (Int.tdiv (wrap64 ((wrap64 (a1 * a2)) + 7)) 8))
     ·rw [if_pos c10] at H
      have c10b0 : decide ((wrap64 (Int.tdiv (wrap64 ((wrap64 (a1 * a2)) + 7)) 8)) < (l0.length : Int)) = true := decide_eq_true c10
      clear c10
      simp only [Option.some.injEq, Prod.mk.injEq] at H
      obtain ⟨rfl, rfl⟩ := H
      go_wp2
      go_ret2
      exact ⟨_, rf_, ni_, bw_⟩
     ·rw [if_neg c10] at H
      have c10b0 : decide ((wrap64 (Int.tdiv (wrap64 ((wrap64 (a1 * a2)) + 7)) 8)) < (l0.length : Int)) = false := decide_eq_false c10
      clear c10
      have HC11 := Aside0.mk H
      clear H
      go_upto_region 9 with (fail)
      go_cut [59] (fun v59 wc => ∃ (kq : Nat) (x59_10 : Bool), v59 = .bool x59_10 ∧ Aside0 (bits_Unpack.j1 kq l0 a1 a2 x59_10 = some (r1, r2)) ∧ Aside0 (kq ≤ kj3) ∧ Aside0 (Below w.heap.size w wc))
      case first =>
       have H := HC11.out
       clear HC11
       by_cases c12 : (Int.tmod (wrap64 (a1 * a2)) 8) > 0
       rotate_left
       ·rw [if_neg c12] at H
        have c12b0 : decide (0 < (Int.tmod (wrap64 (a1 * a2)) 8)) = false := decide_eq_false c12
        clear c12
        (first | rw [c12b0] | (simp only [i64_w, i32_w]; rw [c12b0]) | skip)
        have H' := Aside0.mk H
        clear H
        go_wp2
        go_meet
        case rel => exact ⟨_, (false), (by first | rfl | (simp; done) | (simp [*]; done)), H', ⟨by have := HJ3.out; first | omega | exact Nat.le_refl _⟩, ⟨bw_⟩⟩
       rw [if_pos c12] at H
       have c12b0 : decide (0 < (Int.tmod (wrap64 (a1 * a2)) 8)) = true := decide_eq_true c12
       clear c12
       (first | rw [c12b0] | (simp only [i64_w, i32_w]; rw [c12b0]) | skip)
       obtain ⟨ji13, hji13⟩ : ∃ j_ : Int, (wrap64 ((wrap64 (Int.tdiv (wrap64 ((wrap64 (a1 * a2)) + 7)) 8)) - 1)) = j_ := ⟨_, rfl⟩
       replace H : (if 0 ≤ (ji13) then (if (ji13) < (l0.length : Int) then (if 0 ≤ (Int.tmod (wrap64 (a1 * a2)) 8) then (bits_Unpack.j1 kj3 l0 a1 a2 ((shr .u8 (rd l0 (ji13)) (Int.tmod (wrap64 (a1 * a2)) 8)) != 0)) else (none)) else (none)) else (none)) = some (r1, r2) := by first | (rw [hji13] at H; exact H) | (simp only [hji13] at H ⊢; exact H)
       have hji13w : (IntKind.i64.wrap ((wrap64 (Int.tdiv (wrap64 ((wrap64 (a1 * a2)) + 7)) 8)) - 1)) = ji13 := (i64_w _).trans hji13
       by_cases c14 : 0 ≤ (ji13)
       rotate_left
       ·rw [if_neg c14] at H
        exact absurd H (by simp)
       rw [if_pos c14] at H
       have c14b0 : decide (0 ≤ (ji13)) = true := decide_eq_true c14
       clear c14
       by_cases c15 : (ji13) < (l0.length : Int)
       rotate_left
       ·rw [if_neg c15] at H
        exact absurd H (by simp)
       rw [if_pos c15] at H
       have c15b0 : decide ((ji13) < (l0.length : Int)) = true := decide_eq_true c15
       clear c15
       obtain ⟨ji16, hji16⟩ : ∃ j_ : Int, (Int.tmod (wrap64 (a1 * a2)) 8) = j_ := ⟨_, rfl⟩
       replace H : (if 0 ≤ (ji16) then (bits_Unpack.j1 kj3 l0 a1 a2 ((shr .u8 (rd l0 (ji13)) (ji16)) != 0)) else (none)) = some (r1, r2) := by first | (rw [hji16] at H; exact H) | (simp only [hji16] at H ⊢; exact H)
       (try rw [hji16] at c12b0)
       by_cases c17 : 0 ≤ (ji16)
       rotate_left
       ·rw [if_neg c17] at H
        exact absurd H (by simp)
       rw [if_pos c17] at H
       have c17b0 := eq_true c17
       have c17b1 : decide (0 ≤ (ji16)) = true := decide_eq_true c17
       clear c17
       obtain ⟨ji18, hji18⟩ : ∃ j_ : Int, (shr .u8 (rd l0 (ji13)) (ji16)) = j_ := ⟨_, rfl⟩
       replace H : (bits_Unpack.j1 kj3 l0 a1 a2 ((ji18) != 0)) = some (r1, r2) := by first | (rw [hji18] at H; exact H) | (simp only [hji18] at H ⊢; exact H)
       have hji18_ : ((rd l0 (ji13)) / 2 ^ min (ji16).toNat 8) = ji18 := hji18
       have hji18z : (ji16) ≤ 8 → ((rd l0 (ji13)) / 2 ^ (ji16).toNat) = ji18 := shr_small hji18
       have H' := Aside0.mk H
       clear H
       have p504 : 0 ≤ ((ji13) : Int) := od_
       have q504 : (ji13) < (l0.length : Int) := od_
       obtain ⟨ad504, e504, hx504_0⟩ := Kd.at_int HR0.out (ji13) p504 q504
       cases e504
       replace hx504_0 := (HB.out.cell (World.block_lt_of_cell? w _ hx504_0)).trans hx504_0
       replace p504 := eq_true p504
       replace q504 := eq_true q504
       go_wp2
       (try subst hji18 hji16 hji13)
       go_meet
       case rel => exact ⟨_, ((((shr .u8 (rd l0 ((wrap64 ((wrap64 (Int.tdiv (wrap64 ((wrap64 (a1 * a2)) + 7)) 8)) - 1)))) ((Int.tmod (wrap64 (a1 * a2)) 8)))) != 0)), (by first | rfl | (simp; done) | (simp only [← hji18] <;> (first | rfl | simp)) | (simp [*]; done)), H', ⟨by have := HJ3.out; first | omega | exact Nat.le_refl _⟩, ⟨bw_⟩⟩
      case rest =>
       clear HC11
       try clear c1
       try clear p2
       try clear c3
       try clear c5
       try clear c5b0
       try clear p5
       try clear q5
       try clear hx5
       try clear c6
       try clear c6b0
       try clear p6
       try clear c7
       try clear c7b0
       try clear c8
       try clear c9
       try clear c9b0
       try clear c10
       try clear c10b0
       try clear c12
       try clear c12b0
       try clear c14
       try clear c14b0
       try clear c15
       try clear c15b0
       try clear c17
       try clear c17b0
       try clear c17b1
       try clear hx504_0
       try clear p2
       try clear p504
       try clear q504
       obtain ⟨kq, x59_10, rfl, HA, HJ10, HB⟩ := hcut
       cases kq with
       | zero => exact absurd HA.out (by simp [bits_Unpack.j1])
       | succ kj10 =>
        have H := HA.out
        clear HA
        simp only [bits_Unpack.j1] at H
        by_cases c19 : x59_10 = true
        ·subst c19
         have H1 : (some (([] : List Int), 2)) = some (r1, r2) := by rw [if_pos rfl] at H; exact H
         clear H
         have H := H1
         clear H1
         simp only [Option.some.injEq, Prod.mk.injEq] at H
         obtain ⟨rfl, rfl⟩ := H
         go_wp2
         go_ret2
         exact ⟨_, rf_, ni_, bw_⟩
        ·replace c19 := Bool.eq_false_iff.mpr c19
         subst c19
         have H1 : (if 0 ≤ a1 then (if (a1 : Int).toNat ≤ 35184372088832 then ((some (List.replicate (a1 : Int).toNat 0 : List Int)).bind fun y505 => (bits_Unpack.l0 kj10 l0 a2 y505 0 (y505.length : Int) 0)) else (none)) else (none)) = some (r1, r2) := by rw [if_neg (show ¬ (false = true) by decide)] at H; exact H
         clear H
         have H := H1
         clear H1
         by_cases c20 : 0 ≤ a1
         rotate_left
         ·rw [if_neg c20] at H
          exact absurd H (by simp)
         rw [if_pos c20] at H
         have c20b0 := eq_true c20
         have c20b1 : decide (0 ≤ a1) = true := decide_eq_true c20
         clear c20
         by_cases c21 : (a1 : Int).toNat ≤ 35184372088832
         rotate_left
         ·rw [if_neg c21] at H
          exact absurd H (by simp)
         rw [if_pos c21] at H
         have c21b0 := eq_true c21
         have c21b1 : decide ((a1 : Int).toNat ≤ 35184372088832) = true := decide_eq_true c21
         clear c21
         obtain ⟨y505, hy505⟩ : ∃ y_ : List Int, y_ = (List.replicate (a1 : Int).toNat 0) := ⟨_, rfl⟩
         replace H : (bits_Unpack.l0 kj10 l0 a2 y505 0 (y505.length : Int) 0) = some (r1, r2) := by first | (rw [hy505]; with_reducible exact H) | (have H2_ := (Option.bind_some _ _).symm.trans H; rw [hy505]; with_reducible exact H2_) | (have H2_ := (Option.bind_some _ _).symm.trans H; with_reducible exact H2_) | with_reducible exact H | (rw [hy505]; exact H) | exact H
         have Ny505 := Aside0.mk hy505
         clear hy505
         have H' := Aside0.mk H
         clear H
         go_wp2_with (first | ((with_reducible refine gate_dst (N := 61) rfl ?_); refine Kd.R_make (Kd.int .u64) _ 50 rfl (N := 61) rfl 49 _ _ rfl a1 rfl rfl Try.underlying49 (.int .u64 0) 8 info50 rfl (by decide) (by omega) 0 (ok := fun _ => True) (okp := fun _ => True) rfl (fun _ hk => hk) trivial od_ (Nat.le_trans (Nat.mul_le_mul_right _ (od_ : a1.toNat ≤ 35184372088832)) (by omega)) (Below.refl _ _) (Nat.le_refl _) ?_; intro v506 w22 ho23 hb hg_ hnew_; clear hg_ hnew_; (first | rw [← Ny505.out] at ho23 | (simp only [Int.reduceToNat] at ho23; rw [← Ny505.out] at ho23)); have HO507 := Aside0.mk (Kd.R_lower ho23 (pbS_ bw_)); replace HB := Aside0.mk (below_step bw_ hb); clear hb ho23; obtain ⟨Ao24, co24, eo24⟩ := Kd.R_slice HO507.out; subst eo24))
         go_loopg [11, 64] kj10 (fun kq v11 v64 w' => ∃ (x10_3 : List Int) (x11_3 : Int) (x64_3 : Int), v11 = .int .i64 x11_3 ∧ v64 = .int .i64 x64_3 ∧ Aside0 (bits_Unpack.l0 kq l0 a2 x10_3 x11_3 (y505.length : Int) x64_3 = some (r1, r2)) ∧ Aside0 (kq ≤ kj10) ∧ Aside0 (Kd.R (Kd.int .u64) 50 w' w.heap.size (fun _ => True) (.slice Ao24 y505.length co24) x10_3) ∧ Aside0 (Below w.heap.size w w'))
         case atStart => exact ⟨(y505), (0), (0), (by first | rfl | (simp; done) | (simp [*]; done)), (by first | rfl | (simp; done) | (simp [*]; done)), H', ⟨Nat.le_refl _⟩, ⟨Kd.ru_ HO507.out⟩, ⟨bw_⟩⟩
         case round =>
          clear H'
          try clear c1
          try clear c2
          try clear p2
          try clear c3
          try clear c5
          try clear c5b0
          try clear p5
          try clear q5
          try clear hx5
          try clear c6
          try clear c6b0
          try clear p6
          try clear c7
          try clear c7b0
          try clear c8
          try clear c9
          try clear c9b0
          try clear c10
          try clear c10b0
          try clear c12
          try clear c12b0
          try clear c14
          try clear c14b0
          try clear c15
          try clear c15b0
          try clear c17
          try clear c17b0
          try clear c17b1
          try clear c19
          try clear c20
          try clear c20b0
          try clear c20b1
          try clear c21
          try clear c21b0
          try clear c21b1
          try clear hx504_0
          try clear p2
          try clear p5
          try clear p504
          try clear p6
          try clear q5
          try clear q504
          obtain ⟨x10_3, x11_3, x64_3, rfl, rfl, HA, HK3, HO_10, HB⟩ := hrel
          have hl10_3 := (Kd.R_reads' HO_10.out).1
          rw [hl10_3] at HO_10
          (try simp only [hl10_3])
          cases gk with
          | zero => exact absurd HA.out (by simp [bits_Unpack.l0])
          | succ k3 =>
           have H := HA.out
           clear HA
           simp only [bits_Unpack.l0] at H
           by_cases c25 : x64_3 < (y505.length : Int)
           rotate_left
           ·rw [if_neg c25] at H
            have c25b0 : decide (x64_3 < (y505.length : Int)) = false := decide_eq_false c25
            (try (have c25b0h := c25b0; simp only [hl10_3] at c25b0h))
            clear c25
            simp only [Option.some.injEq, Prod.mk.injEq] at H
            obtain ⟨rfl, rfl⟩ := H
            go_wp2
            go_ret2
            exact ⟨_, rf_, by (with_reducible repeat (first | apply Kd.rA_ | apply Kd.rN_ | apply Kd.rD_)); exact HO_10.out, bw_⟩
           rw [if_pos c25] at H
           have c25b0 : decide (x64_3 < (y505.length : Int)) = true := decide_eq_true c25
           (try (have c25b0h := c25b0; simp only [hl10_3] at c25b0h))
           clear c25
           have H' := Aside0.mk H
           clear H
           go_wp2
           go_loopg [11, 13] k3 (fun kq v11 v13 w' => ∃ (x10_4 : List Int) (x11_4 : Int) (x13_4 : Int), v11 = .int .i64 x11_4 ∧ v13 = .int .i64 x13_4 ∧ Aside0 (bits_Unpack.l1 kq l0 a2 x10_4 x11_4 x64_3 x13_4 (y505.length : Int) x64_3 = some (r1, r2)) ∧ Aside0 (kq ≤ k3) ∧ Aside0 (Kd.R (Kd.int .u64) 50 w' w.heap.size (fun _ => True) (.slice Ao24 x10_3.length co24) x10_4) ∧ Aside0 (Below w.heap.size w w'))
           case atStart => exact ⟨(x10_3), (x11_3), (0), (by first | rfl | (simp; done) | (simp [*]; done)), (by first | rfl | (simp; done) | (simp [*]; done)), H', ⟨Nat.le_refl _⟩, ⟨by (try simp only [hl10_3]); (with_reducible repeat (first | apply Kd.rA_ | apply Kd.rN_ | apply Kd.rD_)); exact HO_10.out⟩, ⟨bw_⟩⟩
           case round =>
            clear H'
            try clear c1
            try clear c2
            try clear p2
            try clear c3
            try clear c5
            try clear c5b0
            try clear p5
            try clear q5
            try clear hx5
            try clear c6
            try clear c6b0
            try clear p6
            try clear c7
            try clear c7b0
            try clear c8
            try clear c9
            try clear c9b0
            try clear c10
            try clear c10b0
            try clear c12
            try clear c12b0
            try clear c14
            try clear c14b0
            try clear c15
            try clear c15b0
            try clear c17
            try clear c17b0
            try clear c17b1
            try clear c19
            try clear c20
            try clear c20b0
            try clear c20b1
            try clear c21
            try clear c21b0
            try clear c21b1
            try clear c25
            try clear c25b0
            try clear hx504_0
            try clear p2
            try clear p5
            try clear p504
            try clear p6
            try clear q5
            try clear q504
            obtain ⟨x10_4, x11_4, x13_4, rfl, rfl, HA, HK4, HO_10, HB⟩ := hrel
            have hl10_4 := (Kd.R_reads' HO_10.out).1
            rw [hl10_4] at HO_10
            (try simp only [hl10_4])
            cases gk with
            | zero => exact absurd HA.out (by simp [bits_Unpack.l1])
            | succ k4 =>
             have H := HA.out
             clear HA
             simp only [bits_Unpack.l1] at H
             by_cases c26 : x13_4 < a2
             rotate_left
             ·rw [if_neg c26] at H
              have c26b0 : decide (x13_4 < a2) = false := decide_eq_false c26
              clear c26
              have H' := Aside0.mk H
              clear H
              go_wp2
              (try simp only [← hl10_3, ← hl10_4])
              go_roundg k4
              case measure => have := HJ3.out; have := HJ10.out; have := HK3.out; have := HK4.out; omega
              case rel => exact ⟨(x10_4), (x11_4), (wrap64 (x64_3 + 1)), (by first | rfl | (simp; done) | (simp [*]; done)), (by first | rfl | (simp; done) | (simp [*]; done)), H', ⟨by have := HJ3.out; have := HJ10.out; have := HK3.out; have := HK4.out; omega⟩, ⟨by (try simp only [hl10_3]); (try simp only [hl10_4]); (with_reducible repeat (first | apply Kd.rA_ | apply Kd.rN_ | apply Kd.rD_)); exact HO_10.out⟩, ⟨bw_⟩⟩
             rw [if_pos c26] at H
             have c26b0 : decide (x13_4 < a2) = true := decide_eq_true c26
             clear c26
             obtain ⟨ji27, hji27⟩ : ∃ j_ : Int, (mn (wrap64 (a2 - x13_4)) (wrap64 (8 - (Int.tmod x11_4 8)))) = j_ := ⟨_, rfl⟩
             replace H : (if 0 ≤ x64_3 then (if x64_3 < (x10_4.length : Int) then (if 0 ≤ (wrap64 (Int.tdiv x11_4 8)) then (if (wrap64 (Int.tdiv x11_4 8)) < (l0.length : Int) then (if 0 ≤ (Int.tmod x11_4 8) then (if 0 ≤ (ji27) then (if 0 ≤ x13_4 then (bits_Unpack.l1 k4 l0 a2 (x10_4.set (x64_3 : Int).toNat (Go.bits .or .u64 (rd x10_4 x64_3) (shl .u64 (IntKind.u64.wrap (Go.bits .and .u8 (shr .u8 (rd l0 (wrap64 (Int.tdiv x11_4 8))) (Int.tmod x11_4 8)) (((shl .u8 1 (ji27)) - 1) % 256))) x13_4))) (wrap64 (x11_4 + (ji27))) x64_3 (wrap64 (x13_4 + (ji27))) (y505.length : Int) x64_3) else (none)) else (none)) else (none)) else (none)) else (none)) else (none)) else (none)) = some (r1, r2) := by first | (rw [hji27] at H; exact H) | (simp only [hji27] at H ⊢; exact H)
             have hji27_ : (if (wrap64 (8 - (Int.tmod x11_4 8))) < (wrap64 (a2 - x13_4)) then (wrap64 (8 - (Int.tmod x11_4 8))) else (wrap64 (a2 - x13_4))) = ji27 := hji27
             by_cases c28 : 0 ≤ x64_3
             rotate_left
             ·rw [if_neg c28] at H
              exact absurd H (by simp)
             rw [if_pos c28] at H
             have c28b0 : decide (0 ≤ x64_3) = true := decide_eq_true c28
             clear c28
             by_cases c29 : x64_3 < (x10_4.length : Int)
             rotate_left
             ·rw [if_neg c29] at H
              exact absurd H (by simp)
             rw [if_pos c29] at H
             have c29b0 : decide (x64_3 < (x10_4.length : Int)) = true := decide_eq_true c29
             (try (have c29b0h := c29b0; simp only [hl10_3, hl10_4] at c29b0h))
             clear c29
             obtain ⟨ji30, hji30⟩ : ∃ j_ : Int, (wrap64 (Int.tdiv x11_4 8)) = j_ := ⟨_, rfl⟩
             replace H : (if 0 ≤ (ji30) then (if (ji30) < (l0.length : Int) then (if 0 ≤ (Int.tmod x11_4 8) then (if 0 ≤ (ji27) then (if 0 ≤ x13_4 then (bits_Unpack.l1 k4 l0 a2 (x10_4.set (x64_3 : Int).toNat (Go.bits .or .u64 (rd x10_4 x64_3) (shl .u64 (IntKind.u64.wrap (Go.bits .and .u8 (shr .u8 (rd l0 (ji30)) (Int.tmod x11_4 8)) (((shl .u8 1 (ji27)) - 1) % 256))) x13_4))) (wrap64 (x11_4 + (ji27))) x64_3 (wrap64 (x13_4 + (ji27))) (y505.length : Int) x64_3) else (none)) else (none)) else (none)) else (none)) else (none)) = some (r1, r2) := by first | (rw [hji30] at H; exact H) | (simp only [hji30] at H ⊢; exact H)
             have hji30w : (IntKind.i64.wrap (Int.tdiv x11_4 8)) = ji30 := (i64_w _).trans hji30
             by_cases c31 : 0 ≤ (ji30)
             rotate_left
             ·rw [if_neg c31] at H
              exact absurd H (by simp)
             rw [if_pos c31] at H
             have c31b0 : decide (0 ≤ (ji30)) = true := decide_eq_true c31
             clear c31
             by_cases c32 : (ji30) < (l0.length : Int)
             rotate_left
             ·rw [if_neg c32] at H
              exact absurd H (by simp)
             rw [if_pos c32] at H
             have c32b0 : decide ((ji30) < (l0.length : Int)) = true := decide_eq_true c32
             (try (have c32b0h := c32b0; simp only [hl10_3, hl10_4] at c32b0h))
             clear c32
             obtain ⟨ji33, hji33⟩ : ∃ j_ : Int, (Int.tmod x11_4 8) = j_ := ⟨_, rfl⟩
             replace H : (if 0 ≤ (ji33) then (if 0 ≤ (ji27) then (if 0 ≤ x13_4 then (bits_Unpack.l1 k4 l0 a2 (x10_4.set (x64_3 : Int).toNat (Go.bits .or .u64 (rd x10_4 x64_3) (shl .u64 (IntKind.u64.wrap (Go.bits .and .u8 (shr .u8 (rd l0 (ji30)) (ji33)) (((shl .u8 1 (ji27)) - 1) % 256))) x13_4))) (wrap64 (x11_4 + (ji27))) x64_3 (wrap64 (x13_4 + (ji27))) (y505.length : Int) x64_3) else (none)) else (none)) else (none)) = some (r1, r2) := by first | (rw [hji33] at H; exact H) | (simp only [hji33] at H ⊢; exact H)
             (try (have hji27_ji33 := hji27; rw [hji33] at hji27_ji33))
             (try (have hji27__ji33 := hji27_; rw [hji33] at hji27__ji33))
             (try (have hji27z_ji33 := hji27z; rw [hji33] at hji27z_ji33))
             (try (have hji27w_ji33 := hji27w; rw [hji33] at hji27w_ji33))
             (try (have hji27u_ji33 := hji27u; rw [hji33] at hji27u_ji33))
             (try (have hji27v_ji33 := hji27v; rw [hji33] at hji27v_ji33))
             by_cases c34 : 0 ≤ (ji33)
             rotate_left
             ·rw [if_neg c34] at H
              exact absurd H (by simp)
             rw [if_pos c34] at H
             have c34b0 := eq_true c34
             have c34b1 : decide (0 ≤ (ji33)) = true := decide_eq_true c34
             clear c34
             obtain ⟨ji35, hji35⟩ : ∃ j_ : Int, (shr .u8 (rd l0 (ji30)) (ji33)) = j_ := ⟨_, rfl⟩
             replace H : (if 0 ≤ (ji27) then (if 0 ≤ x13_4 then (bits_Unpack.l1 k4 l0 a2 (x10_4.set (x64_3 : Int).toNat (Go.bits .or .u64 (rd x10_4 x64_3) (shl .u64 (IntKind.u64.wrap (Go.bits .and .u8 (ji35) (((shl .u8 1 (ji27)) - 1) % 256))) x13_4))) (wrap64 (x11_4 + (ji27))) x64_3 (wrap64 (x13_4 + (ji27))) (y505.length : Int) x64_3) else (none)) else (none)) = some (r1, r2) := by first | (rw [hji35] at H; exact H) | (simp only [hji35] at H ⊢; exact H)
             have hji35_ : ((rd l0 (ji30)) / 2 ^ min (ji33).toNat 8) = ji35 := hji35
             have hji35z : (ji33) ≤ 8 → ((rd l0 (ji30)) / 2 ^ (ji33).toNat) = ji35 := shr_small hji35
             by_cases c36 : 0 ≤ (ji27)
             rotate_left
             ·rw [if_neg c36] at H
              exact absurd H (by simp)
             rw [if_pos c36] at H
             have c36b0 := eq_true c36
             have c36b1 : decide (0 ≤ (ji27)) = true := decide_eq_true c36
             clear c36
             obtain ⟨ji37, hji37⟩ : ∃ j_ : Int, (shl .u8 1 (ji27)) = j_ := ⟨_, rfl⟩
             replace H : (if 0 ≤ x13_4 then (bits_Unpack.l1 k4 l0 a2 (x10_4.set (x64_3 : Int).toNat (Go.bits .or .u64 (rd x10_4 x64_3) (shl .u64 (IntKind.u64.wrap (Go.bits .and .u8 (ji35) (((ji37) - 1) % 256))) x13_4))) (wrap64 (x11_4 + (ji27))) x64_3 (wrap64 (x13_4 + (ji27))) (y505.length : Int) x64_3) else (none)) = some (r1, r2) := by first | (rw [hji37] at H; exact H) | (simp only [hji37] at H ⊢; exact H)
             have hji37_ : (IntKind.u8.wrap (1 * 2 ^ min (ji27).toNat 8)) = ji37 := hji37
             have hji37z : (ji27) ≤ 8 → (IntKind.u8.wrap (1 * 2 ^ (ji27).toNat)) = ji37 := shl_small hji37
             have hji37u : (IntKind.u8.wrap (2 ^ min (ji27).toNat 8)) = ji37 := by have h_ := hji37_; rw [Int.one_mul] at h_; exact h_
             have hji37v : (ji27) ≤ 8 → (IntKind.u8.wrap (2 ^ (ji27).toNat)) = ji37 := fun hle_ => by have h_ := hji37z hle_; rw [Int.one_mul] at h_; exact h_
             by_cases c38 : 0 ≤ x13_4
             rotate_left
             ·rw [if_neg c38] at H
              exact absurd H (by simp)
             rw [if_pos c38] at H
             have c38b0 := eq_true c38
             have c38b1 : decide (0 ≤ x13_4) = true := decide_eq_true c38
             clear c38
             obtain ⟨ji39, hji39⟩ : ∃ j_ : Int, (shl .u64 (IntKind.u64.wrap (Go.bits .and .u8 (ji35) (((ji37) - 1) % 256))) x13_4) = j_ := ⟨_, rfl⟩
             replace H : (bits_Unpack.l1 k4 l0 a2 (x10_4.set (x64_3 : Int).toNat (Go.bits .or .u64 (rd x10_4 x64_3) (ji39))) (wrap64 (x11_4 + (ji27))) x64_3 (wrap64 (x13_4 + (ji27))) (y505.length : Int) x64_3) = some (r1, r2) := by first | (rw [hji39] at H; exact H) | (simp only [hji39] at H ⊢; exact H)
             have hji39_ : (IntKind.u64.wrap ((IntKind.u64.wrap (Go.bits .and .u8 (ji35) (((ji37) - 1) % 256))) * 2 ^ min x13_4.toNat 64)) = ji39 := hji39
             have hji39z : x13_4 ≤ 64 → (IntKind.u64.wrap ((IntKind.u64.wrap (Go.bits .and .u8 (ji35) (((ji37) - 1) % 256))) * 2 ^ x13_4.toNat)) = ji39 := shl_small hji39
             obtain ⟨y510, hy510⟩ : ∃ y_ : List Int, y_ = (x10_4.set (x64_3 : Int).toNat (Go.bits .or .u64 (rd x10_4 x64_3) (ji39))) := ⟨_, rfl⟩
             replace H : (bits_Unpack.l1 k4 l0 a2 y510 (wrap64 (x11_4 + (ji27))) x64_3 (wrap64 (x13_4 + (ji27))) (y505.length : Int) x64_3) = some (r1, r2) := by first | (rw [hy510]; with_reducible exact H) | (have H2_ := (Option.bind_some _ _).symm.trans H; rw [hy510]; with_reducible exact H2_) | (have H2_ := (Option.bind_some _ _).symm.trans H; with_reducible exact H2_) | with_reducible exact H | (rw [hy510]; exact H) | exact H
             have Ny510 := Aside0.mk hy510
             clear hy510
             have H' := Aside0.mk H
             clear H
             try go_wp2
             (try (rw [drewN_self wr]; generalize hq_ : World.drewN wr _ = wr; have n0_ : Aside0 (Kd.R (Kd.int .u64) 50 wr w.heap.size (fun _ => True) (.slice Ao24 x10_4.length co24) x10_4) := ⟨by rw [← hq_]; exact (Kd.ru_ HO_10.out)⟩; have n1_ : Aside0 (Below w.heap.size w wr) := ⟨by rw [← hq_]; exact bw_⟩; clear HO_10 HB hq_; have HO_10 := n0_; have HB := n1_; clear n0_ n1_))
             have n0_ := Aside0.mk (Kd.rD_ HO_10.out)
             have n1_ := Aside0.mk (pb1_ HB.out)
             clear HO_10
             clear HB
             have HO_10 := n0_
             have HB := n1_
             clear n0_ n1_
             have p508 : 0 ≤ (x64_3 : Int) := od_
             have q508 : x64_3 < (x10_4.length : Int) := od_
             obtain ⟨ad508, e508, hx508_0⟩ := Kd.at_int (Kd.R_reads' HO_10.out).2.2 x64_3 p508 q508
             cases e508
             replace p508 := eq_true p508
             replace q508 := eq_true q508
             have p509 : 0 ≤ ((ji30) : Int) := od_
             have q509 : (ji30) < (l0.length : Int) := od_
             obtain ⟨ad509, e509, hx509_0⟩ := Kd.at_int HR0.out (ji30) p509 q509
             have hw509_0 := hx509_0
             cases e509
             replace hx509_0 := (HB.out.cell (World.block_lt_of_cell? w _ hx509_0)).trans hx509_0
             replace p509 := eq_true p509
             replace q509 := eq_true q509
             have p40 : 0 ≤ (x64_3 : Int) := od_
             have q40 : (x64_3 : Int) < ((x10_4.length : Int) : Int) := od_
             obtain ⟨go40, co40, eo40, gb40, gl40, cl40, HG40⟩ := Kd.R_form HO_10.out (by omega)
             (first | cases eo40 | (injection eo40 with ea_ en_ ec_; (first | subst ea_ | (injection ea_ with ea_; subst ea_)); subst ec_; clear en_))
             have GB40 := Aside0.mk gb40
             have GG40 := Aside0.mk HG40
             clear gb40 gl40 HG40
             (first | simp only [add_plain] at hx508_0 | skip)
             obtain ⟨hx40_0, hf40_0⟩ := Kd.R_celln 0 HO_10.out (x64_3 : Int) p40 q40
             replace p40 := eq_true p40
             replace q40 := eq_true q40
             have HP42 := Kd.R_putn HO_10.out (x64_3 : Int) (Go.bits .or .u64 (rd x10_4 x64_3) (ji39))
             rw [← Ny510.out] at HP42
             have HQ42 := Aside0.mk HP42
             clear HP42
             refine start_ (n := 22) (S := fun w' => w'.cell? ⟨go40, (x64_3).toNat, none⟩ = some (.int .u64 (rd x10_4 x64_3)) ∧ w'.cell? (ad509.add ((ji30)).toNat) = some (.int .u8 (rd l0 (ji30)))) (ds := [21]) #[false, false, false, false, false, false, false, false, false, false, false, false, false, false, false, false, false, false, false, false, false, false] (by kernel_rfl) rfl rfl ⟨hx508_0, ((HB.out.cell (World.block_lt_of_cell? w _ hw509_0)).trans hw509_0)⟩ (fun hHeld => ?_); refine with_tabW bits_Unpack.tab19 bits_Unpack.bits19 (fun HT_ HW_ => ?_)
             generalize wr.drew = w41 at HO_10 HB GG40 HQ42 hf40_0 hx40_0 hx508_0 hx509_0 hHeld ⊢
             refine pu_ (i := 0) (N := some 77) HT_ #[true, false, false, false, false, false, false, false, false, false, false, false, false, false, false, false, false, false, false, false, false, false] ?_
             refine pu_ (i := 1) (N := some 78) HT_ #[true, true, false, false, false, false, false, false, false, false, false, false, false, false, false, false, false, false, false, false, false, false] ?_
             refine pu_ (i := 2) (N := some 79) HT_ #[true, true, true, false, false, false, false, false, false, false, false, false, false, false, false, false, false, false, false, false, false, false] ?_
             refine pu_ (i := 4) (N := some 81) HT_ #[true, true, true, false, true, false, false, false, false, false, false, false, false, false, false, false, false, false, false, false, false, false] ?_
             refine pu_ (i := 5) (N := some 82) HT_ #[true, true, true, false, true, true, false, false, false, false, false, false, false, false, false, false, false, false, false, false, false, false] ?_
             refine pu_ (i := 6) (N := some 83) HT_ #[true, true, true, false, true, true, true, false, false, false, false, false, false, false, false, false, false, false, false, false, false, false] ?_
             refine pu_ (i := 7) (N := some 84) HT_ #[true, true, true, false, true, true, true, true, false, false, false, false, false, false, false, false, false, false, false, false, false, false] ?_
             refine pu_ (i := 9) (N := some 86) HT_ #[true, true, true, false, true, true, true, true, false, true, false, false, false, false, false, false, false, false, false, false, false, false] ?_
             refine pu_ (i := 10) (N := some 87) HT_ #[true, true, true, false, true, true, true, true, false, true, true, false, false, false, false, false, false, false, false, false, false, false] ?_
             refine pu_ (i := 12) (N := some 89) HT_ #[true, true, true, false, true, true, true, true, false, true, true, false, true, false, false, false, false, false, false, false, false, false] ?_
             refine pu_ (i := 13) (N := some 90) HT_ #[true, true, true, false, true, true, true, true, false, true, true, false, true, true, false, false, false, false, false, false, false, false] ?_
             refine pu_ (i := 14) (N := some 91) HT_ #[true, true, true, false, true, true, true, true, false, true, true, false, true, true, true, false, false, false, false, false, false, false] ?_
             refine pu_ (i := 17) (N := some 94) HT_ #[true, true, true, false, true, true, true, true, false, true, true, false, true, true, true, false, false, true, false, false, false, false] ?_
             refine ta_ (i := 3) (N := some 80) HT_ HW_ #[true, true, true, true, true, true, true, true, false, true, true, false, true, true, true, false, false, true, false, false, false, false] hHeld ?_
             refine ta_ (i := 8) (N := some 85) HT_ HW_ #[true, true, true, true, true, true, true, true, true, true, true, false, true, true, true, false, false, true, false, false, false, false] hHeld ?_
             refine pu_ (i := 11) (N := some 88) HT_ #[true, true, true, true, true, true, true, true, true, true, true, true, true, true, true, false, false, true, false, false, false, false] ?_
             refine pu_ (i := 15) (N := some 92) HT_ #[true, true, true, true, true, true, true, true, true, true, true, true, true, true, true, true, false, true, false, false, false, false] ?_
             refine pu_ (i := 16) (N := some 93) HT_ #[true, true, true, true, true, true, true, true, true, true, true, true, true, true, true, true, true, true, false, false, false, false] ?_
             refine pu_ (i := 18) (N := some 95) HT_ #[true, true, true, true, true, true, true, true, true, true, true, true, true, true, true, true, true, true, true, false, false, false] ?_
             refine pu_ (i := 19) (N := some 96) HT_ #[true, true, true, true, true, true, true, true, true, true, true, true, true, true, true, true, true, true, true, true, false, false] ?_
             refine pu_ (i := 20) (N := some 97) HT_ #[true, true, true, true, true, true, true, true, true, true, true, true, true, true, true, true, true, true, true, true, true, false] ?_
             refine last_ (i := 21) (N := none) #[tT,tT,tT,tT,tT,tT,tT,tT,tT,tT,tT,tT,tT,tT,tT,tT,tT,tT,tT,tT,tT,tT] rfl rfl (one_of HT_.out (by kernel_rfl)) (by decide) (fun K hK => ?_)
             refine skip_ (w1 := ?_) (by rfl) rfl ?_ ?_
             rotate_left
             ·go_simp
              rfl
             refine hK.out _ _ ?_
             clear hK K
             refine done_ (done_of HT_.out (by kernel_rfl)) ?_
             try go_wp2
             (try simp only [← hl10_4])
             (try subst hji39 hji37 hji35 hji33 hji30 hji27)
             go_roundg k4
             case measure => have := HJ3.out; have := HJ10.out; have := HK3.out; have := HK4.out; omega
             case rel => exact ⟨(y510), (wrap64 (x11_4 + ((mn (wrap64 (a2 - x13_4)) (wrap64 (8 - (Int.tmod x11_4 8))))))), (wrap64 (x13_4 + ((mn (wrap64 (a2 - x13_4)) (wrap64 (8 - (Int.tmod x11_4 8))))))), (by first | rfl | (simp; done) | (simp only [← hji27] <;> (first | rfl | simp)) | (simp [*]; done)), (by first | rfl | (simp; done) | (simp only [← hji27] <;> (first | rfl | simp)) | (simp [*]; done)), H', ⟨by have := HJ3.out; have := HJ10.out; have := HK3.out; have := HK4.out; omega⟩, ⟨by (try simp only [hl10_3]); (try simp only [hl10_4]); (with_reducible repeat (first | apply Kd.rA_ | apply Kd.rN_ | apply Kd.rD_)); exact HQ42.out⟩, ⟨by repeat (first | (with_reducible first | exact HB.out | apply pbA_ | apply pbN_ | apply pb1_ | refine below_set ?_ GB40.out) | exact HB.out)⟩⟩
mutual
def pfor_read.j0 : Nat → List Int → Bool → Option (List Int × Int × Bool)
 | 0, _, _ => none
 | k + 1, x0, x33 => if x33 = true then (some (([] : List Int), 0, false)) else (if 0 < (x0.length : Int) then (if 1 ≤ (x0.length : Int) then ((num_Take.f k (x0.drop 1)).bind fun bt515 => (if bt515.2.2 = 0 then (if (x0.length : Int) < (wrap64 ((wrap64 (1 + bt515.2.1)) + 2)) then (pfor_read.j1 k x0 (wrap64 (rd x0 0)) bt515.1 (wrap64 (1 + bt515.2.1)) true) else (if 0 ≤ (wrap64 (1 + bt515.2.1)) then (if (wrap64 (1 + bt515.2.1)) < (x0.length : Int) then (if (rd x0 (wrap64 (1 + bt515.2.1))) > 64 then (pfor_read.j1 k x0 (wrap64 (rd x0 0)) bt515.1 (wrap64 (1 + bt515.2.1)) true) else (if 0 ≤ (wrap64 ((wrap64 (1 + bt515.2.1)) + 1)) then (if (wrap64 ((wrap64 (1 + bt515.2.1)) + 1)) < (x0.length : Int) then (pfor_read.j1 k x0 (wrap64 (rd x0 0)) bt515.1 (wrap64 (1 + bt515.2.1)) (decide ((wrap64 (rd x0 (wrap64 ((wrap64 (1 + bt515.2.1)) + 1)))) > (wrap64 (rd x0 0))))) else (none)) else (none))) else (none)) else (none))) else (pfor_read.j1 k x0 (wrap64 (rd x0 0)) bt515.1 (wrap64 (1 + bt515.2.1)) true))) else (none)) else (none))
def pfor_read.j1 : Nat → List Int → Int → Int → Int → Bool → Option (List Int × Int × Bool)
 | 0, _, _, _, _, _ => none
 | k + 1, x0, x5, x6, x9, x72 => if x72 = true then (some (([] : List Int), 0, false)) else (if 0 ≤ x9 then (if x9 < (x0.length : Int) then (if 0 ≤ (wrap64 (x9 + 1)) then (if (wrap64 (x9 + 1)) < (x0.length : Int) then (if (wrap64 ((wrap64 (x9 + 2)) + (wrap64 (Int.tdiv (wrap64 ((wrap64 (x5 * (wrap64 (rd x0 x9)))) + 7)) 8)))) > (x0.length : Int) then (some (([] : List Int), 0, false)) else (if 0 ≤ (wrap64 (x9 + 2)) then (if (wrap64 (x9 + 2)) ≤ (wrap64 ((wrap64 (x9 + 2)) + (wrap64 (Int.tdiv (wrap64 ((wrap64 (x5 * (wrap64 (rd x0 x9)))) + 7)) 8)))) then (if (wrap64 ((wrap64 (x9 + 2)) + (wrap64 (Int.tdiv (wrap64 ((wrap64 (x5 * (wrap64 (rd x0 x9)))) + 7)) 8)))) ≤ (x0.length : Int) then ((bits_Unpack.f k ((x0.take ((wrap64 ((wrap64 (x9 + 2)) + (wrap64 (Int.tdiv (wrap64 ((wrap64 (x5 * (wrap64 (rd x0 x9)))) + 7)) 8)))) : Int).toNat).drop ((wrap64 (x9 + 2)) : Int).toNat) x5 (wrap64 (rd x0 x9))).bind fun bt523 => (if bt523.2 = 0 then (pfor_read.l0 k x0 x5 x6 (wrap64 ((wrap64 (x9 + 2)) + (wrap64 (Int.tdiv (wrap64 ((wrap64 (x5 * (wrap64 (rd x0 x9)))) + 7)) 8)))) (wrap64 (rd x0 x9)) (wrap64 (rd x0 (wrap64 (x9 + 1)))) bt523.1) else (some (([] : List Int), 0, false)))) else (none)) else (none)) else (none))) else (none)) else (none)) else (none)) else (none))
def pfor_read.l0 : Nat → List Int → Int → Int → Int → Int → Int → List Int → Option (List Int × Int × Bool)
 | 0, _, _, _, _, _, _, _ => none
 | k + 1, x0, x5, x6, x9, x10, x11, x13 => if x11 > 0 then (if x9 ≥ (x0.length : Int) then (pfor_read.j3 k x0 x5 x6 x9 x10 x11 x13 true) else (if 0 ≤ x9 then (if x9 < (x0.length : Int) then (if (wrap64 (rd x0 x9)) ≥ x5 then (pfor_read.j3 k x0 x5 x6 x9 x10 x11 x13 true) else (pfor_read.j3 k x0 x5 x6 x9 x10 x11 x13 (x10 == 64))) else (none)) else (none))) else (pfor_read.l1 k x6 x9 x13 (x13.length : Int) 0)
def pfor_read.j3 : Nat → List Int → Int → Int → Int → Int → Int → List Int → Bool → Option (List Int × Int × Bool)
 | 0, _, _, _, _, _, _, _, _ => none
 | k + 1, x0, x5, x6, x9, x10, x11, x13, x130 => if x130 = true then (some (([] : List Int), 0, false)) else (if 0 ≤ x9 then (if x9 < (x0.length : Int) then (if 0 ≤ (wrap64 (x9 + 1)) then (if (wrap64 (x9 + 1)) ≤ (x0.length : Int) then ((num_Take.f k (x0.drop ((wrap64 (x9 + 1)) : Int).toNat)).bind fun bt530 => (if bt530.2.2 = 0 then (if 0 ≤ (wrap64 (rd x0 x9)) then (if (wrap64 (rd x0 x9)) < (x13.length : Int) then (if 0 ≤ x10 then (pfor_read.l0 k x0 x5 x6 (wrap64 (x9 + (wrap64 (1 + bt530.2.1)))) x10 (wrap64 (x11 - 1)) (x13.set ((wrap64 (rd x0 x9)) : Int).toNat (IntKind.u64.wrap ((rd x13 (wrap64 (rd x0 x9))) + (shl .u64 bt530.1 x10))))) else (none)) else (none)) else (none)) else (some (([] : List Int), 0, false)))) else (none)) else (none)) else (none)) else (none))
def pfor_read.l1 : Nat → Int → Int → List Int → Int → Int → Option (List Int × Int × Bool)
 | 0, _, _, _, _, _ => none
 | k + 1, x6, x9, x13, x161, x162 => if x162 < x161 then (if 0 ≤ x162 then (if x162 < (x13.length : Int) then (pfor_read.l1 k x6 x9 (x13.set (x162 : Int).toNat (IntKind.u64.wrap ((rd x13 x162) + x6))) x161 (wrap64 (x162 + 1))) else (none)) else (none)) else (some (x13, x9, true))
end
def pfor_read.f (k : Nat) (l0 : List Int) : Option (List Int × Int × Bool) := if (l0.length : Int) < 1 then (pfor_read.j0 k l0 true) else (if 0 < (l0.length : Int) then (if (rd l0 0) < 1 then (pfor_read.j0 k l0 true) else (pfor_read.j0 k l0 (decide ((rd l0 0) > 32)))) else (none))
theorem pfor_read.mono_l : ∀ k, (∀ y0 y1, LeO (pfor_read.j0 k y0 y1) (pfor_read.j0 (k + 1) y0 y1)) ∧ (∀ y0 y1 y2 y3 y4, LeO (pfor_read.j1 k y0 y1 y2 y3 y4) (pfor_read.j1 (k + 1) y0 y1 y2 y3 y4)) ∧ (∀ y0 y1 y2 y3 y4 y5 y6, LeO (pfor_read.l0 k y0 y1 y2 y3 y4 y5 y6) (pfor_read.l0 (k + 1) y0 y1 y2 y3 y4 y5 y6)) ∧ (∀ y0 y1 y2 y3 y4 y5 y6 y7, LeO (pfor_read.j3 k y0 y1 y2 y3 y4 y5 y6 y7) (pfor_read.j3 (k + 1) y0 y1 y2 y3 y4 y5 y6 y7)) ∧ (∀ y0 y1 y2 y3 y4, LeO (pfor_read.l1 k y0 y1 y2 y3 y4) (pfor_read.l1 (k + 1) y0 y1 y2 y3 y4))
 | 0 => ⟨fun _ _ r h => by simp [pfor_read.j0] at h, fun _ _ _ _ _ r h => by simp [pfor_read.j1] at h, fun _ _ _ _ _ _ _ r h => by simp [pfor_read.l0] at h, fun _ _ _ _ _ _ _ _ r h => by simp [pfor_read.j3] at h, fun _ _ _ _ _ r h => by simp [pfor_read.l1] at h⟩
 | k + 1 => by
  obtain ⟨ih0, ih1, ih2, ih3, ih4⟩ := pfor_read.mono_l k
  refine ⟨?_, ?_, ?_, ?_, ?_⟩
  ·intro y0 y1
   unfold pfor_read.j0
   repeat' first
   | (with_reducible exact ih0 _ _)
   | (with_reducible exact ih1 _ _ _ _ _)
   | (with_reducible exact ih2 _ _ _ _ _ _ _)
   | (with_reducible exact ih3 _ _ _ _ _ _ _ _)
   | (with_reducible exact ih4 _ _ _ _ _)
   | (with_reducible exact bits_Unpack.mono _ _ _ _)
   | (with_reducible exact num_Take.mono _ _)
   | (with_reducible exact LeO.refl _)
   | (with_reducible exact LeO.none _)
   | (with_reducible refine LeO.ite ?_ ?_)
   | (with_reducible refine LeO.bind ?_ (fun _ => ?_))
  ·intro y0 y1 y2 y3 y4
   unfold pfor_read.j1
   repeat' first
   | (with_reducible exact ih0 _ _)
   | (with_reducible exact ih1 _ _ _ _ _)
   | (with_reducible exact ih2 _ _ _ _ _ _ _)
   | (with_reducible exact ih3 _ _ _ _ _ _ _ _)
   | (with_reducible exact ih4 _ _ _ _ _)
   | (with_reducible exact bits_Unpack.mono _ _ _ _)
   | (with_reducible exact num_Take.mono _ _)
   | (with_reducible exact LeO.refl _)
   | (with_reducible exact LeO.none _)
   | (with_reducible refine LeO.ite ?_ ?_)
   | (with_reducible refine LeO.bind ?_ (fun _ => ?_))
  ·intro y0 y1 y2 y3 y4 y5 y6
   unfold pfor_read.l0
   repeat' first
   | (with_reducible exact ih0 _ _)
   | (with_reducible exact ih1 _ _ _ _ _)
   | (with_reducible exact ih2 _ _ _ _ _ _ _)
   | (with_reducible exact ih3 _ _ _ _ _ _ _ _)
   | (with_reducible exact ih4 _ _ _ _ _)
   | (with_reducible exact bits_Unpack.mono _ _ _ _)
   | (with_reducible exact num_Take.mono _ _)
   | (with_reducible exact LeO.refl _)
   | (with_reducible exact LeO.none _)
   | (with_reducible refine LeO.ite ?_ ?_)
   | (with_reducible refine LeO.bind ?_ (fun _ => ?_))
  ·intro y0 y1 y2 y3 y4 y5 y6 y7
   unfold pfor_read.j3
   repeat' first
   | (with_reducible exact ih0 _ _)
   | (with_reducible exact ih1 _ _ _ _ _)
   | (with_reducible exact ih2 _ _ _ _ _ _ _)
   | (with_reducible exact ih3 _ _ _ _ _ _ _ _)
   | (with_reducible exact ih4 _ _ _ _ _)
   | (with_reducible exact bits_Unpack.mono _ _ _ _)
   | (with_reducible exact num_Take.mono _ _)
   | (with_reducible exact LeO.refl _)
   | (with_reducible exact LeO.none _)
   | (with_reducible refine LeO.ite ?_ ?_)
   | (with_reducible refine LeO.bind ?_ (fun _ => ?_))
  ·intro y0 y1 y2 y3 y4
   unfold pfor_read.l1
   repeat' first
   | (with_reducible exact ih0 _ _)
   | (with_reducible exact ih1 _ _ _ _ _)
   | (with_reducible exact ih2 _ _ _ _ _ _ _)
   | (with_reducible exact ih3 _ _ _ _ _ _ _ _)
   | (with_reducible exact ih4 _ _ _ _ _)
   | (with_reducible exact bits_Unpack.mono _ _ _ _)
   | (with_reducible exact num_Take.mono _ _)
   | (with_reducible exact LeO.refl _)
   | (with_reducible exact LeO.none _)
   | (with_reducible refine LeO.ite ?_ ?_)
   | (with_reducible refine LeO.bind ?_ (fun _ => ?_))
theorem pfor_read.mono : ∀ a0 k, LeO (pfor_read.f k a0) (pfor_read.f (k + 1) a0) := by
 intro a0 k
 obtain ⟨ih0, ih1, ih2, ih3, ih4⟩ := pfor_read.mono_l k
 unfold pfor_read.f
 repeat' first
   | (with_reducible exact ih0 _ _)
   | (with_reducible exact ih1 _ _ _ _ _)
   | (with_reducible exact ih2 _ _ _ _ _ _ _)
   | (with_reducible exact ih3 _ _ _ _ _ _ _ _)
   | (with_reducible exact ih4 _ _ _ _ _)
   | (with_reducible exact bits_Unpack.mono _ _ _ _)
   | (with_reducible exact num_Take.mono _ _)
   | (with_reducible exact LeO.refl _)
   | (with_reducible exact LeO.none _)
   | (with_reducible refine LeO.ite ?_ ?_)
   | (with_reducible refine LeO.bind ?_ (fun _ => ?_))
def pfor_read.T8 : Bool × List (List Nat × List Nat) := (true, [([], []), ([], []), ([0, 1], [0, 1]), ([2], [2]), ([3], [3]), ([], []), ([], []), ([6], [6]), ([5, 7], [5, 7]), ([8], [8]), ([9], [9]), ([4, 0, 1, 2, 3, 4], [4]), ([10, 11, 0, 1, 2, 3, 4, 5, 6, 7, 8, 9, 10, 11], [10])])
def pfor_read.B8 : List Nat := [0, 0, 3, 7, 15, 0, 0, 64, 224, 480, 992, 31, 4095]
theorem pfor_read.tab8 : rtab .any (opsOf Try.f74 8) = pfor_read.T8 := by kernel_rfl
theorem pfor_read.bits8 : waitsOk pfor_read.T8.2 pfor_read.B8 = true := by kernel_rfl
def pfor_read.T25 : Bool × List (List Nat × List Nat) := (true, [([], []), ([], []), ([0, 1], [0, 1]), ([2], [2]), ([], []), ([], []), ([4, 5], [4, 5]), ([3, 6], [3, 6]), ([0, 1, 0, 1, 2, 3, 4, 5, 6, 7], [0, 1]), ([8, 7, 0, 1, 2, 3, 4, 5, 6, 7], [7, 8])])
def pfor_read.B25 : List Nat := [0, 0, 3, 7, 0, 0, 48, 127, 255, 511]
theorem pfor_read.tab25 : rtab .any (opsOf Try.f74 25) = pfor_read.T25 := by kernel_rfl
theorem pfor_read.bits25 : waitsOk pfor_read.T25.2 pfor_read.B25 = true := by kernel_rfl
set_option maxHeartbeats 8000000 in
set_option maxRecDepth 100000 in
theorem pfor_read.calls (k : Nat) (A0 : Option Addr) (c0 : Nat) (l0 : List Int) (r1 : List Int) (r2 : Int) (r3 : Bool) (w : World) (hr0 : Kd.C (Kd.int .u8) w A0 l0.length l0) (hc0 : l0.length ≤ c0) (h : pfor_read.f k l0 = some (r1, r2, r3)) :
  Calls Try.prog 74 #[.slice A0 l0.length c0] w fun e w' => ∃ v0_ : Value, e = .returned (.tuple #[v0_, .int .i64 r2, .bool r3]) ∧ Kd.R (Kd.int .u64) 50 w' w.heap.size (fun _ => True) v0_ r1 ∧ Below w.heap.size w w' := by
 have HR0 := Aside0.mk hr0
 have HC0 := Aside0.mk hc0
 clear hr0 hc0
 have HB := Aside0.mk (Below.refl w.heap.size w)
 have H : (if (l0.length : Int) < 1 then (pfor_read.j0 k l0 true) else (if 0 < (l0.length : Int) then (if (rd l0 0) < 1 then (pfor_read.j0 k l0 true) else (pfor_read.j0 k l0 (decide ((rd l0 0) > 32)))) else (none))) = some (r1, r2, r3) := h
 clear h
 have HC2 := Aside0.mk H
 clear H
 go_enter Try.func74, Try.ntmps74
 go_upto_region 1 with (fail)
 go_cut [33] (fun v33 wc => ∃ (kq : Nat) (x33_1 : Bool), v33 = .bool x33_1 ∧ Aside0 (pfor_read.j0 kq l0 x33_1 = some (r1, r2, r3)) ∧ Aside0 (kq ≤ k) ∧ Aside0 (Below w.heap.size w wc))
 case first =>
  have H := HC2.out
  clear HC2
  by_cases c3 : (l0.length : Int) < 1
  ·rw [if_pos c3] at H
   have c3b0 : decide ((l0.length : Int) < 1) = true := decide_eq_true c3
   have c3b1 : decide (l0.length < 1) = true := decide_eq_true (by omega)
   clear c3
   (first | rw [c3b0] | (simp only [i64_w, i32_w]; rw [c3b0]) | skip)
   have H' := Aside0.mk H
   clear H
   go_wp2
   go_meet
   case rel => exact ⟨_, (true), (by first | rfl | (simp; done) | (simp [*]; done)), H', ⟨by first | omega | exact Nat.le_refl _⟩, ⟨bw_⟩⟩
  ·rw [if_neg c3] at H
   have c3b0 : decide ((l0.length : Int) < 1) = false := decide_eq_false c3
   have c3b1 : decide (l0.length < 1) = false := decide_eq_false (by omega)
   clear c3
   (first | rw [c3b0] | (simp only [i64_w, i32_w]; rw [c3b0]) | skip)
   by_cases c4 : 0 < (l0.length : Int)
   rotate_left
   ·rw [if_neg c4] at H
    exact absurd H (by simp)
   rw [if_pos c4] at H
   have c4b0 : decide (0 < (l0.length : Int)) = true := decide_eq_true c4
   have c4b1 : decide (0 < l0.length) = true := decide_eq_true (by omega)
   clear c4
   by_cases c5 : (rd l0 0) < 1
   ·rw [if_pos c5] at H
    have c5b0 : decide ((rd l0 0) < 1) = true := decide_eq_true c5
    clear c5
    have H' := Aside0.mk H
    clear H
    have p511 : 0 ≤ (0 : Int) := (by omega)
    have q511 : 0 < (l0.length : Int) := od_
    obtain ⟨ad511, e511, hx511_0⟩ := Kd.at_int HR0.out 0 p511 q511
    cases e511
    have qi511 : (0 < l0.length) = True := eq_true (by omega)
    (try rw [show ((0 : Int)).toNat = 0 from rfl] at hx511_0)
    (try rw [Addr.add_zero'] at hx511_0)
    replace hx511_0 := (HB.out.cell (World.block_lt_of_cell? w _ hx511_0)).trans hx511_0
    replace p511 := eq_true p511
    replace q511 := eq_true q511
    go_wp2
    go_meet
    case rel => exact ⟨_, (true), (by first | rfl | (simp; done) | (simp [*]; done)), H', ⟨by first | omega | exact Nat.le_refl _⟩, ⟨bw_⟩⟩
   ·rw [if_neg c5] at H
    have c5b0 : decide ((rd l0 0) < 1) = false := decide_eq_false c5
    clear c5
    have H' := Aside0.mk H
    clear H
    have p511 : 0 ≤ (0 : Int) := (by omega)
    have q511 : 0 < (l0.length : Int) := od_
    obtain ⟨ad511, e511, hx511_0⟩ := Kd.at_int HR0.out 0 p511 q511
    cases e511
    have qi511 : (0 < l0.length) = True := eq_true (by omega)
    (try rw [show ((0 : Int)).toNat = 0 from rfl] at hx511_0)
    (try rw [Addr.add_zero'] at hx511_0)
    replace hx511_0 := (HB.out.cell (World.block_lt_of_cell? w _ hx511_0)).trans hx511_0
    replace p511 := eq_true p511
    replace q511 := eq_true q511
    have p512 : 0 ≤ (0 : Int) := (by omega)
    have q512 : 0 < (l0.length : Int) := od_
    obtain ⟨ad512, e512, hx512_0⟩ := Kd.at_int HR0.out 0 p512 q512
    obtain rfl : ad511 = ad512 := (by injection e512)
    have qi512 : (0 < l0.length) = True := eq_true (by omega)
    (try rw [show ((0 : Int)).toNat = 0 from rfl] at hx512_0)
    (try rw [Addr.add_zero'] at hx512_0)
    replace hx512_0 := (HB.out.cell (World.block_lt_of_cell? w _ hx512_0)).trans hx512_0
    replace p512 := eq_true p512
    replace q512 := eq_true q512
    go_wp2
    go_meet
    case rel => exact ⟨_, (decide ((rd l0 0) > 32)), (by first | rfl | (simp; done) | (simp [*]; done)), H', ⟨by first | omega | exact Nat.le_refl _⟩, ⟨bw_⟩⟩
 case rest =>
  clear HC2
  try clear p2
  try clear c3
  try clear c3b0
  try clear c3b1
  try clear c4
  try clear c4b0
  try clear c4b1
  try clear c5
  try clear c5b0
  try clear p5
  try clear q5
  try clear hx5
  try clear qi5
  try clear hx511_0
  try clear hx512_0
  try clear p511
  try clear p512
  try clear q511
  try clear q512
  obtain ⟨kq, x33_1, rfl, HA, HJ1, HB⟩ := hcut
  cases kq with
  | zero => exact absurd HA.out (by simp [pfor_read.j0])
  | succ kj1 =>
   have H := HA.out
   clear HA
   simp only [pfor_read.j0] at H
   by_cases c6 : x33_1 = true
   ·subst c6
    have H1 : (some (([] : List Int), 0, false)) = some (r1, r2, r3) := by rw [if_pos rfl] at H; exact H
    clear H
    have H := H1
    clear H1
    simp only [Option.some.injEq, Prod.mk.injEq] at H
    obtain ⟨rfl, rfl, rfl⟩ := H
    go_wp2
    go_ret3
    exact ⟨_, rf_, ni_, bw_⟩
   ·replace c6 := Bool.eq_false_iff.mpr c6
    subst c6
    have H1 : (if 0 < (l0.length : Int) then (if 1 ≤ (l0.length : Int) then ((num_Take.f kj1 (l0.drop 1)).bind fun bt515 => (if bt515.2.2 = 0 then (if (l0.length : Int) < (wrap64 ((wrap64 (1 + bt515.2.1)) + 2)) then (pfor_read.j1 kj1 l0 (wrap64 (rd l0 0)) bt515.1 (wrap64 (1 + bt515.2.1)) true) else (if 0 ≤ (wrap64 (1 + bt515.2.1)) then (if (wrap64 (1 + bt515.2.1)) < (l0.length : Int) then (if (rd l0 (wrap64 (1 + bt515.2.1))) > 64 then (pfor_read.j1 kj1 l0 (wrap64 (rd l0 0)) bt515.1 (wrap64 (1 + bt515.2.1)) true) else (if 0 ≤ (wrap64 ((wrap64 (1 + bt515.2.1)) + 1)) then (if (wrap64 ((wrap64 (1 + bt515.2.1)) + 1)) < (l0.length : Int) then (pfor_read.j1 kj1 l0 (wrap64 (rd l0 0)) bt515.1 (wrap64 (1 + bt515.2.1)) (decide ((wrap64 (rd l0 (wrap64 ((wrap64 (1 + bt515.2.1)) + 1)))) > (wrap64 (rd l0 0))))) else (none)) else (none))) else (none)) else (none))) else (pfor_read.j1 kj1 l0 (wrap64 (rd l0 0)) bt515.1 (wrap64 (1 + bt515.2.1)) true))) else (none)) else (none)) = some (r1, r2, r3) := by rw [if_neg (show ¬ (false = true) by decide)] at H; exact H
    clear H
    have H := H1
    clear H1
    by_cases c7 : 0 < (l0.length : Int)
    rotate_left
    ·rw [if_neg c7] at H
     exact absurd H (by simp)
    rw [if_pos c7] at H
    have c7b0 : decide (0 < (l0.length : Int)) = true := decide_eq_true c7
    have c7b1 : decide (0 < l0.length) = true := decide_eq_true (by omega)
    clear c7
    by_cases c8 : 1 ≤ (l0.length : Int)
    rotate_left
    ·rw [if_neg c8] at H
     exact absurd H (by simp)
    rw [if_pos c8] at H
    have c8b0 := eq_true c8
    have c8b1 : decide (1 ≤ (l0.length : Int)) = true := decide_eq_true c8
    clear c8
    replace H := Option.bind_eq_some_iff.mp H
    obtain ⟨⟨t515, t516, t517⟩, A90, H⟩ := H
    replace H : (if t517 = 0 then (if (l0.length : Int) < (wrap64 ((wrap64 (1 + t516)) + 2)) then (pfor_read.j1 kj1 l0 (wrap64 (rd l0 0)) t515 (wrap64 (1 + t516)) true) else (if 0 ≤ (wrap64 (1 + t516)) then (if (wrap64 (1 + t516)) < (l0.length : Int) then (if (rd l0 (wrap64 (1 + t516))) > 64 then (pfor_read.j1 kj1 l0 (wrap64 (rd l0 0)) t515 (wrap64 (1 + t516)) true) else (if 0 ≤ (wrap64 ((wrap64 (1 + t516)) + 1)) then (if (wrap64 ((wrap64 (1 + t516)) + 1)) < (l0.length : Int) then (pfor_read.j1 kj1 l0 (wrap64 (rd l0 0)) t515 (wrap64 (1 + t516)) (decide ((wrap64 (rd l0 (wrap64 ((wrap64 (1 + t516)) + 1)))) > (wrap64 (rd l0 0))))) else (none)) else (none))) else (none)) else (none))) else (pfor_read.j1 kj1 l0 (wrap64 (rd l0 0)) t515 (wrap64 (1 + t516)) true)) = some (r1, r2, r3) := H
    have A9 := Aside0.mk A90
    clear A90
    have HC10 := Aside0.mk H
    clear H
    have p513 : 0 ≤ (0 : Int) := (by omega)
    have q513 : 0 < (l0.length : Int) := od_
    obtain ⟨ad513, e513, hx513_0⟩ := Kd.at_int HR0.out 0 p513 q513
    cases e513
    have qi513 : (0 < l0.length) = True := eq_true (by omega)
    (try rw [show ((0 : Int)).toNat = 0 from rfl] at hx513_0)
    (try rw [Addr.add_zero'] at hx513_0)
    replace hx513_0 := (HB.out.cell (World.block_lt_of_cell? w _ hx513_0)).trans hx513_0
    replace p513 := eq_true p513
    replace q513 := eq_true q513
    obtain ⟨i011, hi011, _, hsz11, _⟩ := info_parts info5
    obtain ⟨A11, hcut11, hA11, hC11⟩ := print_drop_of (P := Try.prog) (Value.int .u8) 0 22 5 .i64 Try.underlying22 hi011 hsz11 (some ad513) c0 l0 1 (by omega) od_ HC0.out
    have HR514 := Aside0.mk (Kd.C_of_reads (h1 := fun _ => rfl) (hA11 _ (Kd.reads_of_C HR0.out)))
    have HC514 := Aside0.mk hC11
    clear hA11 hC11 hi011 hsz11
    go_upto_region 6 with (first | ((with_reducible refine gaC_ (f := 38) rfl ?_); refine goesL_ (some 41) rfl rfl Try.func38 (by kernel_rfl) rfl #[.slice A11 (l0.drop 1).length (c0 - 1)] rfl (by (try simp only [List.map_toArray, List.map_cons, List.map_nil]); first | done | (rw [show (l0.drop 1).length = (l0.length - 1) from List.length_drop] <;> rfl) | rfl | (simp only [List.length_drop, List.length_take]; rfl)) ?_; (with_reducible refine (num_Take.calls kj1 _ _ (l0.drop 1) t515 t516 t517 _ ?side1 ?side2 A9.out).mono ?_); (case side1 => exact Kd.cu_ (Kd.C_below HR514.out HB.out)); (case side2 => exact HC514.out); rintro e w' ⟨rfl, ⟨nd, rfl⟩⟩; refine ⟨_, rfl, ?_⟩))
    (try simp only [Act.put, List.setIfInBounds_toArray, List.set_cons_zero, List.set_cons_succ])
    go_cut [72] (fun v72 wc => ∃ (kq : Nat) (x72_9 : Bool), v72 = .bool x72_9 ∧ Aside0 (pfor_read.j1 kq l0 (wrap64 (rd l0 0)) t515 (wrap64 (1 + t516)) x72_9 = some (r1, r2, r3)) ∧ Aside0 (kq ≤ kj1) ∧ Aside0 (Below w.heap.size w wc))
    case first =>
     have H := HC10.out
     clear HC10
     by_cases c12 : t517 = 0
     rotate_left
     ·rw [if_neg c12] at H
      have c12b0 : (t517 == 0) = false := beq_eq_false_iff_ne.mpr c12
      have c12b1 : (t517 != 0) = true := bne_iff_ne.mpr c12
      (first | rw [c12b0] | (simp only [i64_w, i32_w]; rw [c12b0]) | skip)
      have H' := Aside0.mk H
      clear H
      go_wp2
      go_meet
      case rel => exact ⟨_, (true), (by first | rfl | (simp; done) | (simp [*]; done)), H', ⟨by have := HJ1.out; first | omega | exact Nat.le_refl _⟩, ⟨bw_⟩⟩
     rw [if_pos c12] at H
     have c12b0 : (t517 == 0) = true := beq_iff_eq.mpr c12
     have c12b1 : (t517 != 0) = false := bne_eq_false_iff_eq.mpr c12
     clear c12
     (first | rw [c12b0] | (simp only [i64_w, i32_w]; rw [c12b0]) | skip)
     by_cases c13 : (l0.length : Int) < (wrap64 ((wrap64 (1 + t516)) + 2))
     ·rw [if_pos c13] at H
      have c13b0 : decide ((l0.length : Int) < (wrap64 ((wrap64 (1 + t516)) + 2))) = true := decide_eq_true c13
      clear c13
      have H' := Aside0.mk H
      clear H
      go_wp2
      go_meet
      case rel => exact ⟨_, (true), (by first | rfl | (simp; done) | (simp [*]; done)), H', ⟨by have := HJ1.out; first | omega | exact Nat.le_refl _⟩, ⟨bw_⟩⟩
     ·rw [if_neg c13] at H
      have c13b0 : decide ((l0.length : Int) < (wrap64 ((wrap64 (1 + t516)) + 2))) = false := decide_eq_false c13
      clear c13
      obtain ⟨ji14, hji14⟩ : ∃ j_ : Int, (wrap64 (1 + t516)) = j_ := ⟨_, rfl⟩
      replace H : (if 0 ≤ (ji14) then (if (ji14) < (l0.length : Int) then (if (rd l0 (ji14)) > 64 then (pfor_read.j1 kj1 l0 (wrap64 (rd l0 0)) t515 ji14 true) else (if 0 ≤ (wrap64 ((ji14) + 1)) then (if (wrap64 ((ji14) + 1)) < (l0.length : Int) then (pfor_read.j1 kj1 l0 (wrap64 (rd l0 0)) t515 ji14 (decide ((wrap64 (rd l0 (wrap64 ((ji14) + 1)))) > (wrap64 (rd l0 0))))) else (none)) else (none))) else (none)) else (none)) = some (r1, r2, r3) := by first | (rw [hji14] at H; exact H) | (simp only [hji14] at H ⊢; exact H)
      (try rw [hji14] at c13b0)
      have hji14w : (IntKind.i64.wrap (1 + t516)) = ji14 := (i64_w _).trans hji14
      by_cases c15 : 0 ≤ (ji14)
      rotate_left
      ·rw [if_neg c15] at H
       exact absurd H (by simp)
      rw [if_pos c15] at H
      have c15b0 : decide (0 ≤ (ji14)) = true := decide_eq_true c15
      clear c15
      by_cases c16 : (ji14) < (l0.length : Int)
      rotate_left
      ·rw [if_neg c16] at H
       exact absurd H (by simp)
      rw [if_pos c16] at H
      have c16b0 : decide ((ji14) < (l0.length : Int)) = true := decide_eq_true c16
      clear c16
      by_cases c17 : (rd l0 (ji14)) > 64
      ·rw [if_pos c17] at H
       have c17b0 : decide (64 < (rd l0 (ji14))) = true := decide_eq_true c17
       clear c17
       have H' := Aside0.mk H
       clear H
       have p518 : 0 ≤ ((ji14) : Int) := od_
       have q518 : (ji14) < (l0.length : Int) := od_
       obtain ⟨ad518, e518, hx518_0⟩ := Kd.at_int HR0.out (ji14) p518 q518
       obtain rfl : ad513 = ad518 := (by injection e518)
       replace hx518_0 := (HB.out.cell (World.block_lt_of_cell? w _ hx518_0)).trans hx518_0
       replace p518 := eq_true p518
       replace q518 := eq_true q518
       go_wp2
       (try subst hji14)
       go_meet
       case rel => exact ⟨_, (true), (by first | rfl | (simp; done) | (simp [*]; done)), H', ⟨by have := HJ1.out; first | omega | exact Nat.le_refl _⟩, ⟨bw_⟩⟩
      ·rw [if_neg c17] at H
       have c17b0 : decide (64 < (rd l0 (ji14))) = false := decide_eq_false c17
       clear c17
       obtain ⟨ji18, hji18⟩ : ∃ j_ : Int, (wrap64 ((ji14) + 1)) = j_ := ⟨_, rfl⟩
       replace H : (if 0 ≤ (ji18) then (if (ji18) < (l0.length : Int) then (pfor_read.j1 kj1 l0 (wrap64 (rd l0 0)) t515 ji14 (decide ((wrap64 (rd l0 (ji18))) > (wrap64 (rd l0 0))))) else (none)) else (none)) = some (r1, r2, r3) := by first | (rw [hji18] at H; exact H) | (simp only [hji18] at H ⊢; exact H)
       have hji18w : (IntKind.i64.wrap ((ji14) + 1)) = ji18 := (i64_w _).trans hji18
       by_cases c19 : 0 ≤ (ji18)
       rotate_left
       ·rw [if_neg c19] at H
        exact absurd H (by simp)
       rw [if_pos c19] at H
       have c19b0 : decide (0 ≤ (ji18)) = true := decide_eq_true c19
       clear c19
       by_cases c20 : (ji18) < (l0.length : Int)
       rotate_left
       ·rw [if_neg c20] at H
        exact absurd H (by simp)
       rw [if_pos c20] at H
       have c20b0 : decide ((ji18) < (l0.length : Int)) = true := decide_eq_true c20
       clear c20
       have H' := Aside0.mk H
       clear H
       have p518 : 0 ≤ ((ji14) : Int) := od_
       have q518 : (ji14) < (l0.length : Int) := od_
       obtain ⟨ad518, e518, hx518_0⟩ := Kd.at_int HR0.out (ji14) p518 q518
       obtain rfl : ad513 = ad518 := (by injection e518)
       replace hx518_0 := (HB.out.cell (World.block_lt_of_cell? w _ hx518_0)).trans hx518_0
       replace p518 := eq_true p518
       replace q518 := eq_true q518
       have p519 : 0 ≤ ((ji18) : Int) := od_
       have q519 : (ji18) < (l0.length : Int) := od_
       obtain ⟨ad519, e519, hx519_0⟩ := Kd.at_int HR0.out (ji18) p519 q519
       obtain rfl : ad513 = ad519 := (by injection e519)
       replace hx519_0 := (HB.out.cell (World.block_lt_of_cell? w _ hx519_0)).trans hx519_0
       replace p519 := eq_true p519
       replace q519 := eq_true q519
       go_wp2
       (try subst hji18 hji14)
       go_meet
       case rel => exact ⟨_, (decide ((wrap64 (rd l0 ((wrap64 (((wrap64 (1 + t516))) + 1))))) > (wrap64 (rd l0 0)))), (by first | rfl | (simp; done) | (simp only [← hji18] <;> (first | rfl | simp)) | (simp [*]; done)), H', ⟨by have := HJ1.out; first | omega | exact Nat.le_refl _⟩, ⟨bw_⟩⟩
    case rest =>
     clear HC10
     try clear c1
     try clear c2
     try clear p2
     try clear c3
     try clear c3b0
     try clear c3b1
     try clear c4
     try clear c4b0
     try clear c4b1
     try clear c5
     try clear c5b0
     try clear p5
     try clear q5
     try clear hx5
     try clear qi5
     try clear c6
     try clear p6
     try clear c7
     try clear c7b0
     try clear c7b1
     try clear c8
     try clear c8b0
     try clear c8b1
     try clear c12
     try clear c12b0
     try clear c12b1
     try clear c13
     try clear c13b0
     try clear c15
     try clear c15b0
     try clear c16
     try clear c16b0
     try clear c17
     try clear c17b0
     try clear c19
     try clear c19b0
     try clear c20
     try clear c20b0
     try clear hx511_0
     try clear hx512_0
     try clear hx513_0
     try clear hx518_0
     try clear hx519_0
     try clear p2
     try clear p5
     try clear p511
     try clear p512
     try clear p513
     try clear p518
     try clear p519
     try clear q5
     try clear q511
     try clear q512
     try clear q513
     try clear q518
     try clear q519
     obtain ⟨kq, x72_9, rfl, HA, HJ9, HB⟩ := hcut
     cases kq with
     | zero => exact absurd HA.out (by simp [pfor_read.j1])
     | succ kj9 =>
      have H := HA.out
      clear HA
      simp only [pfor_read.j1] at H
      by_cases c21 : x72_9 = true
      ·subst c21
       have H1 : (some (([] : List Int), 0, false)) = some (r1, r2, r3) := by rw [if_pos rfl] at H; exact H
       clear H
       have H := H1
       clear H1
       simp only [Option.some.injEq, Prod.mk.injEq] at H
       obtain ⟨rfl, rfl, rfl⟩ := H
       go_wp2
       go_ret3
       exact ⟨_, rf_, ni_, bw_⟩
      ·replace c21 := Bool.eq_false_iff.mpr c21
       subst c21
       have H1 : (if 0 ≤ (wrap64 (1 + t516)) then (if (wrap64 (1 + t516)) < (l0.length : Int) then (if 0 ≤ (wrap64 ((wrap64 (1 + t516)) + 1)) then (if (wrap64 ((wrap64 (1 + t516)) + 1)) < (l0.length : Int) then (if (wrap64 ((wrap64 ((wrap64 (1 + t516)) + 2)) + (wrap64 (Int.tdiv (wrap64 ((wrap64 ((wrap64 (rd l0 0)) * (wrap64 (rd l0 (wrap64 (1 + t516)))))) + 7)) 8)))) > (l0.length : Int) then (some (([] : List Int), 0, false)) else (if 0 ≤ (wrap64 ((wrap64 (1 + t516)) + 2)) then (if (wrap64 ((wrap64 (1 + t516)) + 2)) ≤ (wrap64 ((wrap64 ((wrap64 (1 + t516)) + 2)) + (wrap64 (Int.tdiv (wrap64 ((wrap64 ((wrap64 (rd l0 0)) * (wrap64 (rd l0 (wrap64 (1 + t516)))))) + 7)) 8)))) then (if (wrap64 ((wrap64 ((wrap64 (1 + t516)) + 2)) + (wrap64 (Int.tdiv (wrap64 ((wrap64 ((wrap64 (rd l0 0)) * (wrap64 (rd l0 (wrap64 (1 + t516)))))) + 7)) 8)))) ≤ (l0.length : Int) then ((bits_Unpack.f kj9 ((l0.take ((wrap64 ((wrap64 ((wrap64 (1 + t516)) + 2)) + (wrap64 (Int.tdiv (wrap64 ((wrap64 ((wrap64 (rd l0 0)) * (wrap64 (rd l0 (wrap64 (1 + t516)))))) + 7)) 8)))) : Int).toNat).drop ((wrap64 ((wrap64 (1 + t516)) + 2)) : Int).toNat) (wrap64 (rd l0 0)) (wrap64 (rd l0 (wrap64 (1 + t516))))).bind fun bt523 => (if bt523.2 = 0 then (pfor_read.l0 kj9 l0 (wrap64 (rd l0 0)) t515 (wrap64 ((wrap64 ((wrap64 (1 + t516)) + 2)) + (wrap64 (Int.tdiv (wrap64 ((wrap64 ((wrap64 (rd l0 0)) * (wrap64 (rd l0 (wrap64 (1 + t516)))))) + 7)) 8)))) (wrap64 (rd l0 (wrap64 (1 + t516)))) (wrap64 (rd l0 (wrap64 ((wrap64 (1 + t516)) + 1)))) bt523.1) else (some (([] : List Int), 0, false)))) else (none)) else (none)) else (none))) else (none)) else (none)) else (none)) else (none)) = some (r1, r2, r3) := by rw [if_neg (show ¬ (false = true) by decide)] at H; exact H
       clear H
       have H := H1
       clear H1
       obtain ⟨ji22, hji22⟩ : ∃ j_ : Int, (wrap64 (1 + t516)) = j_ := ⟨_, rfl⟩
       replace H : (if 0 ≤ (ji22) then (if (ji22) < (l0.length : Int) then (if 0 ≤ (wrap64 ((ji22) + 1)) then (if (wrap64 ((ji22) + 1)) < (l0.length : Int) then (if (wrap64 ((wrap64 ((ji22) + 2)) + (wrap64 (Int.tdiv (wrap64 ((wrap64 ((wrap64 (rd l0 0)) * (wrap64 (rd l0 (ji22))))) + 7)) 8)))) > (l0.length : Int) then (some (([] : List Int), 0, false)) else (if 0 ≤ (wrap64 ((ji22) + 2)) then (if (wrap64 ((ji22) + 2)) ≤ (wrap64 ((wrap64 ((ji22) + 2)) + (wrap64 (Int.tdiv (wrap64 ((wrap64 ((wrap64 (rd l0 0)) * (wrap64 (rd l0 (ji22))))) + 7)) 8)))) then (if (wrap64 ((wrap64 ((ji22) + 2)) + (wrap64 (Int.tdiv (wrap64 ((wrap64 ((wrap64 (rd l0 0)) * (wrap64 (rd l0 (ji22))))) + 7)) 8)))) ≤ (l0.length : Int) then ((bits_Unpack.f kj9 ((l0.take ((wrap64 ((wrap64 ((ji22) + 2)) + (wrap64 (Int.tdiv (wrap64 ((wrap64 ((wrap64 (rd l0 0)) * (wrap64 (rd l0 (ji22))))) + 7)) 8)))) : Int).toNat).drop ((wrap64 ((ji22) + 2)) : Int).toNat) (wrap64 (rd l0 0)) (wrap64 (rd l0 (ji22)))).bind fun bt523 => (if bt523.2 = 0 then (pfor_read.l0 kj9 l0 (wrap64 (rd l0 0)) t515 (wrap64 ((wrap64 ((ji22) + 2)) + (wrap64 (Int.tdiv (wrap64 ((wrap64 ((wrap64 (rd l0 0)) * (wrap64 (rd l0 (ji22))))) + 7)) 8)))) (wrap64 (rd l0 (ji22))) (wrap64 (rd l0 (wrap64 ((ji22) + 1)))) bt523.1) else (some (([] : List Int), 0, false)))) else (none)) else (none)) else (none))) else (none)) else (none)) else (none)) else (none)) = some (r1, r2, r3) := by first | (rw [hji22] at H; exact H) | (simp only [hji22] at H ⊢; exact H)
       have hji22w : (IntKind.i64.wrap (1 + t516)) = ji22 := (i64_w _).trans hji22
       by_cases c23 : 0 ≤ (ji22)
       rotate_left
       ·rw [if_neg c23] at H
        exact absurd H (by simp)
       rw [if_pos c23] at H
       have c23b0 : decide (0 ≤ (ji22)) = true := decide_eq_true c23
       clear c23
       by_cases c24 : (ji22) < (l0.length : Int)
       rotate_left
       ·rw [if_neg c24] at H
        exact absurd H (by simp)
       rw [if_pos c24] at H
       have c24b0 : decide ((ji22) < (l0.length : Int)) = true := decide_eq_true c24
       clear c24
       obtain ⟨ji25, hji25⟩ : ∃ j_ : Int, (wrap64 ((ji22) + 1)) = j_ := ⟨_, rfl⟩
       replace H : (if 0 ≤ (ji25) then (if (ji25) < (l0.length : Int) then (if (wrap64 ((wrap64 ((ji22) + 2)) + (wrap64 (Int.tdiv (wrap64 ((wrap64 ((wrap64 (rd l0 0)) * (wrap64 (rd l0 (ji22))))) + 7)) 8)))) > (l0.length : Int) then (some (([] : List Int), 0, false)) else (if 0 ≤ (wrap64 ((ji22) + 2)) then (if (wrap64 ((ji22) + 2)) ≤ (wrap64 ((wrap64 ((ji22) + 2)) + (wrap64 (Int.tdiv (wrap64 ((wrap64 ((wrap64 (rd l0 0)) * (wrap64 (rd l0 (ji22))))) + 7)) 8)))) then (if (wrap64 ((wrap64 ((ji22) + 2)) + (wrap64 (Int.tdiv (wrap64 ((wrap64 ((wrap64 (rd l0 0)) * (wrap64 (rd l0 (ji22))))) + 7)) 8)))) ≤ (l0.length : Int) then ((bits_Unpack.f kj9 ((l0.take ((wrap64 ((wrap64 ((ji22) + 2)) + (wrap64 (Int.tdiv (wrap64 ((wrap64 ((wrap64 (rd l0 0)) * (wrap64 (rd l0 (ji22))))) + 7)) 8)))) : Int).toNat).drop ((wrap64 ((ji22) + 2)) : Int).toNat) (wrap64 (rd l0 0)) (wrap64 (rd l0 (ji22)))).bind fun bt523 => (if bt523.2 = 0 then (pfor_read.l0 kj9 l0 (wrap64 (rd l0 0)) t515 (wrap64 ((wrap64 ((ji22) + 2)) + (wrap64 (Int.tdiv (wrap64 ((wrap64 ((wrap64 (rd l0 0)) * (wrap64 (rd l0 (ji22))))) + 7)) 8)))) (wrap64 (rd l0 (ji22))) (wrap64 (rd l0 (ji25))) bt523.1) else (some (([] : List Int), 0, false)))) else (none)) else (none)) else (none))) else (none)) else (none)) = some (r1, r2, r3) := by first | (rw [hji25] at H; exact H) | (simp only [hji25] at H ⊢; exact H)
       have hji25w : (IntKind.i64.wrap ((ji22) + 1)) = ji25 := (i64_w _).trans hji25
       by_cases c26 : 0 ≤ (ji25)
       rotate_left
       ·rw [if_neg c26] at H
        exact absurd H (by simp)
       rw [if_pos c26] at H
       have c26b0 : decide (0 ≤ (ji25)) = true := decide_eq_true c26
       clear c26
       by_cases c27 : (ji25) < (l0.length : Int)
       rotate_left
       ·rw [if_neg c27] at H
        exact absurd H (by simp)
       rw [if_pos c27] at H
       have c27b0 : decide ((ji25) < (l0.length : Int)) = true := decide_eq_true c27
       clear c27
       by_cases c28 : (wrap64 ((wrap64 ((ji22) + 2)) + (wrap64 (Int.tdiv (wrap64 ((wrap64 ((wrap64 (rd l0 0)) * (wrap64 (rd l0 (ji22))))) + 7)) 8)))) > (l0.length : Int)
       ·rw [if_pos c28] at H
        have c28b0 : decide ((l0.length : Int) < (wrap64 ((wrap64 ((ji22) + 2)) + (wrap64 (Int.tdiv (wrap64 ((wrap64 ((wrap64 (rd l0 0)) * (wrap64 (rd l0 (ji22))))) + 7)) 8))))) = true := decide_eq_true c28
        clear c28
        simp only [Option.some.injEq, Prod.mk.injEq] at H
        obtain ⟨rfl, rfl, rfl⟩ := H
        try go_wp2
        (try (rw [drewN_self wc]; generalize hq_ : World.drewN wc _ = wc; have n0_ : Aside0 (Below w.heap.size w wc) := ⟨by rw [← hq_]; exact bw_⟩; clear HB hq_; have HB := n0_; clear n0_))
        have n0_ := Aside0.mk (pb1_ HB.out)
        clear HB
        have HB := n0_
        clear n0_
        have p520 : 0 ≤ ((ji22) : Int) := od_
        have q520 : (ji22) < (l0.length : Int) := od_
        obtain ⟨ad520, e520, hx520_0⟩ := Kd.at_int HR0.out (ji22) p520 q520
        have hw520_0 := hx520_0
        obtain rfl : ad513 = ad520 := (by injection e520)
        replace hx520_0 := (HB.out.cell (World.block_lt_of_cell? w _ hx520_0)).trans hx520_0
        replace p520 := eq_true p520
        replace q520 := eq_true q520
        have p521 : 0 ≤ ((ji25) : Int) := od_
        have q521 : (ji25) < (l0.length : Int) := od_
        obtain ⟨ad521, e521, hx521_0⟩ := Kd.at_int HR0.out (ji25) p521 q521
        have hw521_0 := hx521_0
        obtain rfl : ad513 = ad521 := (by injection e521)
        replace hx521_0 := (HB.out.cell (World.block_lt_of_cell? w _ hx521_0)).trans hx521_0
        replace p521 := eq_true p521
        replace q521 := eq_true q521
        refine start_ (n := 13) (S := fun w' => w'.cell? (ad513.add ((ji22)).toNat) = some (.int .u8 (rd l0 (ji22))) ∧ w'.cell? (ad513.add ((ji25)).toNat) = some (.int .u8 (rd l0 (ji25)))) (ds := []) #[false, false, false, false, false, false, false, false, false, false, false, false, false] (by kernel_rfl) rfl rfl ⟨((HB.out.cell (World.block_lt_of_cell? w _ hw520_0)).trans hw520_0), ((HB.out.cell (World.block_lt_of_cell? w _ hw521_0)).trans hw521_0)⟩ (fun hHeld => ?_); refine with_tabW pfor_read.tab8 pfor_read.bits8 (fun HT_ HW_ => ?_)
        generalize wc.drew = w29 at HB hx520_0 hx521_0 hHeld ⊢
        refine pu_ (i := 0) (N := some 73) HT_ #[true, false, false, false, false, false, false, false, false, false, false, false, false] ?_
        refine pu_ (i := 1) (N := some 74) HT_ #[true, true, false, false, false, false, false, false, false, false, false, false, false] ?_
        refine pu_ (i := 2) (N := some 75) HT_ #[true, true, true, false, false, false, false, false, false, false, false, false, false] ?_
        refine pu_ (i := 5) (N := some 78) HT_ #[true, true, true, false, false, true, false, false, false, false, false, false, false] ?_
        refine pu_ (i := 6) (N := some 79) HT_ #[true, true, true, false, false, true, true, false, false, false, false, false, false] ?_
        refine pu_ (i := 7) (N := some 80) HT_ #[true, true, true, false, false, true, true, true, false, false, false, false, false] ?_
        refine pu_ (i := 8) (N := some 81) HT_ #[true, true, true, false, false, true, true, true, true, false, false, false, false] ?_
        refine ta_ (i := 3) (N := some 76) HT_ HW_ #[true, true, true, true, false, true, true, true, true, false, false, false, false] hHeld ?_
        refine pu_ (i := 4) (N := some 77) HT_ #[true, true, true, true, true, true, true, true, true, false, false, false, false] ?_
        refine pu_ (i := 11) (N := some 10) HT_ #[true, true, true, true, true, true, true, true, true, false, false, true, false] ?_
        refine ta_ (i := 9) (N := some 82) HT_ HW_ #[true, true, true, true, true, true, true, true, true, true, false, true, false] hHeld ?_
        refine pu_ (i := 10) (N := some 83) HT_ #[true, true, true, true, true, true, true, true, true, true, true, true, false] ?_
        refine pu_ (i := 12) (N := some 11) HT_ #[true, true, true, true, true, true, true, true, true, true, true, true, true] ?_
        refine done_ (done_of HT_.out (by kernel_rfl)) ?_
        try go_wp2
        go_ret3
        exact ⟨_, by first | rfl | (simp [eWn_, eWs_] <;> rfl) | (simp only [← hji22, ← hji25]; first | rfl | (simp [eWn_, eWs_] <;> rfl)) | (simp [*, eWn_, eWs_] <;> rfl), ni_, bw_⟩
       ·rw [if_neg c28] at H
        have c28b0 : decide ((l0.length : Int) < (wrap64 ((wrap64 ((ji22) + 2)) + (wrap64 (Int.tdiv (wrap64 ((wrap64 ((wrap64 (rd l0 0)) * (wrap64 (rd l0 (ji22))))) + 7)) 8))))) = false := decide_eq_false c28
        clear c28
        obtain ⟨ji30, hji30⟩ : ∃ j_ : Int, (wrap64 ((ji22) + 2)) = j_ := ⟨_, rfl⟩
        replace H : (if 0 ≤ (ji30) then (if (ji30) ≤ (wrap64 ((ji30) + (wrap64 (Int.tdiv (wrap64 ((wrap64 ((wrap64 (rd l0 0)) * (wrap64 (rd l0 (ji22))))) + 7)) 8)))) then (if (wrap64 ((ji30) + (wrap64 (Int.tdiv (wrap64 ((wrap64 ((wrap64 (rd l0 0)) * (wrap64 (rd l0 (ji22))))) + 7)) 8)))) ≤ (l0.length : Int) then ((bits_Unpack.f kj9 ((l0.take ((wrap64 ((ji30) + (wrap64 (Int.tdiv (wrap64 ((wrap64 ((wrap64 (rd l0 0)) * (wrap64 (rd l0 (ji22))))) + 7)) 8)))) : Int).toNat).drop ((ji30) : Int).toNat) (wrap64 (rd l0 0)) (wrap64 (rd l0 (ji22)))).bind fun bt523 => (if bt523.2 = 0 then (pfor_read.l0 kj9 l0 (wrap64 (rd l0 0)) t515 (wrap64 ((ji30) + (wrap64 (Int.tdiv (wrap64 ((wrap64 ((wrap64 (rd l0 0)) * (wrap64 (rd l0 (ji22))))) + 7)) 8)))) (wrap64 (rd l0 (ji22))) (wrap64 (rd l0 (ji25))) bt523.1) else (some (([] : List Int), 0, false)))) else (none)) else (none)) else (none)) = some (r1, r2, r3) := by first | (rw [hji30] at H; exact H) | (simp only [hji30] at H ⊢; exact H)
        (try rw [hji30] at c28b0)
        have hji30w : (IntKind.i64.wrap ((ji22) + 2)) = ji30 := (i64_w _).trans hji30
        by_cases c31 : 0 ≤ (ji30)
        rotate_left
        ·rw [if_neg c31] at H
         exact absurd H (by simp)
        rw [if_pos c31] at H
        have c31b0 := eq_true c31
        have c31b1 : decide (0 ≤ (ji30)) = true := decide_eq_true c31
        clear c31
        by_cases c32 : (ji30) ≤ (wrap64 ((ji30) + (wrap64 (Int.tdiv (wrap64 ((wrap64 ((wrap64 (rd l0 0)) * (wrap64 (rd l0 (ji22))))) + 7)) 8))))
        rotate_left
        ·rw [if_neg c32] at H
         exact absurd H (by simp)
        rw [if_pos c32] at H
        have c32b0 := eq_true c32
        have c32b1 : decide ((ji30) ≤ (wrap64 ((ji30) + (wrap64 (Int.tdiv (wrap64 ((wrap64 ((wrap64 (rd l0 0)) * (wrap64 (rd l0 (ji22))))) + 7)) 8))))) = true := decide_eq_true c32
        by_cases c33 : (wrap64 ((ji30) + (wrap64 (Int.tdiv (wrap64 ((wrap64 ((wrap64 (rd l0 0)) * (wrap64 (rd l0 (ji22))))) + 7)) 8)))) ≤ (l0.length : Int)
        rotate_left
        ·rw [if_neg c33] at H
         exact absurd H (by simp)
        rw [if_pos c33] at H
        have c33b0 := eq_true c33
        have c33b1 : decide ((wrap64 ((ji30) + (wrap64 (Int.tdiv (wrap64 ((wrap64 ((wrap64 (rd l0 0)) * (wrap64 (rd l0 (ji22))))) + 7)) 8)))) ≤ (l0.length : Int)) = true := decide_eq_true c33
        replace H := Option.bind_eq_some_iff.mp H
        obtain ⟨⟨t523, t524⟩, A340, H⟩ := H
        replace H : (if t524 = 0 then (pfor_read.l0 kj9 l0 (wrap64 (rd l0 0)) t515 (wrap64 ((ji30) + (wrap64 (Int.tdiv (wrap64 ((wrap64 ((wrap64 (rd l0 0)) * (wrap64 (rd l0 (ji22))))) + 7)) 8)))) (wrap64 (rd l0 (ji22))) (wrap64 (rd l0 (ji25))) t523) else (some (([] : List Int), 0, false))) = some (r1, r2, r3) := H
        have A34 := Aside0.mk A340
        clear A340
        by_cases c35 : t524 = 0
        rotate_left
        ·rw [if_neg c35] at H
         have c35b0 : (t524 == 0) = false := beq_eq_false_iff_ne.mpr c35
         have c35b1 : (t524 != 0) = true := bne_iff_ne.mpr c35
         simp only [Option.some.injEq, Prod.mk.injEq] at H
         obtain ⟨rfl, rfl, rfl⟩ := H
         try go_wp2
         (try (rw [drewN_self wc]; generalize hq_ : World.drewN wc _ = wc; have n0_ : Aside0 (Below w.heap.size w wc) := ⟨by rw [← hq_]; exact bw_⟩; clear HB hq_; have HB := n0_; clear n0_))
         have n0_ := Aside0.mk (pb1_ HB.out)
         clear HB
         have HB := n0_
         clear n0_
         have p520 : 0 ≤ ((ji22) : Int) := od_
         have q520 : (ji22) < (l0.length : Int) := od_
         obtain ⟨ad520, e520, hx520_0⟩ := Kd.at_int HR0.out (ji22) p520 q520
         have hw520_0 := hx520_0
         obtain rfl : ad513 = ad520 := (by injection e520)
         replace hx520_0 := (HB.out.cell (World.block_lt_of_cell? w _ hx520_0)).trans hx520_0
         replace p520 := eq_true p520
         replace q520 := eq_true q520
         have p521 : 0 ≤ ((ji25) : Int) := od_
         have q521 : (ji25) < (l0.length : Int) := od_
         obtain ⟨ad521, e521, hx521_0⟩ := Kd.at_int HR0.out (ji25) p521 q521
         have hw521_0 := hx521_0
         obtain rfl : ad513 = ad521 := (by injection e521)
         replace hx521_0 := (HB.out.cell (World.block_lt_of_cell? w _ hx521_0)).trans hx521_0
         replace p521 := eq_true p521
         replace q521 := eq_true q521
         refine start_ (n := 13) (S := fun w' => w'.cell? (ad513.add ((ji22)).toNat) = some (.int .u8 (rd l0 (ji22))) ∧ w'.cell? (ad513.add ((ji25)).toNat) = some (.int .u8 (rd l0 (ji25)))) (ds := []) #[false, false, false, false, false, false, false, false, false, false, false, false, false] (by kernel_rfl) rfl rfl ⟨((HB.out.cell (World.block_lt_of_cell? w _ hw520_0)).trans hw520_0), ((HB.out.cell (World.block_lt_of_cell? w _ hw521_0)).trans hw521_0)⟩ (fun hHeld => ?_); refine with_tabW pfor_read.tab8 pfor_read.bits8 (fun HT_ HW_ => ?_)
         generalize wc.drew = w72 at HB hx520_0 hx521_0 hHeld ⊢
         refine pu_ (i := 0) (N := some 73) HT_ #[true, false, false, false, false, false, false, false, false, false, false, false, false] ?_
         refine pu_ (i := 1) (N := some 74) HT_ #[true, true, false, false, false, false, false, false, false, false, false, false, false] ?_
         refine pu_ (i := 2) (N := some 75) HT_ #[true, true, true, false, false, false, false, false, false, false, false, false, false] ?_
         refine pu_ (i := 5) (N := some 78) HT_ #[true, true, true, false, false, true, false, false, false, false, false, false, false] ?_
         refine pu_ (i := 6) (N := some 79) HT_ #[true, true, true, false, false, true, true, false, false, false, false, false, false] ?_
         refine pu_ (i := 7) (N := some 80) HT_ #[true, true, true, false, false, true, true, true, false, false, false, false, false] ?_
         refine pu_ (i := 8) (N := some 81) HT_ #[true, true, true, false, false, true, true, true, true, false, false, false, false] ?_
         refine ta_ (i := 3) (N := some 76) HT_ HW_ #[true, true, true, true, false, true, true, true, true, false, false, false, false] hHeld ?_
         refine pu_ (i := 4) (N := some 77) HT_ #[true, true, true, true, true, true, true, true, true, false, false, false, false] ?_
         refine pu_ (i := 11) (N := some 10) HT_ #[true, true, true, true, true, true, true, true, true, false, false, true, false] ?_
         refine ta_ (i := 9) (N := some 82) HT_ HW_ #[true, true, true, true, true, true, true, true, true, true, false, true, false] hHeld ?_
         refine pu_ (i := 10) (N := some 83) HT_ #[true, true, true, true, true, true, true, true, true, true, true, true, false] ?_
         refine pu_ (i := 12) (N := some 11) HT_ #[true, true, true, true, true, true, true, true, true, true, true, true, true] ?_
         refine done_ (done_of HT_.out (by kernel_rfl)) ?_
         obtain ⟨i073, hi073, _, hsz73, _⟩ := info_parts info5
         obtain ⟨A73, hcut73, hA73, hC73⟩ := print_mid_of (P := Try.prog) (Value.int .u8) 0 22 5 .i64 .i64 Try.underlying22 hi073 hsz73 (some ad513) c0 l0 (ji30) (wrap64 ((ji30) + (wrap64 (Int.tdiv (wrap64 ((wrap64 ((wrap64 (rd l0 0)) * (wrap64 (rd l0 (ji22))))) + 7)) 8)))) od_ (by first | omega | exact od_) od_ HC0.out
         have HR522 := Aside0.mk (Kd.C_of_reads (h1 := fun _ => rfl) (hA73 _ (Kd.reads_of_C HR0.out)))
         have HC522 := Aside0.mk hC73
         clear hA73 hC73 hi073 hsz73
         try go_wp2_with (first | ((with_reducible refine gaC_ (f := 39) rfl ?_); refine goesL_ (some 104) rfl rfl Try.func39 (by kernel_rfl) rfl #[.slice A73 ((l0.take ((wrap64 ((ji30) + (wrap64 (Int.tdiv (wrap64 ((wrap64 ((wrap64 (rd l0 0)) * (wrap64 (rd l0 (ji22))))) + 7)) 8)))) : Int).toNat).drop ((ji30) : Int).toNat).length (c0 - (ji30).toNat), .int .i64 (wrap64 (rd l0 0)), .int .i64 (wrap64 (rd l0 (ji22)))] rfl (by (try simp only [List.map_toArray, List.map_cons, List.map_nil]); first | done | (rw [show ((l0.take ((wrap64 ((ji30) + (wrap64 (Int.tdiv (wrap64 ((wrap64 ((wrap64 (rd l0 0)) * (wrap64 (rd l0 (ji22))))) + 7)) 8)))) : Int).toNat).drop ((ji30) : Int).toNat).length = ((wrap64 ((ji30) + (wrap64 (Int.tdiv (wrap64 ((wrap64 ((wrap64 (rd l0 0)) * (wrap64 (rd l0 (ji22))))) + 7)) 8)))).toNat - (ji30).toNat) from (by rw [List.length_drop, List.length_take]; have h_ : ((wrap64 ((ji30) + (wrap64 (Int.tdiv (wrap64 ((wrap64 ((wrap64 (rd l0 0)) * (wrap64 (rd l0 (ji22))))) + 7)) 8)))) : Int) ≤ (l0.length : Int) := od_; omega)] <;> rfl) | (simp only [hji22, hji30]; rfl) | rfl | (simp only [List.length_drop, List.length_take]; rfl)) ?_; (with_reducible refine (bits_Unpack.calls kj9 _ _ ((l0.take ((wrap64 ((ji30) + (wrap64 (Int.tdiv (wrap64 ((wrap64 ((wrap64 (rd l0 0)) * (wrap64 (rd l0 (ji22))))) + 7)) 8)))) : Int).toNat).drop ((ji30) : Int).toNat) (wrap64 (rd l0 0)) (wrap64 (rd l0 (ji22))) t523 t524 _ ?side1 ?side2 A34.out).mono ?_); (case side1 => exact Kd.cu_ (Kd.C_below HR522.out HB.out)); (case side2 => exact HC522.out); rintro e w74 ⟨v525, rfl, ho0, hb⟩; refine ⟨_, rfl, ?_⟩; have HO526 := Aside0.mk (Kd.R_lower ho0 (pbS_ bw_)); replace HB := Aside0.mk (below_step bw_ hb); (try clear hb); (try clear hb2); (try clear hk); (try clear hi); (try clear ho0)))
         go_ret3
         exact ⟨_, by first | rfl | (simp [eWn_, eWs_] <;> rfl) | (simp only [← hji22, ← hji25, ← hji30]; first | rfl | (simp [eWn_, eWs_] <;> rfl)) | (simp [*, eWn_, eWs_] <;> rfl), ni_, bw_⟩
        rw [if_pos c35] at H
        have c35b0 : (t524 == 0) = true := beq_iff_eq.mpr c35
        have c35b1 : (t524 != 0) = false := bne_eq_false_iff_eq.mpr c35
        clear c35
        have H' := Aside0.mk H
        clear H
        try go_wp2
        (try (rw [drewN_self wc]; generalize hq_ : World.drewN wc _ = wc; have n0_ : Aside0 (Below w.heap.size w wc) := ⟨by rw [← hq_]; exact bw_⟩; clear HB hq_; have HB := n0_; clear n0_))
        have n0_ := Aside0.mk (pb1_ HB.out)
        clear HB
        have HB := n0_
        clear n0_
        have p520 : 0 ≤ ((ji22) : Int) := od_
        have q520 : (ji22) < (l0.length : Int) := od_
        obtain ⟨ad520, e520, hx520_0⟩ := Kd.at_int HR0.out (ji22) p520 q520
        have hw520_0 := hx520_0
        obtain rfl : ad513 = ad520 := (by injection e520)
        replace hx520_0 := (HB.out.cell (World.block_lt_of_cell? w _ hx520_0)).trans hx520_0
        replace p520 := eq_true p520
        replace q520 := eq_true q520
        have p521 : 0 ≤ ((ji25) : Int) := od_
        have q521 : (ji25) < (l0.length : Int) := od_
        obtain ⟨ad521, e521, hx521_0⟩ := Kd.at_int HR0.out (ji25) p521 q521
        have hw521_0 := hx521_0
        obtain rfl : ad513 = ad521 := (by injection e521)
        replace hx521_0 := (HB.out.cell (World.block_lt_of_cell? w _ hx521_0)).trans hx521_0
        replace p521 := eq_true p521
        replace q521 := eq_true q521
        refine start_ (n := 13) (S := fun w' => w'.cell? (ad513.add ((ji22)).toNat) = some (.int .u8 (rd l0 (ji22))) ∧ w'.cell? (ad513.add ((ji25)).toNat) = some (.int .u8 (rd l0 (ji25)))) (ds := []) #[false, false, false, false, false, false, false, false, false, false, false, false, false] (by kernel_rfl) rfl rfl ⟨((HB.out.cell (World.block_lt_of_cell? w _ hw520_0)).trans hw520_0), ((HB.out.cell (World.block_lt_of_cell? w _ hw521_0)).trans hw521_0)⟩ (fun hHeld => ?_); refine with_tabW pfor_read.tab8 pfor_read.bits8 (fun HT_ HW_ => ?_)
        generalize wc.drew = w36 at HB hx520_0 hx521_0 hHeld ⊢
        refine pu_ (i := 0) (N := some 73) HT_ #[true, false, false, false, false, false, false, false, false, false, false, false, false] ?_
        refine pu_ (i := 1) (N := some 74) HT_ #[true, true, false, false, false, false, false, false, false, false, false, false, false] ?_
        refine pu_ (i := 2) (N := some 75) HT_ #[true, true, true, false, false, false, false, false, false, false, false, false, false] ?_
        refine pu_ (i := 5) (N := some 78) HT_ #[true, true, true, false, false, true, false, false, false, false, false, false, false] ?_
        refine pu_ (i := 6) (N := some 79) HT_ #[true, true, true, false, false, true, true, false, false, false, false, false, false] ?_
        refine pu_ (i := 7) (N := some 80) HT_ #[true, true, true, false, false, true, true, true, false, false, false, false, false] ?_
        refine pu_ (i := 8) (N := some 81) HT_ #[true, true, true, false, false, true, true, true, true, false, false, false, false] ?_
        refine ta_ (i := 3) (N := some 76) HT_ HW_ #[true, true, true, true, false, true, true, true, true, false, false, false, false] hHeld ?_
        refine pu_ (i := 4) (N := some 77) HT_ #[true, true, true, true, true, true, true, true, true, false, false, false, false] ?_
        refine pu_ (i := 11) (N := some 10) HT_ #[true, true, true, true, true, true, true, true, true, false, false, true, false] ?_
        refine ta_ (i := 9) (N := some 82) HT_ HW_ #[true, true, true, true, true, true, true, true, true, true, false, true, false] hHeld ?_
        refine pu_ (i := 10) (N := some 83) HT_ #[true, true, true, true, true, true, true, true, true, true, true, true, false] ?_
        refine pu_ (i := 12) (N := some 11) HT_ #[true, true, true, true, true, true, true, true, true, true, true, true, true] ?_
        refine done_ (done_of HT_.out (by kernel_rfl)) ?_
        obtain ⟨i037, hi037, _, hsz37, _⟩ := info_parts info5
        obtain ⟨A37, hcut37, hA37, hC37⟩ := print_mid_of (P := Try.prog) (Value.int .u8) 0 22 5 .i64 .i64 Try.underlying22 hi037 hsz37 (some ad513) c0 l0 (ji30) (wrap64 ((ji30) + (wrap64 (Int.tdiv (wrap64 ((wrap64 ((wrap64 (rd l0 0)) * (wrap64 (rd l0 (ji22))))) + 7)) 8)))) od_ (by first | omega | exact od_) od_ HC0.out
        have HR522 := Aside0.mk (Kd.C_of_reads (h1 := fun _ => rfl) (hA37 _ (Kd.reads_of_C HR0.out)))
        have HC522 := Aside0.mk hC37
        clear hA37 hC37 hi037 hsz37
        try go_wp2_with (first | ((with_reducible refine gaC_ (f := 39) rfl ?_); refine goesL_ (some 104) rfl rfl Try.func39 (by kernel_rfl) rfl #[.slice A37 ((l0.take ((wrap64 ((ji30) + (wrap64 (Int.tdiv (wrap64 ((wrap64 ((wrap64 (rd l0 0)) * (wrap64 (rd l0 (ji22))))) + 7)) 8)))) : Int).toNat).drop ((ji30) : Int).toNat).length (c0 - (ji30).toNat), .int .i64 (wrap64 (rd l0 0)), .int .i64 (wrap64 (rd l0 (ji22)))] rfl (by (try simp only [List.map_toArray, List.map_cons, List.map_nil]); first | done | (rw [show ((l0.take ((wrap64 ((ji30) + (wrap64 (Int.tdiv (wrap64 ((wrap64 ((wrap64 (rd l0 0)) * (wrap64 (rd l0 (ji22))))) + 7)) 8)))) : Int).toNat).drop ((ji30) : Int).toNat).length = ((wrap64 ((ji30) + (wrap64 (Int.tdiv (wrap64 ((wrap64 ((wrap64 (rd l0 0)) * (wrap64 (rd l0 (ji22))))) + 7)) 8)))).toNat - (ji30).toNat) from (by rw [List.length_drop, List.length_take]; have h_ : ((wrap64 ((ji30) + (wrap64 (Int.tdiv (wrap64 ((wrap64 ((wrap64 (rd l0 0)) * (wrap64 (rd l0 (ji22))))) + 7)) 8)))) : Int) ≤ (l0.length : Int) := od_; omega)] <;> rfl) | (simp only [hji22, hji30]; rfl) | rfl | (simp only [List.length_drop, List.length_take]; rfl)) ?_; (with_reducible refine (bits_Unpack.calls kj9 _ _ ((l0.take ((wrap64 ((ji30) + (wrap64 (Int.tdiv (wrap64 ((wrap64 ((wrap64 (rd l0 0)) * (wrap64 (rd l0 (ji22))))) + 7)) 8)))) : Int).toNat).drop ((ji30) : Int).toNat) (wrap64 (rd l0 0)) (wrap64 (rd l0 (ji22))) t523 t524 _ ?side1 ?side2 A34.out).mono ?_); (case side1 => exact Kd.cu_ (Kd.C_below HR522.out HB.out)); (case side2 => exact HC522.out); rintro e w38 ⟨v525, rfl, ho0, hb⟩; refine ⟨_, rfl, ?_⟩; have HO526 := Aside0.mk (Kd.R_lower ho0 (pbS_ bw_)); replace HB := Aside0.mk (below_step bw_ hb); (try clear hb); (try clear hb2); (try clear hk); (try clear hi); (try clear ho0)))
        go_loopg [9, 11] kj9 (fun kq v9 v11 w' => ∃ (x9_3 : Int) (x11_3 : Int) (x13_3 : List Int), v9 = .int .i64 x9_3 ∧ v11 = .int .i64 x11_3 ∧ Aside0 (pfor_read.l0 kq l0 (wrap64 (rd l0 0)) t515 x9_3 (wrap64 (rd l0 (ji22))) x11_3 x13_3 = some (r1, r2, r3)) ∧ Aside0 (kq ≤ kj9) ∧ Aside0 (Kd.R (Kd.int .u64) 50 w' w.heap.size (fun _ => True) v525 x13_3) ∧ Aside0 (Below w.heap.size w w'))
        case atStart => exact ⟨(wrap64 ((ji30) + (wrap64 (Int.tdiv (wrap64 ((wrap64 ((wrap64 (rd l0 0)) * (wrap64 (rd l0 (ji22))))) + 7)) 8)))), (wrap64 (rd l0 (ji25))), (t523), (by first | rfl | (simp; done) | (simp only [← hji22, ← hji30] <;> (first | rfl | simp)) | (simp [*]; done)), (by first | rfl | (simp; done) | (simp only [← hji25] <;> (first | rfl | simp)) | (simp [*]; done)), H', ⟨Nat.le_refl _⟩, ⟨Kd.ru_ HO526.out⟩, ⟨bw_⟩⟩
        case round =>
         clear H'
         try clear c1
         try clear c2
         try clear p2
         try clear c3
         try clear c3b0
         try clear c3b1
         try clear c4
         try clear c4b0
         try clear c4b1
         try clear c5
         try clear c5b0
         try clear p5
         try clear q5
         try clear hx5
         try clear qi5
         try clear c6
         try clear p6
         try clear c7
         try clear c7b0
         try clear c7b1
         try clear c8
         try clear c8b0
         try clear c8b1
         try clear c12
         try clear c12b0
         try clear c12b1
         try clear c13
         try clear c13b0
         try clear c15
         try clear c15b0
         try clear c16
         try clear c16b0
         try clear c17
         try clear c17b0
         try clear c19
         try clear c19b0
         try clear c20
         try clear c20b0
         try clear c21
         try clear c23
         try clear c23b0
         try clear c24
         try clear c24b0
         try clear c26
         try clear c26b0
         try clear c27
         try clear c27b0
         try clear c28
         try clear c28b0
         try clear c31
         try clear c31b0
         try clear c31b1
         try clear c32
         try clear c32b0
         try clear c32b1
         try clear c33
         try clear c33b0
         try clear c33b1
         try clear c35
         try clear c35b0
         try clear c35b1
         try clear c38
         try clear hx511_0
         try clear hx512_0
         try clear hx513_0
         try clear hx518_0
         try clear hx519_0
         try clear hx520_0
         try clear hx521_0
         try clear p2
         try clear p5
         try clear p511
         try clear p512
         try clear p513
         try clear p518
         try clear p519
         try clear p520
         try clear p521
         try clear p6
         try clear q5
         try clear q511
         try clear q512
         try clear q513
         try clear q518
         try clear q519
         try clear q520
         try clear q521
         obtain ⟨x9_3, x11_3, x13_3, rfl, rfl, HA, HK3, HO_13, HB⟩ := hrel
         cases gk with
         | zero => exact absurd HA.out (by simp [pfor_read.l0])
         | succ k3 =>
          have H := HA.out
          clear HA
          simp only [pfor_read.l0] at H
          by_cases c39 : x11_3 > 0
          rotate_left
          ·rw [if_neg c39] at H
           have c39b0 : decide (0 < x11_3) = false := decide_eq_false c39
           clear c39
           have H' := Aside0.mk H
           clear H
           obtain ⟨Ao65, co65, eo65⟩ := Kd.R_slice HO_13.out
           subst eo65
           go_wp2
           go_loopg [162] k3 (fun kq v162 w' => ∃ (x13_4 : List Int) (x162_4 : Int), v162 = .int .i64 x162_4 ∧ Aside0 (pfor_read.l1 kq t515 x9_3 x13_4 (x13_3.length : Int) x162_4 = some (r1, r2, r3)) ∧ Aside0 (kq ≤ k3) ∧ Aside0 (Kd.R (Kd.int .u64) 50 w' w.heap.size (fun _ => True) (.slice Ao65 x13_3.length co65) x13_4) ∧ Aside0 (Below w.heap.size w w'))
           case atStart => exact ⟨(x13_3), (0), (by first | rfl | (simp; done) | (simp [*]; done)), H', ⟨Nat.le_refl _⟩, ⟨Kd.ru_ HO_13.out⟩, ⟨bw_⟩⟩
           case round =>
            clear H'
            try clear c1
            try clear c2
            try clear p2
            try clear c3
            try clear c3b0
            try clear c3b1
            try clear c4
            try clear c4b0
            try clear c4b1
            try clear c5
            try clear c5b0
            try clear p5
            try clear q5
            try clear hx5
            try clear qi5
            try clear hf5
            try clear c6
            try clear p6
            try clear c7
            try clear c7b0
            try clear c7b1
            try clear c8
            try clear c8b0
            try clear c8b1
            try clear c12
            try clear c12b0
            try clear c12b1
            try clear c13
            try clear c13b0
            try clear c15
            try clear c15b0
            try clear c16
            try clear c16b0
            try clear c17
            try clear c17b0
            try clear c19
            try clear c19b0
            try clear c20
            try clear c20b0
            try clear c21
            try clear c23
            try clear c23b0
            try clear c24
            try clear c24b0
            try clear c26
            try clear c26b0
            try clear c27
            try clear c27b0
            try clear c28
            try clear c28b0
            try clear c31
            try clear c31b0
            try clear c31b1
            try clear c32
            try clear c32b0
            try clear c32b1
            try clear c33
            try clear c33b0
            try clear c33b1
            try clear c35
            try clear c35b0
            try clear c35b1
            try clear c38
            try clear c39
            try clear c39b0
            try clear c41
            try clear c41b0
            try clear c42
            try clear c42b0
            try clear c43
            try clear c43b0
            try clear c44
            try clear c44b0
            try clear c45
            try clear c46
            try clear c46b0
            try clear c47
            try clear c47b0
            try clear c49
            try clear c49b0
            try clear c49b1
            try clear c50
            try clear c50b0
            try clear c50b1
            try clear p51
            try clear q51
            try clear hx51
            try clear c52
            try clear c52b0
            try clear c52b1
            try clear p52
            try clear q52
            try clear hx52
            try clear p53
            try clear q53
            try clear hx53
            try clear c54
            try clear c54b0
            try clear c55
            try clear c55b0
            try clear c57
            try clear c57b0
            try clear c57b1
            try clear p59
            try clear q59
            try clear hx59
            try clear hf59
            try clear p64
            try clear hx511_0
            try clear hx512_0
            try clear hx513_0
            try clear hx518_0
            try clear hx519_0
            try clear hx520_0
            try clear hx521_0
            try clear hx527_0
            try clear hx528_0
            try clear hx533_0
            try clear hx59_0
            try clear p2
            try clear p5
            try clear p511
            try clear p512
            try clear p513
            try clear p518
            try clear p519
            try clear p520
            try clear p521
            try clear p527
            try clear p528
            try clear p533
            try clear p59
            try clear p6
            try clear q5
            try clear q511
            try clear q512
            try clear q513
            try clear q518
            try clear q519
            try clear q520
            try clear q521
            try clear q527
            try clear q528
            try clear q533
            try clear q59
            obtain ⟨x13_4, x162_4, rfl, HA, HK4, HO_13, HB⟩ := hrel
            have hl13_4 := (Kd.R_reads' HO_13.out).1
            rw [hl13_4] at HO_13
            (try simp only [hl13_4])
            cases gk with
            | zero => exact absurd HA.out (by simp [pfor_read.l1])
            | succ k4 =>
             have H := HA.out
             clear HA
             simp only [pfor_read.l1] at H
             by_cases c66 : x162_4 < (x13_3.length : Int)
             rotate_left
             ·rw [if_neg c66] at H
              have c66b0 : decide (x162_4 < (x13_3.length : Int)) = false := decide_eq_false c66
              (try (have c66b0h := c66b0; simp only [hl13_4] at c66b0h))
              clear c66
              simp only [Option.some.injEq, Prod.mk.injEq] at H
              obtain ⟨rfl, rfl, rfl⟩ := H
              go_wp2
              go_ret3
              exact ⟨_, by first | rfl | (simp [eWn_, eWs_] <;> rfl) | (simp only [← hji22, ← hji25, ← hji30]; first | rfl | (simp [eWn_, eWs_] <;> rfl)) | (simp [*, eWn_, eWs_] <;> rfl), by (with_reducible repeat (first | apply Kd.rA_ | apply Kd.rN_ | apply Kd.rD_)); exact HO_13.out, bw_⟩
             rw [if_pos c66] at H
             have c66b0 : decide (x162_4 < (x13_3.length : Int)) = true := decide_eq_true c66
             (try (have c66b0h := c66b0; simp only [hl13_4] at c66b0h))
             clear c66
             by_cases c67 : 0 ≤ x162_4
             rotate_left
             ·rw [if_neg c67] at H
              exact absurd H (by simp)
             rw [if_pos c67] at H
             have c67b0 : decide (0 ≤ x162_4) = true := decide_eq_true c67
             clear c67
             by_cases c68 : x162_4 < (x13_4.length : Int)
             rotate_left
             ·rw [if_neg c68] at H
              exact absurd H (by simp)
             rw [if_pos c68] at H
             have c68b0 : decide (x162_4 < (x13_4.length : Int)) = true := decide_eq_true c68
             (try (have c68b0h := c68b0; simp only [hl13_4] at c68b0h))
             clear c68
             obtain ⟨y536, hy536⟩ : ∃ y_ : List Int, y_ = (x13_4.set (x162_4 : Int).toNat (IntKind.u64.wrap ((rd x13_4 x162_4) + t515))) := ⟨_, rfl⟩
             replace H : (pfor_read.l1 k4 t515 x9_3 y536 (x13_3.length : Int) (wrap64 (x162_4 + 1))) = some (r1, r2, r3) := by first | (rw [hy536]; with_reducible exact H) | (have H2_ := (Option.bind_some _ _).symm.trans H; rw [hy536]; with_reducible exact H2_) | (have H2_ := (Option.bind_some _ _).symm.trans H; with_reducible exact H2_) | with_reducible exact H | (rw [hy536]; exact H) | exact H
             have Ny536 := Aside0.mk hy536
             clear hy536
             have H' := Aside0.mk H
             clear H
             have p535 : 0 ≤ (x162_4 : Int) := od_
             have q535 : x162_4 < (x13_4.length : Int) := od_
             obtain ⟨ad535, e535, hx535_0⟩ := Kd.at_int (Kd.R_reads' HO_13.out).2.2 x162_4 p535 q535
             cases e535
             replace p535 := eq_true p535
             replace q535 := eq_true q535
             have p69 : 0 ≤ (x162_4 : Int) := od_
             have q69 : (x162_4 : Int) < ((x13_4.length : Int) : Int) := od_
             obtain ⟨go69, co69, eo69, gb69, gl69, cl69, HG69⟩ := Kd.R_form HO_13.out (by omega)
             (first | cases eo69 | (injection eo69 with ea_ en_ ec_; (first | subst ea_ | (injection ea_ with ea_; subst ea_)); subst ec_; clear en_))
             have GB69 := Aside0.mk gb69
             have GG69 := Aside0.mk HG69
             clear gb69 gl69 HG69
             (first | simp only [add_plain] at hx535_0 | skip)
             obtain ⟨hx69_0, hf69_0⟩ := Kd.R_celln 0 HO_13.out (x162_4 : Int) p69 q69
             replace p69 := eq_true p69
             replace q69 := eq_true q69
             have HP70 := Kd.R_putg HO_13.out (x162_4 : Int) (IntKind.u64.wrap ((rd x13_4 x162_4) + t515))
             go_wp2_with (first | ((with_reducible refine gate_store (t := 50) (p := 171) rfl ?_); refine store_event (t := 50) (p := 171) (v := ?vo_w71) (w1 := (wr.setCell ⟨go69, (x162_4 : Int).toNat, none⟩ (.int .u64 (IntKind.u64.wrap ((rd x13_4 x162_4) + t515))))) ?hg ?ho ?hn ?hr ?_; (case ho => rfl); (case hg => rfl); (case hn => rfl); (case hr => first | (go_simp; done) | (go_simp; rfl)); intro w71 hw; have hg : wr.grownBy w71 (some go69) := (by rw [hw]; exact HP70.2); have hp_ : Kd.R (Kd.int .u64) 50 w71 w.heap.size (fun _ => True) (.slice (some ⟨go69, 0, none⟩) x13_4.length co65) y536 := (by rw [hw, Ny536.out]; exact HP70.1); clear HP70; replace HO_13 := Aside0.mk (hp_); replace HB := Aside0.mk ((by rw [hw]; exact below_set (HB.out) GB69.out : Below w.heap.size w w71)); clear hg hw hp_))
             (try simp only [← hl13_4])
             go_roundg k4
             case measure => have := HJ1.out; have := HJ9.out; have := HK3.out; have := HK4.out; omega
             case rel => exact ⟨(y536), (wrap64 (x162_4 + 1)), (by first | rfl | (simp; done) | (simp [*]; done)), H', ⟨by have := HJ1.out; have := HJ9.out; have := HK3.out; have := HK4.out; omega⟩, ⟨by (try simp only [hl13_4]); (with_reducible repeat (first | apply Kd.rA_ | apply Kd.rN_ | apply Kd.rD_)); exact HO_13.out⟩, ⟨bw_⟩⟩
          rw [if_pos c39] at H
          have c39b0 : decide (0 < x11_3) = true := decide_eq_true c39
          clear c39
          have HC40 := Aside0.mk H
          clear H
          go_upto_region 19 with (fail)
          go_cut [130] (fun v130 wc => ∃ (kq : Nat) (x130_39 : Bool), v130 = .bool x130_39 ∧ Aside0 (pfor_read.j3 kq l0 (wrap64 (rd l0 0)) t515 x9_3 (wrap64 (rd l0 (ji22))) x11_3 x13_3 x130_39 = some (r1, r2, r3)) ∧ Aside0 (kq ≤ k3) ∧ Aside0 (Kd.R (Kd.int .u64) 50 wc w.heap.size (fun _ => True) v525 x13_3) ∧ Aside0 (Below w.heap.size w wc))
          case first =>
           have H := HC40.out
           clear HC40
           by_cases c41 : x9_3 ≥ (l0.length : Int)
           ·rw [if_pos c41] at H
            have c41b0 : decide ((l0.length : Int) ≤ x9_3) = true := decide_eq_true c41
            clear c41
            (first | rw [c41b0] | (simp only [i64_w, i32_w]; rw [c41b0]) | skip)
            have H' := Aside0.mk H
            clear H
            go_wp2
            go_meet
            case rel => exact ⟨_, (true), (by first | rfl | (simp; done) | (simp [*]; done)), H', ⟨by have := HJ1.out; have := HJ9.out; have := HK3.out; first | omega | exact Nat.le_refl _⟩, ⟨Kd.ru_ HO_13.out⟩, ⟨bw_⟩⟩
           ·rw [if_neg c41] at H
            have c41b0 : decide ((l0.length : Int) ≤ x9_3) = false := decide_eq_false c41
            clear c41
            (first | rw [c41b0] | (simp only [i64_w, i32_w]; rw [c41b0]) | skip)
            by_cases c42 : 0 ≤ x9_3
            rotate_left
            ·rw [if_neg c42] at H
             exact absurd H (by simp)
            rw [if_pos c42] at H
            have c42b0 : decide (0 ≤ x9_3) = true := decide_eq_true c42
            clear c42
            by_cases c43 : x9_3 < (l0.length : Int)
            rotate_left
            ·rw [if_neg c43] at H
             exact absurd H (by simp)
            rw [if_pos c43] at H
            have c43b0 : decide (x9_3 < (l0.length : Int)) = true := decide_eq_true c43
            clear c43
            by_cases c44 : (wrap64 (rd l0 x9_3)) ≥ (wrap64 (rd l0 0))
            rotate_left
            ·rw [if_neg c44] at H
             have c44b0 : decide ((wrap64 (rd l0 0)) ≤ (wrap64 (rd l0 x9_3))) = false := decide_eq_false c44
             clear c44
             have H' := Aside0.mk H
             clear H
             have p527 : 0 ≤ (x9_3 : Int) := od_
             have q527 : x9_3 < (l0.length : Int) := od_
             obtain ⟨ad527, e527, hx527_0⟩ := Kd.at_int HR0.out x9_3 p527 q527
             obtain rfl : ad513 = ad527 := (by injection e527)
             replace hx527_0 := (HB.out.cell (World.block_lt_of_cell? w _ hx527_0)).trans hx527_0
             replace p527 := eq_true p527
             replace q527 := eq_true q527
             go_wp2
             go_meet
             case rel => exact ⟨_, (((wrap64 (rd l0 (ji22))) == 64)), (by first | rfl | (simp; done) | (simp only [← hji22] <;> (first | rfl | simp)) | (simp [*]; done)), H', ⟨by have := HJ1.out; have := HJ9.out; have := HK3.out; first | omega | exact Nat.le_refl _⟩, ⟨Kd.ru_ HO_13.out⟩, ⟨bw_⟩⟩
            rw [if_pos c44] at H
            have c44b0 : decide ((wrap64 (rd l0 0)) ≤ (wrap64 (rd l0 x9_3))) = true := decide_eq_true c44
            clear c44
            have H' := Aside0.mk H
            clear H
            have p527 : 0 ≤ (x9_3 : Int) := od_
            have q527 : x9_3 < (l0.length : Int) := od_
            obtain ⟨ad527, e527, hx527_0⟩ := Kd.at_int HR0.out x9_3 p527 q527
            obtain rfl : ad513 = ad527 := (by injection e527)
            replace hx527_0 := (HB.out.cell (World.block_lt_of_cell? w _ hx527_0)).trans hx527_0
            replace p527 := eq_true p527
            replace q527 := eq_true q527
            go_wp2
            go_meet
            case rel => exact ⟨_, (true), (by first | rfl | (simp; done) | (simp [*]; done)), H', ⟨by have := HJ1.out; have := HJ9.out; have := HK3.out; first | omega | exact Nat.le_refl _⟩, ⟨Kd.ru_ HO_13.out⟩, ⟨bw_⟩⟩
          case rest =>
           clear HC40
           try clear c1
           try clear c2
           try clear p2
           try clear c3
           try clear c3b0
           try clear c3b1
           try clear c4
           try clear c4b0
           try clear c4b1
           try clear c5
           try clear c5b0
           try clear p5
           try clear q5
           try clear hx5
           try clear qi5
           try clear c6
           try clear p6
           try clear c7
           try clear c7b0
           try clear c7b1
           try clear c8
           try clear c8b0
           try clear c8b1
           try clear c12
           try clear c12b0
           try clear c12b1
           try clear c13
           try clear c13b0
           try clear c15
           try clear c15b0
           try clear c16
           try clear c16b0
           try clear c17
           try clear c17b0
           try clear c19
           try clear c19b0
           try clear c20
           try clear c20b0
           try clear c21
           try clear c23
           try clear c23b0
           try clear c24
           try clear c24b0
           try clear c26
           try clear c26b0
           try clear c27
           try clear c27b0
           try clear c28
           try clear c28b0
           try clear c31
           try clear c31b0
           try clear c31b1
           try clear c32
           try clear c32b0
           try clear c32b1
           try clear c33
           try clear c33b0
           try clear c33b1
           try clear c35
           try clear c35b0
           try clear c35b1
           try clear c38
           try clear c39
           try clear c39b0
           try clear c41
           try clear c41b0
           try clear c42
           try clear c42b0
           try clear c43
           try clear c43b0
           try clear c44
           try clear c44b0
           try clear hx511_0
           try clear hx512_0
           try clear hx513_0
           try clear hx518_0
           try clear hx519_0
           try clear hx520_0
           try clear hx521_0
           try clear hx527_0
           try clear p2
           try clear p5
           try clear p511
           try clear p512
           try clear p513
           try clear p518
           try clear p519
           try clear p520
           try clear p521
           try clear p527
           try clear p6
           try clear q5
           try clear q511
           try clear q512
           try clear q513
           try clear q518
           try clear q519
           try clear q520
           try clear q521
           try clear q527
           obtain ⟨kq, x130_39, rfl, HA, HJ39, HO_13, HB⟩ := hcut
           cases kq with
           | zero => exact absurd HA.out (by simp [pfor_read.j3])
           | succ kj39 =>
            have H := HA.out
            clear HA
            simp only [pfor_read.j3] at H
            by_cases c45 : x130_39 = true
            ·subst c45
             have H1 : (some (([] : List Int), 0, false)) = some (r1, r2, r3) := by rw [if_pos rfl] at H; exact H
             clear H
             have H := H1
             clear H1
             simp only [Option.some.injEq, Prod.mk.injEq] at H
             obtain ⟨rfl, rfl, rfl⟩ := H
             go_wp2
             go_ret3
             exact ⟨_, by first | rfl | (simp [eWn_, eWs_] <;> rfl) | (simp only [← hji22, ← hji25, ← hji30]; first | rfl | (simp [eWn_, eWs_] <;> rfl)) | (simp [*, eWn_, eWs_] <;> rfl), ni_, bw_⟩
            ·replace c45 := Bool.eq_false_iff.mpr c45
             subst c45
             have H1 : (if 0 ≤ x9_3 then (if x9_3 < (l0.length : Int) then (if 0 ≤ (wrap64 (x9_3 + 1)) then (if (wrap64 (x9_3 + 1)) ≤ (l0.length : Int) then ((num_Take.f kj39 (l0.drop ((wrap64 (x9_3 + 1)) : Int).toNat)).bind fun bt530 => (if bt530.2.2 = 0 then (if 0 ≤ (wrap64 (rd l0 x9_3)) then (if (wrap64 (rd l0 x9_3)) < (x13_3.length : Int) then (if 0 ≤ (wrap64 (rd l0 (ji22))) then (pfor_read.l0 kj39 l0 (wrap64 (rd l0 0)) t515 (wrap64 (x9_3 + (wrap64 (1 + bt530.2.1)))) (wrap64 (rd l0 (ji22))) (wrap64 (x11_3 - 1)) (x13_3.set ((wrap64 (rd l0 x9_3)) : Int).toNat (IntKind.u64.wrap ((rd x13_3 (wrap64 (rd l0 x9_3))) + (shl .u64 bt530.1 (wrap64 (rd l0 (ji22)))))))) else (none)) else (none)) else (none)) else (some (([] : List Int), 0, false)))) else (none)) else (none)) else (none)) else (none)) = some (r1, r2, r3) := by rw [if_neg (show ¬ (false = true) by decide)] at H; exact H
             clear H
             have H := H1
             clear H1
             by_cases c46 : 0 ≤ x9_3
             rotate_left
             ·rw [if_neg c46] at H
              exact absurd H (by simp)
             rw [if_pos c46] at H
             have c46b0 : decide (0 ≤ x9_3) = true := decide_eq_true c46
             clear c46
             by_cases c47 : x9_3 < (l0.length : Int)
             rotate_left
             ·rw [if_neg c47] at H
              exact absurd H (by simp)
             rw [if_pos c47] at H
             have c47b0 : decide (x9_3 < (l0.length : Int)) = true := decide_eq_true c47
             clear c47
             obtain ⟨ji48, hji48⟩ : ∃ j_ : Int, (wrap64 (x9_3 + 1)) = j_ := ⟨_, rfl⟩
             replace H : (if 0 ≤ (ji48) then (if (ji48) ≤ (l0.length : Int) then ((num_Take.f kj39 (l0.drop ((ji48) : Int).toNat)).bind fun bt530 => (if bt530.2.2 = 0 then (if 0 ≤ (wrap64 (rd l0 x9_3)) then (if (wrap64 (rd l0 x9_3)) < (x13_3.length : Int) then (if 0 ≤ (wrap64 (rd l0 (ji22))) then (pfor_read.l0 kj39 l0 (wrap64 (rd l0 0)) t515 (wrap64 (x9_3 + (wrap64 (1 + bt530.2.1)))) (wrap64 (rd l0 (ji22))) (wrap64 (x11_3 - 1)) (x13_3.set ((wrap64 (rd l0 x9_3)) : Int).toNat (IntKind.u64.wrap ((rd x13_3 (wrap64 (rd l0 x9_3))) + (shl .u64 bt530.1 (wrap64 (rd l0 (ji22)))))))) else (none)) else (none)) else (none)) else (some (([] : List Int), 0, false)))) else (none)) else (none)) = some (r1, r2, r3) := by first | (rw [hji48] at H; exact H) | (simp only [hji48] at H ⊢; exact H)
             have hji48w : (IntKind.i64.wrap (x9_3 + 1)) = ji48 := (i64_w _).trans hji48
             by_cases c49 : 0 ≤ (ji48)
             rotate_left
             ·rw [if_neg c49] at H
              exact absurd H (by simp)
             rw [if_pos c49] at H
             have c49b0 := eq_true c49
             have c49b1 : decide (0 ≤ (ji48)) = true := decide_eq_true c49
             clear c49
             by_cases c50 : (ji48) ≤ (l0.length : Int)
             rotate_left
             ·rw [if_neg c50] at H
              exact absurd H (by simp)
             rw [if_pos c50] at H
             have c50b0 := eq_true c50
             have c50b1 : decide ((ji48) ≤ (l0.length : Int)) = true := decide_eq_true c50
             clear c50
             replace H := Option.bind_eq_some_iff.mp H
             obtain ⟨⟨t530, t531, t532⟩, A510, H⟩ := H
             replace H : (if t532 = 0 then (if 0 ≤ (wrap64 (rd l0 x9_3)) then (if (wrap64 (rd l0 x9_3)) < (x13_3.length : Int) then (if 0 ≤ (wrap64 (rd l0 (ji22))) then (pfor_read.l0 kj39 l0 (wrap64 (rd l0 0)) t515 (wrap64 (x9_3 + (wrap64 (1 + t531)))) (wrap64 (rd l0 (ji22))) (wrap64 (x11_3 - 1)) (x13_3.set ((wrap64 (rd l0 x9_3)) : Int).toNat (IntKind.u64.wrap ((rd x13_3 (wrap64 (rd l0 x9_3))) + (shl .u64 t530 (wrap64 (rd l0 (ji22)))))))) else (none)) else (none)) else (none)) else (some (([] : List Int), 0, false))) = some (r1, r2, r3) := H
             have A51 := Aside0.mk A510
             clear A510
             by_cases c52 : t532 = 0
             rotate_left
             ·rw [if_neg c52] at H
              have c52b0 : (t532 == 0) = false := beq_eq_false_iff_ne.mpr c52
              have c52b1 : (t532 != 0) = true := bne_iff_ne.mpr c52
              simp only [Option.some.injEq, Prod.mk.injEq] at H
              obtain ⟨rfl, rfl, rfl⟩ := H
              have p528 : 0 ≤ (x9_3 : Int) := od_
              have q528 : x9_3 < (l0.length : Int) := od_
              obtain ⟨ad528, e528, hx528_0⟩ := Kd.at_int HR0.out x9_3 p528 q528
              obtain rfl : ad513 = ad528 := (by injection e528)
              replace hx528_0 := (HB.out.cell (World.block_lt_of_cell? w _ hx528_0)).trans hx528_0
              replace p528 := eq_true p528
              replace q528 := eq_true q528
              obtain ⟨i064, hi064, _, hsz64, _⟩ := info_parts info5
              obtain ⟨A64, hcut64, hA64, hC64⟩ := print_drop_of (P := Try.prog) (Value.int .u8) 0 22 5 .i64 Try.underlying22 hi064 hsz64 (some ad513) c0 l0 (ji48) od_ od_ HC0.out
              have HR529 := Aside0.mk (Kd.C_of_reads (h1 := fun _ => rfl) (hA64 _ (Kd.reads_of_C HR0.out)))
              have HC529 := Aside0.mk hC64
              clear hA64 hC64 hi064 hsz64
              go_wp2_with (first | ((with_reducible refine gaC_ (f := 38) rfl ?_); refine goesL_ (some 141) rfl rfl Try.func38 (by kernel_rfl) rfl #[.slice A64 (l0.drop ((ji48) : Int).toNat).length (c0 - (ji48).toNat)] rfl (by (try simp only [List.map_toArray, List.map_cons, List.map_nil]); first | done | (rw [show (l0.drop ((ji48) : Int).toNat).length = (l0.length - (ji48).toNat) from List.length_drop] <;> rfl) | (simp only [hji48]; rfl) | rfl | (simp only [List.length_drop, List.length_take]; rfl)) ?_; (with_reducible refine (num_Take.calls kj39 _ _ (l0.drop ((ji48) : Int).toNat) t530 t531 t532 _ ?side1 ?side2 A51.out).mono ?_); (case side1 => exact Kd.cu_ (Kd.C_below HR529.out HB.out)); (case side2 => exact HC529.out); rintro e w' ⟨rfl, ⟨nd, rfl⟩⟩; refine ⟨_, rfl, ?_⟩))
              go_ret3
              exact ⟨_, by first | rfl | (simp [eWn_, eWs_] <;> rfl) | (simp only [← hji22, ← hji25, ← hji30, ← hji48]; first | rfl | (simp [eWn_, eWs_] <;> rfl)) | (simp [*, eWn_, eWs_] <;> rfl), ni_, bw_⟩
             rw [if_pos c52] at H
             have c52b0 : (t532 == 0) = true := beq_iff_eq.mpr c52
             have c52b1 : (t532 != 0) = false := bne_eq_false_iff_eq.mpr c52
             clear c52
             obtain ⟨ji53, hji53⟩ : ∃ j_ : Int, (wrap64 (rd l0 x9_3)) = j_ := ⟨_, rfl⟩
             replace H : (if 0 ≤ (ji53) then (if (ji53) < (x13_3.length : Int) then (if 0 ≤ (wrap64 (rd l0 (ji22))) then (pfor_read.l0 kj39 l0 (wrap64 (rd l0 0)) t515 (wrap64 (x9_3 + (wrap64 (1 + t531)))) (wrap64 (rd l0 (ji22))) (wrap64 (x11_3 - 1)) (x13_3.set ((ji53) : Int).toNat (IntKind.u64.wrap ((rd x13_3 (ji53)) + (shl .u64 t530 (wrap64 (rd l0 (ji22)))))))) else (none)) else (none)) else (none)) = some (r1, r2, r3) := by first | (rw [hji53] at H; exact H) | (simp only [hji53] at H ⊢; exact H)
             (try rw [hji53] at A51)
             have hji53w : (IntKind.i64.wrap (rd l0 x9_3)) = ji53 := (i64_w _).trans hji53
             by_cases c54 : 0 ≤ (ji53)
             rotate_left
             ·rw [if_neg c54] at H
              exact absurd H (by simp)
             rw [if_pos c54] at H
             have c54b0 : decide (0 ≤ (ji53)) = true := decide_eq_true c54
             clear c54
             by_cases c55 : (ji53) < (x13_3.length : Int)
             rotate_left
             ·rw [if_neg c55] at H
              exact absurd H (by simp)
             rw [if_pos c55] at H
             have c55b0 : decide ((ji53) < (x13_3.length : Int)) = true := decide_eq_true c55
             clear c55
             obtain ⟨ji56, hji56⟩ : ∃ j_ : Int, (wrap64 (rd l0 (ji22))) = j_ := ⟨_, rfl⟩
             replace H : (if 0 ≤ (ji56) then (pfor_read.l0 kj39 l0 (wrap64 (rd l0 0)) t515 (wrap64 (x9_3 + (wrap64 (1 + t531)))) (ji56) (wrap64 (x11_3 - 1)) (x13_3.set ((ji53) : Int).toNat (IntKind.u64.wrap ((rd x13_3 (ji53)) + (shl .u64 t530 (ji56)))))) else (none)) = some (r1, r2, r3) := by first | (rw [hji56] at H; exact H) | (simp only [hji56] at H ⊢; exact H)
             (try rw [hji56] at c28b0)
             (try rw [hji56] at c32b0)
             (try rw [hji56] at c32b1)
             (try rw [hji56] at c32)
             (try rw [hji56] at c33b0)
             (try rw [hji56] at c33b1)
             (try rw [hji56] at c33)
             (try rw [hji56] at A51)
             have hji56w : (IntKind.i64.wrap (rd l0 (ji22))) = ji56 := (i64_w _).trans hji56
             by_cases c57 : 0 ≤ (ji56)
             rotate_left
             ·rw [if_neg c57] at H
              exact absurd H (by simp)
             rw [if_pos c57] at H
             have c57b0 := eq_true c57
             have c57b1 : decide (0 ≤ (ji56)) = true := decide_eq_true c57
             clear c57
             obtain ⟨ji58, hji58⟩ : ∃ j_ : Int, (shl .u64 t530 (ji56)) = j_ := ⟨_, rfl⟩
             replace H : (pfor_read.l0 kj39 l0 (wrap64 (rd l0 0)) t515 (wrap64 (x9_3 + (wrap64 (1 + t531)))) (ji56) (wrap64 (x11_3 - 1)) (x13_3.set ((ji53) : Int).toNat (IntKind.u64.wrap ((rd x13_3 (ji53)) + (ji58))))) = some (r1, r2, r3) := by first | (rw [hji58] at H; exact H) | (simp only [hji58] at H ⊢; exact H)
             (try rw [hji58] at A51)
             have hji58_ : (IntKind.u64.wrap (t530 * 2 ^ min (ji56).toNat 64)) = ji58 := hji58
             have hji58z : (ji56) ≤ 64 → (IntKind.u64.wrap (t530 * 2 ^ (ji56).toNat)) = ji58 := shl_small hji58
             obtain ⟨y534, hy534⟩ : ∃ y_ : List Int, y_ = (x13_3.set ((ji53) : Int).toNat (IntKind.u64.wrap ((rd x13_3 (ji53)) + (ji58)))) := ⟨_, rfl⟩
             replace H : (pfor_read.l0 kj39 l0 (wrap64 (rd l0 0)) t515 (wrap64 (x9_3 + (wrap64 (1 + t531)))) (ji56) (wrap64 (x11_3 - 1)) y534) = some (r1, r2, r3) := by first | (rw [hy534]; with_reducible exact H) | (have H2_ := (Option.bind_some _ _).symm.trans H; rw [hy534]; with_reducible exact H2_) | (have H2_ := (Option.bind_some _ _).symm.trans H; with_reducible exact H2_) | with_reducible exact H | (rw [hy534]; exact H) | exact H
             have Ny534 := Aside0.mk hy534
             clear hy534
             have H' := Aside0.mk H
             clear H
             have p528 : 0 ≤ (x9_3 : Int) := od_
             have q528 : x9_3 < (l0.length : Int) := od_
             obtain ⟨ad528, e528, hx528_0⟩ := Kd.at_int HR0.out x9_3 p528 q528
             obtain rfl : ad513 = ad528 := (by injection e528)
             replace hx528_0 := (HB.out.cell (World.block_lt_of_cell? w _ hx528_0)).trans hx528_0
             replace p528 := eq_true p528
             replace q528 := eq_true q528
             obtain ⟨i060, hi060, _, hsz60, _⟩ := info_parts info5
             obtain ⟨A60, hcut60, hA60, hC60⟩ := print_drop_of (P := Try.prog) (Value.int .u8) 0 22 5 .i64 Try.underlying22 hi060 hsz60 (some ad513) c0 l0 (ji48) od_ od_ HC0.out
             have HR529 := Aside0.mk (Kd.C_of_reads (h1 := fun _ => rfl) (hA60 _ (Kd.reads_of_C HR0.out)))
             have HC529 := Aside0.mk hC60
             clear hA60 hC60 hi060 hsz60
             try go_wp2_with (first | ((with_reducible refine gaC_ (f := 38) rfl ?_); refine goesL_ (some 141) rfl rfl Try.func38 (by kernel_rfl) rfl #[.slice A60 (l0.drop ((ji48) : Int).toNat).length (c0 - (ji48).toNat)] rfl (by (try simp only [List.map_toArray, List.map_cons, List.map_nil]); first | done | (rw [show (l0.drop ((ji48) : Int).toNat).length = (l0.length - (ji48).toNat) from List.length_drop] <;> rfl) | (simp only [hji48]; rfl) | rfl | (simp only [List.length_drop, List.length_take]; rfl)) ?_; (with_reducible refine (num_Take.calls kj39 _ _ (l0.drop ((ji48) : Int).toNat) t530 t531 t532 _ ?side1 ?side2 A51.out).mono ?_); (case side1 => exact Kd.cu_ (Kd.C_below HR529.out HB.out)); (case side2 => exact HC529.out); rintro e w' ⟨rfl, ⟨nd, rfl⟩⟩; refine ⟨_, rfl, ?_⟩; (try (rw [drewN_self wc]; generalize hq_ : World.drewN wc _ = wc; have n0_ : Aside0 (Kd.R (Kd.int .u64) 50 wc w.heap.size (fun _ => True) v525 x13_3) := ⟨by rw [← hq_]; exact (Kd.ru_ HO_13.out)⟩; have n1_ : Aside0 (Below w.heap.size w wc) := ⟨by rw [← hq_]; exact bw_⟩; clear HO_13 HB hq_; have HO_13 := n0_; have HB := n1_; clear n0_ n1_))))
             (try (rw [drewN_self wc]; generalize hq_ : World.drewN wc _ = wc; have n0_ : Aside0 (Kd.R (Kd.int .u64) 50 wc w.heap.size (fun _ => True) v525 x13_3) := ⟨by rw [← hq_]; exact (Kd.ru_ HO_13.out)⟩; have n1_ : Aside0 (Below w.heap.size w wc) := ⟨by rw [← hq_]; exact bw_⟩; clear HO_13 HB hq_; have HO_13 := n0_; have HB := n1_; clear n0_ n1_))
             have n0_ := Aside0.mk (Kd.rD_ HO_13.out)
             have n1_ := Aside0.mk (pb1_ HB.out)
             clear HO_13
             clear HB
             have HO_13 := n0_
             have HB := n1_
             clear n0_ n1_
             obtain ⟨Ao62, co62, eo62⟩ := Kd.R_slice HO_13.out
             (first | subst eo62 | (injection eo62 with f1_ f2_ f3_; have f4_ := f1_.symm; have f5_ := f3_.symm; clear f1_ f2_ f3_; subst f4_; subst f5_))
             have p533 : 0 ≤ ((ji53) : Int) := od_
             have q533 : (ji53) < (x13_3.length : Int) := od_
             obtain ⟨ad533, e533, hx533_0⟩ := Kd.at_int (Kd.R_reads' HO_13.out).2.2 (ji53) p533 q533
             cases e533
             replace p533 := eq_true p533
             replace q533 := eq_true q533
             have p59 : 0 ≤ ((ji53) : Int) := od_
             have q59 : ((ji53) : Int) < ((x13_3.length : Int) : Int) := od_
             obtain ⟨go59, co59, eo59, gb59, gl59, cl59, HG59⟩ := Kd.R_form HO_13.out (by omega)
             (first | cases eo59 | (injection eo59 with ea_ en_ ec_; (first | subst ea_ | (injection ea_ with ea_; subst ea_)); subst ec_; clear en_))
             have GB59 := Aside0.mk gb59
             have GG59 := Aside0.mk HG59
             clear gb59 gl59 HG59
             (first | simp only [add_plain] at hx533_0 | skip)
             obtain ⟨hx59_0, hf59_0⟩ := Kd.R_celln 0 HO_13.out ((ji53) : Int) p59 q59
             replace p59 := eq_true p59
             replace q59 := eq_true q59
             have HP63 := Kd.R_putn HO_13.out ((ji53) : Int) (IntKind.u64.wrap ((rd x13_3 (ji53)) + (ji58)))
             rw [← Ny534.out] at HP63
             have HQ63 := Aside0.mk HP63
             clear HP63
             refine start_ (n := 10) (S := fun w' => w'.cell? ⟨go59, ((ji53)).toNat, none⟩ = some (.int .u64 (rd x13_3 (ji53)))) (ds := [9]) #[false, false, false, false, false, false, false, false, false, false] (by kernel_rfl) rfl rfl (hx533_0) (fun hHeld => ?_); refine with_tabW pfor_read.tab25 pfor_read.bits25 (fun HT_ HW_ => ?_)
             generalize wc.drew = w61 at HO_13 HB GG59 HQ63 hf59_0 hx533_0 hx59_0 hHeld ⊢
             refine pu_ (i := 0) (N := some 147) HT_ #[true, false, false, false, false, false, false, false, false, false] ?_
             refine pu_ (i := 1) (N := some 148) HT_ #[true, true, false, false, false, false, false, false, false, false] ?_
             refine pu_ (i := 2) (N := some 149) HT_ #[true, true, true, false, false, false, false, false, false, false] ?_
             refine pu_ (i := 4) (N := some 151) HT_ #[true, true, true, false, true, false, false, false, false, false] ?_
             refine pu_ (i := 5) (N := some 152) HT_ #[true, true, true, false, true, true, false, false, false, false] ?_
             refine pu_ (i := 6) (N := some 153) HT_ #[true, true, true, false, true, true, true, false, false, false] ?_
             refine ta_ (i := 3) (N := some 150) HT_ HW_ #[true, true, true, true, true, true, true, false, false, false] hHeld ?_
             refine pu_ (i := 7) (N := some 154) HT_ #[true, true, true, true, true, true, true, true, false, false] ?_
             refine pu_ (i := 8) (N := some 155) HT_ #[true, true, true, true, true, true, true, true, true, false] ?_
             refine last_ (i := 9) (N := none) #[tT,tT,tT,tT,tT,tT,tT,tT,tT,tT] rfl rfl (one_of HT_.out (by kernel_rfl)) (by decide) (fun K hK => ?_)
             refine skip_ (w1 := ?_) (by rfl) rfl ?_ ?_
             rotate_left
             ·go_simp
              rfl
             refine hK.out _ _ ?_
             clear hK K
             refine done_ (done_of HT_.out (by kernel_rfl)) ?_
             try go_wp2
             (try subst hji58 hji56 hji53 hji48)
             go_roundg kj39
             case measure => have := HJ1.out; have := HJ9.out; have := HK3.out; have := HJ39.out; omega
             case rel => exact ⟨(wrap64 (x9_3 + (wrap64 (1 + t531)))), (wrap64 (x11_3 - 1)), (y534), (by first | rfl | (simp; done) | (simp [*]; done)), (by first | rfl | (simp; done) | (simp [*]; done)), H', ⟨by have := HJ1.out; have := HJ9.out; have := HK3.out; have := HJ39.out; omega⟩, ⟨Kd.ru_ HQ63.out⟩, ⟨by repeat (first | (with_reducible first | exact HB.out | apply pbA_ | apply pbN_ | apply pb1_ | refine below_set ?_ GB59.out) | exact HB.out)⟩⟩
end Go.Proofs.Ytcjkmmajokkkfaa.P
end
