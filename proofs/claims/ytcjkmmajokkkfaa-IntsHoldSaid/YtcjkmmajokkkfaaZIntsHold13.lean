/- Words and proofs that IntsHold leans on; put together by wip/tools/shake.py. -/
import Derived.Test.YtcjkmmajokkkfaaZIntsHold12
import Derived.ArgAppend
import Derived.Below
import Derived.BigQuiet
import Derived.Deep.AppendLies
import Derived.Deep.CutBlock
import Derived.Deep.DeepCutAuto
import Derived.Deep.Draws
import Derived.Deep.LoopGhost
import Derived.Deep.OwnRows
import Derived.Deep.QuietTactic
import Derived.Deep.RegionHeld3
import Derived.KernelRfl
import Derived.Laws.BitsLemmas
import Derived.Laws.BytesArg
import Derived.Laws.Cover1
import Derived.Laws.IdiomCopy
import Derived.Laws.MakeOwn
import Derived.Laws.OwnMore
import Derived.Laws.Rows
import Derived.Laws.Slices
import Derived.Laws.StructEq
import Derived.Lib.AppendStr
import Derived.Lib.BitFns
import Derived.Lib.ConvBytes
import Derived.Lib.Slices
import Derived.Lib.Small
import Derived.Lib.Strings
import Derived.Lib.Walk
import Derived.LoopIn
import Derived.LoopNIn
import Derived.Maps.AppendAt
import Derived.OrdersHeld
import Derived.OwnWalk
import Derived.OwnWalkIn
import Derived.RangeFuncBound
import Derived.RangeFuncBox
import Derived.RangeFuncCalls
import Derived.RangeFuncFrom
import Derived.RangeFuncLeaves
import Derived.RangeFuncNested
import Derived.RowKit
import Derived.RowKit3
import Derived.ScopeJumps
import Derived.Shelf.Abstract
import Derived.Sort.QuietIn
import Derived.Tactics
import Derived.TacticsInMore
import Derived.Test.YtcjkmmajokkkfaaChecked
import Derived.Test.YtcjkmmajokkkfaaProg
import Derived.WalkKit
import Derived.WalkMore
import Derived.WalkSpells
import Derived.WideLaws
section
namespace Go.Proofs.Ytcjkmmajokkkfaa.P
open Go.RowKit Go.Proofs.YtcjkmmajokkkfaaW.PrintWords Go.Proofs.YtcjkmmajokkkfaaW.PrintLast Go.Proofs.YtcjkmmajokkkfaaW.PrintMore
attribute [local go_sem] max2_int min2_int max_two min_two max_three min_three max_four min_four
set_option linter.unusedVariables false
set_option linter.unusedSimpArgs false
mutual
noncomputable def pfor_PutBlock.j0 : Nat → List Int → List Int → Bool → Option (List Int × Int)
 | 0, _, _, _ => none
 | k + 1, x0, x1, x27 => if x27 = true then (some (([] : List Int), 1)) else ((slices_Min_uint64_uint64.f k x1).bind fun t152 => (if 0 ≤ (x1.length : Int) then (if ((x1.length : Int) : Int).toNat ≤ 35184372088832 then (pfor_PutBlock.l0 k x0 x1 t152 (List.replicate ((x1.length : Int) : Int).toNat 0) x1 (x1.length : Int) 0) else (none)) else (none)))
noncomputable def pfor_PutBlock.l0 : Nat → List Int → List Int → Int → List Int → List Int → Int → Int → Option (List Int × Int)
 | 0, _, _, _, _, _, _, _ => none
 | k + 1, x0, x1, x6, x7, x33, x34, x35 => if x35 < x34 then (if 0 ≤ x35 then (if x35 < (x33.length : Int) then (if x35 < (x7.length : Int) then (pfor_PutBlock.l0 k x0 x1 x6 (x7.set (x35 : Int).toNat (IntKind.u64.wrap ((rd x33 x35) - x6))) x33 x34 (wrap64 (x35 + 1))) else (none)) else (none)) else (none)) else ((pfor_width.f k x7).bind fun t158 => (if 0 ≤ (x1.length : Int) then (if ((x1.length : Int) : Int).toNat ≤ 35184372088832 then (pfor_PutBlock.l1 k x0 x1 x6 t158 ([] : List Int) 0 (List.replicate ((x1.length : Int) : Int).toNat 0) x7 (x7.length : Int) 0) else (none)) else (none)))
noncomputable def pfor_PutBlock.l1 : Nat → List Int → List Int → Int → Int → List Int → Int → List Int → List Int → Int → Int → Option (List Int × Int)
 | 0, _, _, _, _, _, _, _, _, _, _ => none
 | k + 1, x0, x1, x6, x10, x11, x12, x13, x52, x53, x54 => if x54 < x53 then (if 0 ≤ x54 then (if x54 < (x52.length : Int) then ((pfor_high.f (rd x52 x54) x10).bind fun t163 => (if x54 < (x13.length : Int) then ((some (x13.set (x54 : Int).toNat (rd x52 x54) : List Int)).bind fun y164 => (if t163 > 0 then (if 0 ≤ x10 then (if x11.length < 140737488355328 then ((num_Put.f k (x11 ++ [(x54) % 256]) t163).bind fun t169 => (pfor_PutBlock.l1 k x0 x1 x6 x10 t169 (wrap64 (x12 + 1)) (y164.set (x54 : Int).toNat (Go.bits .andNot .u64 (rd x52 x54) (shl .u64 t163 x10))) x52 x53 (wrap64 (x54 + 1)))) else (none)) else (none)) else (pfor_PutBlock.l1 k x0 x1 x6 x10 x11 x12 y164 x52 x53 (wrap64 (x54 + 1))))) else (none))) else (none)) else (none)) else ((bits_Pack.f k x13 x10).bind fun bt172 => (if bt172.2 = 0 then ((slices_Clone_byte_byte.f x0).bind fun t176 => (if t176.length < 140737488355328 then ((num_Put.f k (t176 ++ [((x1.length : Int)) % 256]) x6).bind fun t182 => ((some (([(x10) % 256, (x12) % 256] : List Int) : List Int)).bind fun y185 => (if t182.length + y185.length < 140737488355328 then ((slices_Concat_byte_byte.f k (([(t182 ++ y185), bt172.1, x11] : List (List Int)))).bind fun t194 => (some (t194, 0))) else (none)))) else (none))) else (some (([] : List Int), bt172.2))))
end
noncomputable def pfor_PutBlock.f (k : Nat) (l0 : List Int) (l1 : List Int) : Option (List Int × Int) := if (l1.length : Int) < 1 then (pfor_PutBlock.j0 k l0 l1 true) else (pfor_PutBlock.j0 k l0 l1 (decide ((l1.length : Int) > 32)))
theorem pfor_PutBlock.mono_l : ∀ k, (∀ y0 y1 y2, LeO (pfor_PutBlock.j0 k y0 y1 y2) (pfor_PutBlock.j0 (k + 1) y0 y1 y2)) ∧ (∀ y0 y1 y2 y3 y4 y5 y6, LeO (pfor_PutBlock.l0 k y0 y1 y2 y3 y4 y5 y6) (pfor_PutBlock.l0 (k + 1) y0 y1 y2 y3 y4 y5 y6)) ∧ (∀ y0 y1 y2 y3 y4 y5 y6 y7 y8 y9, LeO (pfor_PutBlock.l1 k y0 y1 y2 y3 y4 y5 y6 y7 y8 y9) (pfor_PutBlock.l1 (k + 1) y0 y1 y2 y3 y4 y5 y6 y7 y8 y9))
 | 0 => ⟨fun _ _ _ r h => by simp [pfor_PutBlock.j0] at h, fun _ _ _ _ _ _ _ r h => by simp [pfor_PutBlock.l0] at h, fun _ _ _ _ _ _ _ _ _ _ r h => by simp [pfor_PutBlock.l1] at h⟩
 | k + 1 => by
  obtain ⟨ih0, ih1, ih2⟩ := pfor_PutBlock.mono_l k
  refine ⟨?_, ?_, ?_⟩
  ·intro y0 y1 y2
   unfold pfor_PutBlock.j0
   repeat' first
   | (with_reducible exact ih0 _ _ _)
   | (with_reducible exact ih1 _ _ _ _ _ _ _)
   | (with_reducible exact ih2 _ _ _ _ _ _ _ _ _ _)
   | (with_reducible exact bits_Pack.mono _ _ _)
   | (with_reducible exact num_Put.mono _ _ _)
   | (with_reducible exact pfor_width.mono _ _)
   | (with_reducible exact slices_Concat_byte_byte.mono _ _)
   | (with_reducible exact slices_Min_uint64_uint64.mono _ _)
   | (with_reducible exact LeO.refl _)
   | (with_reducible exact LeO.none _)
   | (with_reducible refine LeO.ite ?_ ?_)
   | (with_reducible refine LeO.bind ?_ (fun _ => ?_))
   | exact ih0 _ _ _
   | exact ih1 _ _ _ _ _ _ _
   | exact ih2 _ _ _ _ _ _ _ _ _ _
   | exact bits_Pack.mono _ _ _
   | exact num_Put.mono _ _ _
   | exact pfor_width.mono _ _
   | exact slices_Concat_byte_byte.mono _ _
   | exact slices_Min_uint64_uint64.mono _ _
   | exact LeO.none _
   | refine LeO.ite ?_ ?_
   | refine LeO.bind ?_ (fun _ => ?_)
  ·intro y0 y1 y2 y3 y4 y5 y6
   unfold pfor_PutBlock.l0
   repeat' first
   | (with_reducible exact ih0 _ _ _)
   | (with_reducible exact ih1 _ _ _ _ _ _ _)
   | (with_reducible exact ih2 _ _ _ _ _ _ _ _ _ _)
   | (with_reducible exact bits_Pack.mono _ _ _)
   | (with_reducible exact num_Put.mono _ _ _)
   | (with_reducible exact pfor_width.mono _ _)
   | (with_reducible exact slices_Concat_byte_byte.mono _ _)
   | (with_reducible exact slices_Min_uint64_uint64.mono _ _)
   | (with_reducible exact LeO.refl _)
   | (with_reducible exact LeO.none _)
   | (with_reducible refine LeO.ite ?_ ?_)
   | (with_reducible refine LeO.bind ?_ (fun _ => ?_))
   | exact ih0 _ _ _
   | exact ih1 _ _ _ _ _ _ _
   | exact ih2 _ _ _ _ _ _ _ _ _ _
   | exact bits_Pack.mono _ _ _
   | exact num_Put.mono _ _ _
   | exact pfor_width.mono _ _
   | exact slices_Concat_byte_byte.mono _ _
   | exact slices_Min_uint64_uint64.mono _ _
   | exact LeO.none _
   | refine LeO.ite ?_ ?_
   | refine LeO.bind ?_ (fun _ => ?_)
  ·intro y0 y1 y2 y3 y4 y5 y6 y7 y8 y9
   unfold pfor_PutBlock.l1
   repeat' first
   | (with_reducible exact ih0 _ _ _)
   | (with_reducible exact ih1 _ _ _ _ _ _ _)
   | (with_reducible exact ih2 _ _ _ _ _ _ _ _ _ _)
   | (with_reducible exact bits_Pack.mono _ _ _)
   | (with_reducible exact num_Put.mono _ _ _)
   | (with_reducible exact pfor_width.mono _ _)
   | (with_reducible exact slices_Concat_byte_byte.mono _ _)
   | (with_reducible exact slices_Min_uint64_uint64.mono _ _)
   | (with_reducible exact LeO.refl _)
   | (with_reducible exact LeO.none _)
   | (with_reducible refine LeO.ite ?_ ?_)
   | (with_reducible refine LeO.bind ?_ (fun _ => ?_))
   | exact ih0 _ _ _
   | exact ih1 _ _ _ _ _ _ _
   | exact ih2 _ _ _ _ _ _ _ _ _ _
   | exact bits_Pack.mono _ _ _
   | exact num_Put.mono _ _ _
   | exact pfor_width.mono _ _
   | exact slices_Concat_byte_byte.mono _ _
   | exact slices_Min_uint64_uint64.mono _ _
   | exact LeO.none _
   | refine LeO.ite ?_ ?_
   | refine LeO.bind ?_ (fun _ => ?_)
theorem pfor_PutBlock.mono : ∀ a0 a1 k, LeO (pfor_PutBlock.f k a0 a1) (pfor_PutBlock.f (k + 1) a0 a1) := by
 intro a0 a1 k
 obtain ⟨ih0, ih1, ih2⟩ := pfor_PutBlock.mono_l k
 unfold pfor_PutBlock.f
 repeat' first
   | (with_reducible exact ih0 _ _ _)
   | (with_reducible exact ih1 _ _ _ _ _ _ _)
   | (with_reducible exact ih2 _ _ _ _ _ _ _ _ _ _)
   | (with_reducible exact bits_Pack.mono _ _ _)
   | (with_reducible exact num_Put.mono _ _ _)
   | (with_reducible exact pfor_width.mono _ _)
   | (with_reducible exact slices_Concat_byte_byte.mono _ _)
   | (with_reducible exact slices_Min_uint64_uint64.mono _ _)
   | (with_reducible exact LeO.refl _)
   | (with_reducible exact LeO.none _)
   | (with_reducible refine LeO.ite ?_ ?_)
   | (with_reducible refine LeO.bind ?_ (fun _ => ?_))
   | exact ih0 _ _ _
   | exact ih1 _ _ _ _ _ _ _
   | exact ih2 _ _ _ _ _ _ _ _ _ _
   | exact bits_Pack.mono _ _ _
   | exact num_Put.mono _ _ _
   | exact pfor_width.mono _ _
   | exact slices_Concat_byte_byte.mono _ _
   | exact slices_Min_uint64_uint64.mono _ _
   | exact LeO.none _
   | refine LeO.ite ?_ ?_
   | refine LeO.bind ?_ (fun _ => ?_)
set_option maxHeartbeats 8000000 in
set_option maxRecDepth 100000 in
theorem pfor_PutBlock.calls (k : Nat) (A0 : Option Addr) (c0 : Nat) (l0 : List Int) (A1 : Option Addr) (c1 : Nat) (l1 : List Int) (r1 : List Int) (r2 : Int) (w : World) (hr0 : Kd.C (Kd.int .u8) w A0 l0.length l0) (hc0 : l0.length ≤ c0) (hr1 : Kd.C (Kd.int .u64) w A1 l1.length l1) (hc1 : l1.length ≤ c1) (h : pfor_PutBlock.f k l0 l1 = some (r1, r2)) :
  Calls Try.prog 62 #[.slice A0 l0.length c0, .slice A1 l1.length c1] w fun e w' => ∃ v0_ : Value, e = .returned (.tuple #[v0_, .int .i64 r2]) ∧ Kd.R (Kd.int .u8) 5 w' w.heap.size (fun _ => True) v0_ r1 ∧ Below w.heap.size w w' := by
 have HR0 := Aside0.mk hr0
 have HC0 := Aside0.mk hc0
 clear hr0 hc0
 have HR1 := Aside0.mk hr1
 have HC1 := Aside0.mk hc1
 clear hr1 hc1
 have HB := Aside0.mk (Below.refl w.heap.size w)
 have H : (if (l1.length : Int) < 1 then (pfor_PutBlock.j0 k l0 l1 true) else (pfor_PutBlock.j0 k l0 l1 (decide ((l1.length : Int) > 32)))) = some (r1, r2) := h
 clear h
 have HC3 := Aside0.mk H
 clear H
 go_enter Try.func62, Try.ntmps62
 go_upto_region 1 with (fail)
 go_cut [27] (fun v27 wc => ∃ (kq : Nat) (x27_2 : Bool), v27 = .bool x27_2 ∧ Aside0 (pfor_PutBlock.j0 kq l0 l1 x27_2 = some (r1, r2)) ∧ Aside0 (kq ≤ k) ∧ Aside0 (Below w.heap.size w wc))
 case first =>
  have H := HC3.out
  clear HC3
  by_cases c4 : (l1.length : Int) < 1
  ·rw [if_pos c4] at H
   have c4b0 : decide ((l1.length : Int) < 1) = true := decide_eq_true c4
   have c4b1 : decide (l1.length < 1) = true := decide_eq_true (by omega)
   clear c4
   (first | rw [c4b0] | (simp only [i64_w, i32_w]; rw [c4b0]) | skip)
   have H' := Aside0.mk H
   clear H
   go_wp2
   go_meet
   case rel => exact ⟨_, (true), (by first | rfl | (simp; done) | (simp [*]; done)), H', ⟨by first | omega | exact Nat.le_refl _⟩, ⟨by repeat (first | (with_reducible first | exact HB.out | apply pbA_ | apply pbN_ | apply pb1_) | exact HB.out)⟩⟩
  ·rw [if_neg c4] at H
   have c4b0 : decide ((l1.length : Int) < 1) = false := decide_eq_false c4
   have c4b1 : decide (l1.length < 1) = false := decide_eq_false (by omega)
   clear c4
   (first | rw [c4b0] | (simp only [i64_w, i32_w]; rw [c4b0]) | skip)
   have H' := Aside0.mk H
   clear H
   go_wp2
   go_meet
   case rel => exact ⟨_, (decide ((l1.length : Int) > 32)), (by first | rfl | (simp; done) | (simp [*]; done)), H', ⟨by first | omega | exact Nat.le_refl _⟩, ⟨by repeat (first | (with_reducible first | exact HB.out | apply pbA_ | apply pbN_ | apply pb1_) | exact HB.out)⟩⟩
 case rest =>
  clear HC3
  try clear c1
  try clear p2
  try clear c4
  try clear c4b0
  try clear c4b1
  obtain ⟨kq, x27_2, rfl, HA, HJ2, HB⟩ := hcut
  cases kq with
  | zero => exact absurd HA.out (by simp [pfor_PutBlock.j0])
  | succ kj2 =>
   have H := HA.out
   clear HA
   simp only [pfor_PutBlock.j0] at H
   by_cases c5 : x27_2 = true
   ·subst c5
    have H1 : (some (([] : List Int), 1)) = some (r1, r2) := by rw [if_pos rfl] at H; exact H
    clear H
    have H := H1
    clear H1
    simp only [Option.some.injEq, Prod.mk.injEq] at H
    obtain ⟨rfl, rfl⟩ := H
    go_wp2
    go_ret2
    exact ⟨_, by first | rfl | (simp [eWn_, eWs_] <;> rfl) | (simp [*, eWn_, eWs_] <;> rfl), by first | exact Kd.R_nil _ _ _ _ _ | exact Kd.N_nil _ _ _ _ _ | exact Kd.V_nil _ _ _ _ _ | exact Kd.Q_nil _ _ _ _ _ | exact Kd.S_nil _ _ _ _ _, by repeat (first | (with_reducible first | exact HB.out | apply pbA_ | apply pbN_ | apply pb1_) | exact HB.out)⟩
   ·replace c5 := Bool.eq_false_iff.mpr c5
    subst c5
    have H1 : ((slices_Min_uint64_uint64.f kj2 l1).bind fun t152 => (if 0 ≤ (l1.length : Int) then (if ((l1.length : Int) : Int).toNat ≤ 35184372088832 then (pfor_PutBlock.l0 kj2 l0 l1 t152 (List.replicate ((l1.length : Int) : Int).toNat 0) l1 (l1.length : Int) 0) else (none)) else (none))) = some (r1, r2) := by rw [if_neg (show ¬ (false = true) by decide)] at H; exact H
    clear H
    have H := H1
    clear H1
    replace H := Option.bind_eq_some_iff.mp H
    obtain ⟨t152, A60, H⟩ := H
    replace H : (if 0 ≤ (l1.length : Int) then (if ((l1.length : Int) : Int).toNat ≤ 35184372088832 then (pfor_PutBlock.l0 kj2 l0 l1 t152 (List.replicate ((l1.length : Int) : Int).toNat 0) l1 (l1.length : Int) 0) else (none)) else (none)) = some (r1, r2) := H
    have A6 := Aside0.mk A60
    clear A60
    by_cases c7 : 0 ≤ (l1.length : Int)
    ·rw [if_pos c7] at H
     have c7b0 := eq_true c7
     have c7b1 : decide (0 ≤ (l1.length : Int)) = true := decide_eq_true c7
     clear c7
     by_cases c8 : ((l1.length : Int) : Int).toNat ≤ 35184372088832
     ·rw [if_pos c8] at H
      have c8b0 := eq_true c8
      have c8b1 : decide (((l1.length : Int) : Int).toNat ≤ 35184372088832) = true := decide_eq_true c8
      clear c8
      obtain ⟨y153, hy153⟩ : ∃ y_ : List Int, y_ = (List.replicate ((l1.length : Int) : Int).toNat 0) := ⟨_, rfl⟩
      replace H : (pfor_PutBlock.l0 kj2 l0 l1 t152 y153 l1 (l1.length : Int) 0) = some (r1, r2) := by first | (rw [hy153]; with_reducible exact H) | (have H2_ := (Option.bind_some _ _).symm.trans H; rw [hy153]; with_reducible exact H2_) | (have H2_ := (Option.bind_some _ _).symm.trans H; with_reducible exact H2_) | with_reducible exact H | (rw [hy153]; exact H) | exact H
      have Ny153 := Aside0.mk hy153
      clear hy153
      have H' := Aside0.mk H
      clear H
      go_wp2_with (first | ((with_reducible refine gaC_ (f := 69) rfl ?_); refine goesL_ (some 29) rfl rfl Try.func69 (by kernel_rfl) rfl #[.slice A1 l1.length c1] rfl (by (try simp only [List.map_toArray, List.map_cons, List.map_nil]); first | done | rfl | (simp only [List.length_drop, List.length_take]; rfl)) ?_; (with_reducible refine (slices_Min_uint64_uint64.calls kj2 _ _ l1 t152 _ ?side1 ?side2 A6.out).mono ?_); (case side1 => repeat (first | exact (Kd.C_below HR1.out HB.out) | (with_reducible refine Kd.cA_ ?_ _) | (with_reducible refine Kd.cN_ ?_ _) | (with_reducible refine Kd.cD_ ?_))); (case side2 => exact HC1.out); rintro e w9 ⟨rfl, hb⟩; refine ⟨_, rfl, ?_⟩; have n0_ := Aside0.mk (below_step (by repeat (first | (with_reducible first | exact HB.out | apply pbA_ | apply pbN_ | apply pb1_) | exact HB.out)) hb); clear HB; have HB := n0_; clear n0_; (try clear hb); (try clear hb2); (try clear hk); (try clear hi)) | ((with_reducible refine gate_dst (N := 32) rfl ?_); (try (refine gate_guard (by rfl) ?_; dsimp only)); refine Kd.R_make (Kd.int .u64) _ 50 rfl (N := 32) rfl 49 _ _ rfl (l1.length : Int) rfl rfl Try.underlying49 (.int .u64 0) 8 info50 rfl (by decide) (by omega) 0 (ok := fun _ => True) (okp := fun _ => True) rfl (fun _ hk => hk) trivial (of_decide_eq_true (by first | (with_reducible assumption) | assumption)) (Nat.le_trans (Nat.mul_le_mul_right _ (of_decide_eq_true (by first | (with_reducible assumption) | assumption) : (l1.length : Int).toNat ≤ 35184372088832)) (by omega)) (Below.refl _ _) (Nat.le_refl _) ?_; intro v154 w10 ho11 hb hg_ hnew_; clear hg_ hnew_; (first | rw [← Ny153.out] at ho11 | (simp only [Int.reduceToNat] at ho11; rw [← Ny153.out] at ho11)); have n0_ := Aside0.mk (Kd.R_lower ho11 (pbS_ (by repeat (first | (with_reducible first | exact HB.out | apply pbA_ | apply pbN_ | apply pb1_) | exact HB.out)))); have n1_ := Aside0.mk (below_step (by repeat (first | (with_reducible first | exact HB.out | apply pbA_ | apply pbN_ | apply pb1_) | exact HB.out)) hb); clear HB; have HO155 := n0_; have HB := n1_; clear n0_ n1_; clear hb ho11))
      go_loopg [35] kj2 (fun kq v35 w' => ∃ (x7_2 : List Int) (x35_2 : Int), v35 = .int .i64 x35_2 ∧ Aside0 (pfor_PutBlock.l0 kq l0 l1 t152 x7_2 l1 (l1.length : Int) x35_2 = some (r1, r2)) ∧ Aside0 (kq ≤ kj2) ∧ Aside0 (Kd.R (Kd.int .u64) 50 w' w.heap.size (fun _ => True) v154 x7_2) ∧ Aside0 (Below w.heap.size w w'))
      case atStart => exact ⟨(y153), (0), (by first | rfl | (simp; done) | (simp [*]; done)), H', ⟨Nat.le_refl _⟩, ⟨by (with_reducible repeat (first | apply Kd.rA_ | apply Kd.rN_ | apply Kd.rD_)); exact HO155.out⟩, ⟨by repeat (first | (with_reducible first | exact HB.out | apply pbA_ | apply pbN_ | apply pb1_) | exact HB.out)⟩⟩
      case round =>
       clear H'
       try clear c1
       try clear p2
       try clear c4
       try clear c4b0
       try clear c4b1
       try clear c5
       try clear c6
       try clear c7
       try clear c7b0
       try clear c7b1
       try clear c8
       try clear c8b0
       try clear c8b1
       try clear p2
       obtain ⟨x7_2, x35_2, rfl, HA, HK2, HO_7, HB⟩ := hrel
       cases gk with
       | zero => exact absurd HA.out (by simp [pfor_PutBlock.l0])
       | succ k2 =>
        have H := HA.out
        clear HA
        simp only [pfor_PutBlock.l0] at H
        by_cases c12 : x35_2 < (l1.length : Int)
        ·rw [if_pos c12] at H
         have c12b0 : decide (x35_2 < (l1.length : Int)) = true := decide_eq_true c12
         clear c12
         by_cases c13 : 0 ≤ x35_2
         ·rw [if_pos c13] at H
          have c13b0 : decide (0 ≤ x35_2) = true := decide_eq_true c13
          clear c13
          by_cases c14 : x35_2 < (l1.length : Int)
          ·rw [if_pos c14] at H
           have c14b0 : decide (x35_2 < (l1.length : Int)) = true := decide_eq_true c14
           clear c14
           by_cases c15 : x35_2 < (x7_2.length : Int)
           ·rw [if_pos c15] at H
            have c15b0 : decide (x35_2 < (x7_2.length : Int)) = true := decide_eq_true c15
            clear c15
            obtain ⟨y157, hy157⟩ : ∃ y_ : List Int, y_ = (x7_2.set (x35_2 : Int).toNat (IntKind.u64.wrap ((rd l1 x35_2) - t152))) := ⟨_, rfl⟩
            replace H : (pfor_PutBlock.l0 k2 l0 l1 t152 y157 l1 (l1.length : Int) (wrap64 (x35_2 + 1))) = some (r1, r2) := by first | (rw [hy157]; with_reducible exact H) | (have H2_ := (Option.bind_some _ _).symm.trans H; rw [hy157]; with_reducible exact H2_) | (have H2_ := (Option.bind_some _ _).symm.trans H; with_reducible exact H2_) | with_reducible exact H | (rw [hy157]; exact H) | exact H
            have Ny157 := Aside0.mk hy157
            clear hy157
            have H' := Aside0.mk H
            clear H
            have p156 : 0 ≤ (x35_2 : Int) := of_decide_eq_true (by first | (with_reducible assumption) | assumption)
            have q156 : x35_2 < (l1.length : Int) := of_decide_eq_true (by first | (with_reducible assumption) | assumption)
            obtain ⟨ad156, e156, hx156_0⟩ := Kd.at_int HR1.out x35_2 p156 q156
            cases e156
            replace hx156_0 := (HB.out.cell (World.block_lt_of_cell? w _ hx156_0)).trans hx156_0
            replace p156 := eq_true p156
            replace q156 := eq_true q156
            have p16 : 0 ≤ (x35_2 : Int) := of_decide_eq_true (by first | (with_reducible assumption) | assumption)
            have q16 : (x35_2 : Int) < ((x7_2.length : Int) : Int) := of_decide_eq_true (by first | (with_reducible assumption) | assumption)
            obtain ⟨go16, co16, eo16, gb16, gl16, cl16, HG16⟩ := Kd.R_form HO_7.out (by omega)
            (first | cases eo16 | (injection eo16 with ea_ en_ ec_; (first | subst ea_ | (injection ea_ with ea_; subst ea_)); subst ec_; clear en_))
            have GB16 := Aside0.mk gb16
            have GG16 := Aside0.mk HG16
            clear gb16 gl16 HG16
            obtain ⟨hx16_0, hf16_0⟩ := Kd.R_celln 0 HO_7.out (x35_2 : Int) p16 q16
            replace p16 := eq_true p16
            replace q16 := eq_true q16
            have HP17 := Kd.R_putg HO_7.out (x35_2 : Int) (IntKind.u64.wrap ((rd l1 x35_2) - t152))
            go_wp2_with (first | ((with_reducible refine gate_store (t := 50) (p := 45) rfl ?_); refine store_event (t := 50) (p := 45) (v := ?vo_w18) (w1 := (wr.setCell ⟨go16, (x35_2 : Int).toNat, none⟩ (.int .u64 (IntKind.u64.wrap ((rd l1 x35_2) - t152))))) ?hg ?ho ?hn ?hr ?_; (case ho => rfl); (case hg => rfl); (case hn => rfl); (case hr => first | (go_simp; done) | (go_simp; rfl)); intro w18 hw; have hg : wr.grownBy w18 (some go16) := (by rw [hw]; exact HP17.2); have hp_ : Kd.R (Kd.int .u64) 50 w18 w.heap.size (fun _ => True) (.slice (some ⟨go16, 0, none⟩) x7_2.length co16) y157 := (by rw [hw, Ny157.out]; exact HP17.1); clear HP17; have n0_ := Aside0.mk (hp_); have n1_ := Aside0.mk ((by rw [hw]; exact below_set (HB.out) GB16.out : Below w.heap.size w w18)); clear HO_7; clear HB; have HO_7 := n0_; have HB := n1_; clear n0_ n1_; clear hg hw hp_))
            go_roundg k2
            case measure => have := HJ2.out; have := HK2.out; omega
            case rel => exact ⟨(y157), (wrap64 (x35_2 + 1)), (by first | rfl | (simp; done) | (simp [*]; done)), H', ⟨by have := HJ2.out; have := HK2.out; omega⟩, ⟨by (with_reducible repeat (first | apply Kd.rA_ | apply Kd.rN_ | apply Kd.rD_)); exact HO_7.out⟩, ⟨by repeat (first | (with_reducible first | exact HB.out | apply pbA_ | apply pbN_ | apply pb1_) | exact HB.out)⟩⟩
           ·rw [if_neg c15] at H
            exact absurd H (by simp)
          ·rw [if_neg c14] at H
           exact absurd H (by simp)
         ·rw [if_neg c13] at H
          exact absurd H (by simp)
        ·rw [if_neg c12] at H
         have c12b0 : decide (x35_2 < (l1.length : Int)) = false := decide_eq_false c12
         clear c12
         replace H := Option.bind_eq_some_iff.mp H
         obtain ⟨t158, A190, H⟩ := H
         replace H : (if 0 ≤ (l1.length : Int) then (if ((l1.length : Int) : Int).toNat ≤ 35184372088832 then (pfor_PutBlock.l1 k2 l0 l1 t152 t158 ([] : List Int) 0 (List.replicate ((l1.length : Int) : Int).toNat 0) x7_2 (x7_2.length : Int) 0) else (none)) else (none)) = some (r1, r2) := H
         have A19 := Aside0.mk A190
         clear A190
         by_cases c20 : 0 ≤ (l1.length : Int)
         ·rw [if_pos c20] at H
          have c20b0 := eq_true c20
          have c20b1 : decide (0 ≤ (l1.length : Int)) = true := decide_eq_true c20
          clear c20
          by_cases c21 : ((l1.length : Int) : Int).toNat ≤ 35184372088832
          ·rw [if_pos c21] at H
           have c21b0 := eq_true c21
           have c21b1 : decide (((l1.length : Int) : Int).toNat ≤ 35184372088832) = true := decide_eq_true c21
           clear c21
           obtain ⟨y159, hy159⟩ : ∃ y_ : List Int, y_ = (List.replicate ((l1.length : Int) : Int).toNat 0) := ⟨_, rfl⟩
           replace H : (pfor_PutBlock.l1 k2 l0 l1 t152 t158 ([] : List Int) 0 y159 x7_2 (x7_2.length : Int) 0) = some (r1, r2) := by first | (rw [hy159]; with_reducible exact H) | (have H2_ := (Option.bind_some _ _).symm.trans H; rw [hy159]; with_reducible exact H2_) | (have H2_ := (Option.bind_some _ _).symm.trans H; with_reducible exact H2_) | with_reducible exact H | (rw [hy159]; exact H) | exact H
           have Ny159 := Aside0.mk hy159
           clear hy159
           have H' := Aside0.mk H
           clear H
           obtain ⟨Ao22, co22, eo22⟩ := Kd.R_slice HO_7.out
           subst eo22
           go_wp2_with (first | ((with_reducible refine gaC_ (f := 70) rfl ?_); refine goesL_ (some 48) rfl rfl Try.func70 (by kernel_rfl) rfl #[.slice Ao22 x7_2.length co22] rfl (by (try simp only [List.map_toArray, List.map_cons, List.map_nil]); first | done | rfl | (simp only [List.length_drop, List.length_take]; rfl)) ?_; (with_reducible refine (pfor_width.calls k2 _ _ x7_2 t158 _ ?side1 ?side2 A19.out).mono ?_); (case side1 => repeat (first | exact (Kd.R_reads' HO_7.out).2.2 | (with_reducible refine Kd.cA_ ?_ _) | (with_reducible refine Kd.cN_ ?_ _) | (with_reducible refine Kd.cD_ ?_))); (case side2 => exact (Kd.R_reads' HO_7.out).2.1); rintro e w23 ⟨rfl, hb⟩; refine ⟨_, rfl, ?_⟩; have n0_ := Aside0.mk (Kd.R_below (by (with_reducible repeat (first | apply Kd.rA_ | apply Kd.rN_ | apply Kd.rD_)); exact HO_7.out) hb); have n1_ := Aside0.mk (below_step (by repeat (first | (with_reducible first | exact HB.out | apply pbA_ | apply pbN_ | apply pb1_) | exact HB.out)) hb); clear HO_7; clear HB; have HO_7 := n0_; have HB := n1_; clear n0_ n1_; (try clear hb); (try clear hb2); (try clear hk); (try clear hi)) | ((with_reducible refine gate_dst (N := 51) rfl ?_); (try (refine gate_guard (by rfl) ?_; dsimp only)); refine Kd.R_make (Kd.int .u64) _ 50 rfl (N := 51) rfl 49 _ _ rfl (l1.length : Int) rfl rfl Try.underlying49 (.int .u64 0) 8 info50 rfl (by decide) (by omega) 0 (ok := fun _ => True) (okp := fun _ => True) rfl (fun _ hk => hk) trivial (of_decide_eq_true (by first | (with_reducible assumption) | assumption)) (Nat.le_trans (Nat.mul_le_mul_right _ (of_decide_eq_true (by first | (with_reducible assumption) | assumption) : (l1.length : Int).toNat ≤ 35184372088832)) (by omega)) (Below.refl _ _) (Nat.le_refl _) ?_; intro v160 w24 ho25 hb hg_ hnew_; clear hg_ hnew_; (first | rw [← Ny159.out] at ho25 | (simp only [Int.reduceToNat] at ho25; rw [← Ny159.out] at ho25)); have n0_ := Aside0.mk (Kd.R_elder' (by (with_reducible repeat (first | apply Kd.rA_ | apply Kd.rN_ | apply Kd.rD_)); exact HO_7.out) (Kd.R_base ho25) hb); have n1_ := Aside0.mk (Kd.R_lower (Kd.R_new' ho25 (Kd.R_lt (by (with_reducible repeat (first | apply Kd.rA_ | apply Kd.rN_ | apply Kd.rD_)); exact HO_7.out))) (pbS_ (by repeat (first | (with_reducible first | exact HB.out | apply pbA_ | apply pbN_ | apply pb1_) | exact HB.out)))); have n2_ := Aside0.mk (below_step (by repeat (first | (with_reducible first | exact HB.out | apply pbA_ | apply pbN_ | apply pb1_) | exact HB.out)) hb); clear HO_7; clear HB; have HO_7 := n0_; have HO161 := n1_; have HB := n2_; clear n0_ n1_ n2_; clear hb ho25))
           go_loopg [11, 12, 54] k2 (fun kq v11 v12 v54 w' => ∃ (x11_3 : List Int) (x12_3 : Int) (x13_3 : List Int) (x54_3 : Int), v12 = .int .i64 x12_3 ∧ v54 = .int .i64 x54_3 ∧ Aside0 (pfor_PutBlock.l1 kq l0 l1 t152 t158 x11_3 x12_3 x13_3 x7_2 (x7_2.length : Int) x54_3 = some (r1, r2)) ∧ Aside0 (kq ≤ k2) ∧ Aside0 (Kd.R (Kd.int .u8) 5 w' w.heap.size (fun _ => True) v11 x11_3) ∧ Aside0 (Kd.R (Kd.int .u64) 50 w' w.heap.size (fun k_ => some k_ ≠ ((.slice Ao22 x7_2.length co22) : Value).ownBlock) v160 x13_3) ∧ Aside0 (Kd.R (Kd.int .u64) 50 w' w.heap.size (fun k_ => some k_ ≠ (v160 : Value).ownBlock) (.slice Ao22 x7_2.length co22) x7_2) ∧ Aside0 (Below w.heap.size w w'))
           case atStart => exact ⟨(([] : List Int)), (0), (y159), (0), (by first | rfl | (simp; done) | (simp [*]; done)), (by first | rfl | (simp; done) | (simp [*]; done)), H', ⟨Nat.le_refl _⟩, ⟨by first | exact Kd.R_nil _ _ _ _ _ | exact Kd.N_nil _ _ _ _ _ | exact Kd.V_nil _ _ _ _ _ | exact Kd.Q_nil _ _ _ _ _ | exact Kd.S_nil _ _ _ _ _⟩, ⟨by (with_reducible repeat (first | apply Kd.rA_ | apply Kd.rN_ | apply Kd.rD_)); exact Kd.R_mono HO161.out (fun _ hk => hk.2)⟩, ⟨by (with_reducible repeat (first | apply Kd.rA_ | apply Kd.rN_ | apply Kd.rD_)); exact Kd.R_mono HO_7.out (fun _ hk => hk.2)⟩, ⟨by repeat (first | (with_reducible first | exact HB.out | apply pbA_ | apply pbN_ | apply pb1_) | exact HB.out)⟩⟩
           case round =>
            clear H'
            try clear c1
            try clear p1
            try clear q1
            try clear hx1
            try clear c2
            try clear p2
            try clear c4
            try clear c4b0
            try clear c4b1
            try clear c5
            try clear c6
            try clear p6
            try clear c7
            try clear c7b0
            try clear c7b1
            try clear c8
            try clear c8b0
            try clear c8b1
            try clear c12
            try clear c12b0
            try clear c13
            try clear c13b0
            try clear c14
            try clear c14b0
            try clear c15
            try clear c15b0
            try clear p15
            try clear q15
            try clear hx15
            try clear p16
            try clear q16
            try clear hx16
            try clear hf16
            try clear c20
            try clear c20b0
            try clear c20b1
            try clear c21
            try clear c21b0
            try clear c21b1
            try clear hx156_0
            try clear hx16_0
            try clear p156
            try clear p16
            try clear p2
            try clear q156
            try clear q16
            obtain ⟨x11_3, x12_3, x13_3, x54_3, rfl, rfl, HA, HK3, HO_11, HO_13, HO_52, HB⟩ := hrel
            cases gk with
            | zero => exact absurd HA.out (by simp [pfor_PutBlock.l1])
            | succ k3 =>
             have H := HA.out
             clear HA
             simp only [pfor_PutBlock.l1] at H
             by_cases c26 : x54_3 < (x7_2.length : Int)
             ·rw [if_pos c26] at H
              have c26b0 : decide (x54_3 < (x7_2.length : Int)) = true := decide_eq_true c26
              clear c26
              by_cases c27 : 0 ≤ x54_3
              ·rw [if_pos c27] at H
               have c27b0 : decide (0 ≤ x54_3) = true := decide_eq_true c27
               clear c27
               by_cases c28 : x54_3 < (x7_2.length : Int)
               ·rw [if_pos c28] at H
                have c28b0 : decide (x54_3 < (x7_2.length : Int)) = true := decide_eq_true c28
                clear c28
                replace H := Option.bind_eq_some_iff.mp H
                obtain ⟨t163, A290, H⟩ := H
                replace H : (if x54_3 < (x13_3.length : Int) then ((some (x13_3.set (x54_3 : Int).toNat (rd x7_2 x54_3) : List Int)).bind fun y164 => (if t163 > 0 then (if 0 ≤ t158 then (if x11_3.length < 140737488355328 then ((num_Put.f k3 (x11_3 ++ [(x54_3) % 256]) t163).bind fun t169 => (pfor_PutBlock.l1 k3 l0 l1 t152 t158 t169 (wrap64 (x12_3 + 1)) (y164.set (x54_3 : Int).toNat (Go.bits .andNot .u64 (rd x7_2 x54_3) (shl .u64 t163 t158))) x7_2 (x7_2.length : Int) (wrap64 (x54_3 + 1)))) else (none)) else (none)) else (pfor_PutBlock.l1 k3 l0 l1 t152 t158 x11_3 x12_3 y164 x7_2 (x7_2.length : Int) (wrap64 (x54_3 + 1))))) else (none)) = some (r1, r2) := H
                have A29 := Aside0.mk A290
                clear A290
                by_cases c30 : x54_3 < (x13_3.length : Int)
                ·rw [if_pos c30] at H
                 have c30b0 : decide (x54_3 < (x13_3.length : Int)) = true := decide_eq_true c30
                 clear c30
                 obtain ⟨y164, hy164⟩ : ∃ y_ : List Int, y_ = (x13_3.set (x54_3 : Int).toNat (rd x7_2 x54_3)) := ⟨_, rfl⟩
                 replace H : (if t163 > 0 then (if 0 ≤ t158 then (if x11_3.length < 140737488355328 then ((num_Put.f k3 (x11_3 ++ [(x54_3) % 256]) t163).bind fun t169 => (pfor_PutBlock.l1 k3 l0 l1 t152 t158 t169 (wrap64 (x12_3 + 1)) (y164.set (x54_3 : Int).toNat (Go.bits .andNot .u64 (rd x7_2 x54_3) (shl .u64 t163 t158))) x7_2 (x7_2.length : Int) (wrap64 (x54_3 + 1)))) else (none)) else (none)) else (pfor_PutBlock.l1 k3 l0 l1 t152 t158 x11_3 x12_3 y164 x7_2 (x7_2.length : Int) (wrap64 (x54_3 + 1)))) = some (r1, r2) := by first | (rw [hy164]; with_reducible exact H) | (have H2_ := (Option.bind_some _ _).symm.trans H; rw [hy164]; with_reducible exact H2_) | (have H2_ := (Option.bind_some _ _).symm.trans H; with_reducible exact H2_) | with_reducible exact H | (rw [hy164]; exact H) | exact H
                 have Ny164 := Aside0.mk hy164
                 clear hy164
                 by_cases c32 : t163 > 0
                 ·rw [if_pos c32] at H
                  have c32b0 : decide (0 < t163) = true := decide_eq_true c32
                  clear c32
                  by_cases c33 : 0 ≤ t158
                  ·rw [if_pos c33] at H
                   have c33b0 := eq_true c33
                   have c33b1 : decide (0 ≤ t158) = true := decide_eq_true c33
                   clear c33
                   obtain ⟨ji34, hji34⟩ : ∃ j_ : Int, (shl .u64 t163 t158) = j_ := ⟨_, rfl⟩
                   replace H : (if x11_3.length < 140737488355328 then ((num_Put.f k3 (x11_3 ++ [(x54_3) % 256]) t163).bind fun t169 => (pfor_PutBlock.l1 k3 l0 l1 t152 t158 t169 (wrap64 (x12_3 + 1)) (y164.set (x54_3 : Int).toNat (Go.bits .andNot .u64 (rd x7_2 x54_3) (ji34))) x7_2 (x7_2.length : Int) (wrap64 (x54_3 + 1)))) else (none)) = some (r1, r2) := by first | (rw [hji34] at H; exact H) | (simp only [hji34] at H ⊢; exact H)
                   (try rw [hji34] at A29)
                   have hji34_ : (IntKind.u64.wrap (t163 * 2 ^ min t158.toNat 64)) = ji34 := hji34
                   have hji34z : t158 ≤ 64 → (IntKind.u64.wrap (t163 * 2 ^ t158.toNat)) = ji34 := shl_small hji34
                   obtain ⟨y165, hy165⟩ : ∃ y_ : List Int, y_ = (y164.set (x54_3 : Int).toNat (Go.bits .andNot .u64 (rd x7_2 x54_3) (ji34))) := ⟨_, rfl⟩
                   replace H : (if x11_3.length < 140737488355328 then ((num_Put.f k3 (x11_3 ++ [(x54_3) % 256]) t163).bind fun t169 => (pfor_PutBlock.l1 k3 l0 l1 t152 t158 t169 (wrap64 (x12_3 + 1)) y165 x7_2 (x7_2.length : Int) (wrap64 (x54_3 + 1)))) else (none)) = some (r1, r2) := by first | (rw [hy165]; with_reducible exact H) | (have H2_ := (Option.bind_some _ _).symm.trans H; rw [hy165]; with_reducible exact H2_) | (have H2_ := (Option.bind_some _ _).symm.trans H; with_reducible exact H2_) | with_reducible exact H | (rw [hy165]; exact H) | exact H
                   have Ny165 := Aside0.mk hy165
                   clear hy165
                   by_cases c36 : x11_3.length < 140737488355328
                   ·rw [if_pos c36] at H
                    have LMc36 := Aside0.mk c36
                    clear c36
                    obtain ⟨y166, hy166⟩ : ∃ y_ : List Int, y_ = (x11_3 ++ [(x54_3) % 256]) := ⟨_, rfl⟩
                    replace H : ((num_Put.f k3 y166 t163).bind fun t169 => (pfor_PutBlock.l1 k3 l0 l1 t152 t158 t169 (wrap64 (x12_3 + 1)) y165 x7_2 (x7_2.length : Int) (wrap64 (x54_3 + 1)))) = some (r1, r2) := by first | (rw [hy166]; with_reducible exact H) | (have H2_ := (Option.bind_some _ _).symm.trans H; rw [hy166]; with_reducible exact H2_) | (have H2_ := (Option.bind_some _ _).symm.trans H; with_reducible exact H2_) | with_reducible exact H | (rw [hy166]; exact H) | exact H
                    have Ny166 := Aside0.mk hy166
                    clear hy166
                    replace H := Option.bind_eq_some_iff.mp H
                    obtain ⟨t169, A370, H⟩ := H
                    replace H : (pfor_PutBlock.l1 k3 l0 l1 t152 t158 t169 (wrap64 (x12_3 + 1)) y165 x7_2 (x7_2.length : Int) (wrap64 (x54_3 + 1))) = some (r1, r2) := H
                    have A37 := Aside0.mk A370
                    clear A370
                    have H' := Aside0.mk H
                    clear H
                    have p162 : 0 ≤ (x54_3 : Int) := of_decide_eq_true (by first | (with_reducible assumption) | assumption)
                    have q162 : x54_3 < (x7_2.length : Int) := of_decide_eq_true (by first | (with_reducible assumption) | assumption)
                    obtain ⟨ad162, e162, hx162_0⟩ := Kd.at_int (Kd.R_reads' HO_52.out).2.2 x54_3 p162 q162
                    cases e162
                    replace p162 := eq_true p162
                    replace q162 := eq_true q162
                    go_wp2_with (first | ((with_reducible refine gaC_ (f := 71) rfl ?_); refine goesL_ (some 61) rfl rfl Try.func71 (by kernel_rfl) rfl #[.int .u64 (rd x7_2 x54_3), .int .i64 t158] rfl (by (try simp only [List.map_toArray, List.map_cons, List.map_nil]); first | done | rfl | (simp only [List.length_drop, List.length_take]; rfl)) ?_; (with_reducible refine (pfor_high.calls (rd x7_2 x54_3) t158 t163 _ A29.out).mono ?_); rintro e w' ⟨rfl, ⟨nd, rfl⟩⟩; refine ⟨_, rfl, ?_⟩; (try (rw [drewN_self wr]; generalize hq_ : World.drewN wr _ = wr; have n0_ : Aside0 (Kd.R (Kd.int .u8) 5 wr w.heap.size (fun _ => True) u11 x11_3) := ⟨by rw [← hq_]; exact (by (with_reducible repeat (first | apply Kd.rA_ | apply Kd.rN_ | apply Kd.rD_)); exact HO_11.out)⟩; have n1_ : Aside0 (Kd.R (Kd.int .u64) 50 wr w.heap.size (fun k_ => some k_ ≠ (.slice (some ad162) x7_2.length co22 : Value).ownBlock) v160 x13_3) := ⟨by rw [← hq_]; exact (by (with_reducible repeat (first | apply Kd.rA_ | apply Kd.rN_ | apply Kd.rD_)); exact HO_13.out)⟩; have n2_ : Aside0 (Kd.R (Kd.int .u64) 50 wr w.heap.size (fun k_ => some k_ ≠ (v160 : Value).ownBlock) (.slice (some ad162) x7_2.length co22) x7_2) := ⟨by rw [← hq_]; exact (by (with_reducible repeat (first | apply Kd.rA_ | apply Kd.rN_ | apply Kd.rD_)); exact HO_52.out)⟩; have n3_ : Aside0 (Below w.heap.size w wr) := ⟨by rw [← hq_]; exact (by repeat (first | (with_reducible first | exact HB.out | apply pbA_ | apply pbN_ | apply pb1_) | exact HB.out))⟩; clear HO_11 HO_13 HO_52 HB hq_; have HO_11 := n0_; have HO_13 := n1_; have HO_52 := n2_; have HB := n3_; clear n0_ n1_ n2_ n3_)); have p31 : 0 ≤ (x54_3 : Int) := of_decide_eq_true (by first | (with_reducible assumption) | assumption); have q31 : (x54_3 : Int) < ((x13_3.length : Int) : Int) := of_decide_eq_true (by first | (with_reducible assumption) | assumption); obtain ⟨go31, co31, eo31, gb31, gl31, cl31, HG31⟩ := Kd.R_form HO_13.out (by omega); (first | cases eo31 | (injection eo31 with ea_ en_ ec_; (first | subst ea_ | (injection ea_ with ea_; subst ea_)); subst ec_; clear en_)); have GB31 := Aside0.mk gb31; have GG31 := Aside0.mk HG31; clear gb31 gl31 HG31; obtain ⟨hx31_0, hf31_0⟩ := Kd.R_celln 0 HO_13.out (x54_3 : Int) p31 q31; replace p31 := eq_true p31; replace q31 := eq_true q31; obtain ⟨hy38_, hz38_⟩ := Kd.R_celln 0 HO_13.out (x54_3 : Int) (of_decide_eq_true (by first | (with_reducible assumption) | assumption)) (of_decide_eq_true (by first | (with_reducible assumption) | assumption)); have HP38 := Kd.R_putg HO_13.out (x54_3 : Int) (rd x7_2 x54_3)) | ((with_reducible refine gate_store (t := 50) (p := 65) rfl ?_); refine store_event (t := 50) (p := 65) (v := ?vo_w39) (w1 := (wr.setCell ⟨go31, (x54_3 : Int).toNat, none⟩ (.int .u64 (rd x7_2 x54_3)))) ?hg ?ho ?hn ?hr ?_; (case ho => rfl); (case hg => rfl); (case hn => rfl); (case hr => first | (go_simp; done) | (go_simp; rfl)); intro w39 hw; have hg : wr.grownBy w39 (some go31) := (by rw [hw]; exact HP38.2); have hp_ : Kd.R (Kd.int .u64) 50 w39 w.heap.size (fun k_ => some k_ ≠ (.slice (some ad162) x7_2.length co22 : Value).ownBlock) (.slice (some ⟨go31, 0, none⟩) x13_3.length co31) y164 := (by rw [hw, Ny164.out]; exact HP38.1); clear HP38; have n0_ := Aside0.mk (Kd.R_over' (v := (.slice (some ⟨go31, 0, none⟩) x13_3.length co31)) (by (with_reducible repeat (first | apply Kd.rA_ | apply Kd.rN_ | apply Kd.rD_)); exact HO_11.out) (Kd.R_typed HO_13.out) (by decide) hg); have n1_ := Aside0.mk (hp_); have n2_ := Aside0.mk (Kd.R_after (v := (.slice (some ⟨go31, 0, none⟩) x13_3.length co31)) (v1 := (.slice (some ⟨go31, 0, none⟩) x13_3.length co31)) (ok := (fun _ => True)) (by (with_reducible repeat (first | apply Kd.rA_ | apply Kd.rN_ | apply Kd.rD_)); exact Kd.R_mono HO_52.out (fun _ hk => ⟨trivial, hk⟩)) hg (.inl rfl)); have n3_ := Aside0.mk ((by rw [hw]; exact below_set (HB.out) GB31.out : Below w.heap.size w w39)); clear HO_11; clear HO_13; clear HO_52; clear HB; have HO_11 := n0_; have HO_13 := n1_; have HO_52 := n2_; have HB := n3_; clear n0_ n1_ n2_ n3_; clear hg hw hp_; have p35 : 0 ≤ (x54_3 : Int) := of_decide_eq_true (by first | (with_reducible assumption) | assumption); have q35 : (x54_3 : Int) < ((x13_3.length : Int) : Int) := of_decide_eq_true (by first | (with_reducible assumption) | assumption); obtain ⟨hx35_0, hf35_0⟩ := Kd.R_celln 0 HO_13.out (x54_3 : Int) p35 q35; replace p35 := eq_true p35; replace q35 := eq_true q35; obtain ⟨hy40_, hz40_⟩ := Kd.R_celln 0 HO_13.out (x54_3 : Int) (of_decide_eq_true (by first | (with_reducible assumption) | assumption)) (of_decide_eq_true (by first | (with_reducible assumption) | assumption)); have HP40 := Kd.R_putg HO_13.out (x54_3 : Int) (Go.bits .andNot .u64 (rd x7_2 x54_3) (ji34))) | ((with_reducible refine gate_store (t := 50) (p := 75) rfl ?_); refine store_event (t := 50) (p := 75) (v := ?vo_w41) (w1 := (w39.setCell ⟨go31, (x54_3 : Int).toNat, none⟩ (.int .u64 (Go.bits .andNot .u64 (rd x7_2 x54_3) (ji34))))) ?hg ?ho ?hn ?hr ?_; (case ho => rfl); (case hg => rfl); (case hn => rfl); (case hr => first | (go_simp; done) | (go_simp; rfl)); intro w41 hw; have hg : w39.grownBy w41 (some go31) := (by rw [hw]; exact HP40.2); have hp_ : Kd.R (Kd.int .u64) 50 w41 w.heap.size (fun k_ => some k_ ≠ (.slice (some ad162) x7_2.length co22 : Value).ownBlock) (.slice (some ⟨go31, 0, none⟩) x13_3.length co31) y165 := (by rw [hw, Ny165.out]; exact HP40.1); clear HP40; have n0_ := Aside0.mk (Kd.R_over' (v := (.slice (some ⟨go31, 0, none⟩) x13_3.length co31)) (by (with_reducible repeat (first | apply Kd.rA_ | apply Kd.rN_ | apply Kd.rD_)); exact HO_11.out) (Kd.R_typed HO_13.out) (by decide) hg); have n1_ := Aside0.mk (hp_); have n2_ := Aside0.mk (Kd.R_after (v := (.slice (some ⟨go31, 0, none⟩) x13_3.length co31)) (v1 := (.slice (some ⟨go31, 0, none⟩) x13_3.length co31)) (ok := (fun _ => True)) (by (with_reducible repeat (first | apply Kd.rA_ | apply Kd.rN_ | apply Kd.rD_)); exact HO_52.out) hg (.inl rfl)); have n3_ := Aside0.mk ((by rw [hw]; exact below_set (HB.out) GB31.out : Below w.heap.size w w41)); clear HO_11; clear HO_13; clear HO_52; clear HB; have HO_11 := n0_; have HO_13 := n1_; have HO_52 := n2_; have HB := n3_; clear n0_ n1_ n2_ n3_; clear hg hw hp_) | ((with_reducible refine gate_builtin (b := .append) (xs := #[.tmp 76, .tmp 79]) rfl ?_); (try (refine gate_guard (by rfl) ?_; dsimp only)); at_builtin; refine Kd.R_append (Kd.int .u8) (w0 := w) w.heap.size rfl (.tmp 76) (.tmp 79) 22 5 (.int .u8 0) 1 rfl Try.underlying22 info5 rfl (by decide) (by omega) u11 x11_3 ((x54_3) % 256) [.int .u8 ((x54_3) % 256)] (fun _ => True) (fun _ => False) rfl rfl ?aP (fun _ hk => hk.elim) ?aF ?aO ?aB ?aS ?aL ?_; (case aP => exact rfl); (case aB => exact (by repeat (first | (with_reducible first | exact HB.out | apply pbA_ | apply pbN_ | apply pb1_) | exact HB.out))); (case aF => exact (fun _ _ => trivial)); (case aO => exact (by (with_reducible repeat (first | apply Kd.rA_ | apply Kd.rN_ | apply Kd.rD_)); exact HO_11.out)); (case aS => exact (pbS_ (by repeat (first | (with_reducible first | exact HB.out | apply pbA_ | apply pbN_ | apply pb1_) | exact HB.out)))); (case aL => have := LMc36.out; omega); intro v167 w42 ho hb hg hat; rw [← Ny166.out] at ho; have n0_ := Aside0.mk (Kd.R_over' (by (with_reducible repeat (first | apply Kd.rA_ | apply Kd.rN_ | apply Kd.rD_)); exact HO_13.out) (Kd.R_typed (by (with_reducible repeat (first | apply Kd.rA_ | apply Kd.rN_ | apply Kd.rD_)); exact HO_11.out)) (by decide) hg); have n1_ := Aside0.mk (Kd.R_over' (by (with_reducible repeat (first | apply Kd.rA_ | apply Kd.rN_ | apply Kd.rD_)); exact HO_52.out) (Kd.R_typed (by (with_reducible repeat (first | apply Kd.rA_ | apply Kd.rN_ | apply Kd.rD_)); exact HO_11.out)) (by decide) hg); have n2_ := Aside0.mk (hb); have n3_ := Aside0.mk (ho); clear HO_13; clear HO_52; clear HB; clear HO_11; have HO_13 := n0_; have HO_52 := n1_; have HB := n2_; have HO168 := n3_; clear n0_ n1_ n2_ n3_; clear ho hb hg hat; obtain ⟨Ao43, co43, eo43⟩ := Kd.R_slice HO168.out; subst eo43) | ((with_reducible refine gaC_ (f := 28) rfl ?_); refine goesL_ (some 82) rfl rfl Try.func28 (by kernel_rfl) rfl #[.slice Ao43 y166.length co43, .int .u64 t163] rfl (by (try simp only [List.map_toArray, List.map_cons, List.map_nil]); first | done | rfl | (simp only [List.length_drop, List.length_take]; rfl)) ?_; (with_reducible refine (num_Put.calls k3 _ _ y166 t163 t169 _ ?side1 ?side2 A37.out).mono ?_); (case side1 => repeat (first | exact (Kd.R_reads' HO168.out).2.2 | (with_reducible refine Kd.cA_ ?_ _) | (with_reducible refine Kd.cN_ ?_ _) | (with_reducible refine Kd.cD_ ?_))); (case side2 => exact (Kd.R_reads' HO168.out).2.1); rintro e w44 ⟨v170, rfl, ho0, hb⟩; refine ⟨_, rfl, ?_⟩; have n0_ := Aside0.mk (Kd.R_below (by (with_reducible repeat (first | apply Kd.rA_ | apply Kd.rN_ | apply Kd.rD_)); exact HO_13.out) hb); have n1_ := Aside0.mk (Kd.R_below (by (with_reducible repeat (first | apply Kd.rA_ | apply Kd.rN_ | apply Kd.rD_)); exact HO_52.out) hb); have n2_ := Aside0.mk (Kd.R_elder' (by (with_reducible repeat (first | apply Kd.rA_ | apply Kd.rN_ | apply Kd.rD_)); exact HO168.out) (Kd.R_base ho0) hb); have n3_ := Aside0.mk (Kd.R_lower (Kd.R_new' ho0 (Kd.R_lt (by (with_reducible repeat (first | apply Kd.rA_ | apply Kd.rN_ | apply Kd.rD_)); exact HO168.out))) (pbS_ (by repeat (first | (with_reducible first | exact HB.out | apply pbA_ | apply pbN_ | apply pb1_) | exact HB.out)))); have n4_ := Aside0.mk (below_step (by repeat (first | (with_reducible first | exact HB.out | apply pbA_ | apply pbN_ | apply pb1_) | exact HB.out)) hb); clear HO_13; clear HO_52; clear HO168; clear HB; have HO_13 := n0_; have HO_52 := n1_; have HO168 := n2_; have HO171 := n3_; have HB := n4_; clear n0_ n1_ n2_ n3_ n4_; (try clear hb); (try clear hb2); (try clear hk); (try clear hi); (try clear ho0)))
                    (try subst hji34)
                    go_roundg k3
                    case measure => have := HJ2.out; have := HK2.out; have := HK3.out; omega
                    case rel => exact ⟨(t169), (wrap64 (x12_3 + 1)), (y165), (wrap64 (x54_3 + 1)), (by first | rfl | (simp; done) | (simp [*]; done)), (by first | rfl | (simp; done) | (simp [*]; done)), H', ⟨by have := HJ2.out; have := HK2.out; have := HK3.out; omega⟩, ⟨by (with_reducible repeat (first | apply Kd.rA_ | apply Kd.rN_ | apply Kd.rD_)); exact Kd.R_mono HO171.out (fun _ hk => trivial)⟩, ⟨by (with_reducible repeat (first | apply Kd.rA_ | apply Kd.rN_ | apply Kd.rD_)); exact HO_13.out⟩, ⟨by (with_reducible repeat (first | apply Kd.rA_ | apply Kd.rN_ | apply Kd.rD_)); exact Kd.R_mono HO_52.out (fun _ hk => hk.2)⟩, ⟨by repeat (first | (with_reducible first | exact HB.out | apply pbA_ | apply pbN_ | apply pb1_) | exact HB.out)⟩⟩
                   ·rw [if_neg c36] at H
                    exact absurd H (by simp)
                  ·rw [if_neg c33] at H
                   exact absurd H (by simp)
                 ·rw [if_neg c32] at H
                  have c32b0 : decide (0 < t163) = false := decide_eq_false c32
                  clear c32
                  have H' := Aside0.mk H
                  clear H
                  have p162 : 0 ≤ (x54_3 : Int) := of_decide_eq_true (by first | (with_reducible assumption) | assumption)
                  have q162 : x54_3 < (x7_2.length : Int) := of_decide_eq_true (by first | (with_reducible assumption) | assumption)
                  obtain ⟨ad162, e162, hx162_0⟩ := Kd.at_int (Kd.R_reads' HO_52.out).2.2 x54_3 p162 q162
                  cases e162
                  replace p162 := eq_true p162
                  replace q162 := eq_true q162
                  go_wp2_with (first | ((with_reducible refine gaC_ (f := 71) rfl ?_); refine goesL_ (some 61) rfl rfl Try.func71 (by kernel_rfl) rfl #[.int .u64 (rd x7_2 x54_3), .int .i64 t158] rfl (by (try simp only [List.map_toArray, List.map_cons, List.map_nil]); first | done | rfl | (simp only [List.length_drop, List.length_take]; rfl)) ?_; (with_reducible refine (pfor_high.calls (rd x7_2 x54_3) t158 t163 _ A29.out).mono ?_); rintro e w' ⟨rfl, ⟨nd, rfl⟩⟩; refine ⟨_, rfl, ?_⟩; (try (rw [drewN_self wr]; generalize hq_ : World.drewN wr _ = wr; have n0_ : Aside0 (Kd.R (Kd.int .u8) 5 wr w.heap.size (fun _ => True) u11 x11_3) := ⟨by rw [← hq_]; exact (by (with_reducible repeat (first | apply Kd.rA_ | apply Kd.rN_ | apply Kd.rD_)); exact HO_11.out)⟩; have n1_ : Aside0 (Kd.R (Kd.int .u64) 50 wr w.heap.size (fun k_ => some k_ ≠ (.slice (some ad162) x7_2.length co22 : Value).ownBlock) v160 x13_3) := ⟨by rw [← hq_]; exact (by (with_reducible repeat (first | apply Kd.rA_ | apply Kd.rN_ | apply Kd.rD_)); exact HO_13.out)⟩; have n2_ : Aside0 (Kd.R (Kd.int .u64) 50 wr w.heap.size (fun k_ => some k_ ≠ (v160 : Value).ownBlock) (.slice (some ad162) x7_2.length co22) x7_2) := ⟨by rw [← hq_]; exact (by (with_reducible repeat (first | apply Kd.rA_ | apply Kd.rN_ | apply Kd.rD_)); exact HO_52.out)⟩; have n3_ : Aside0 (Below w.heap.size w wr) := ⟨by rw [← hq_]; exact (by repeat (first | (with_reducible first | exact HB.out | apply pbA_ | apply pbN_ | apply pb1_) | exact HB.out))⟩; clear HO_11 HO_13 HO_52 HB hq_; have HO_11 := n0_; have HO_13 := n1_; have HO_52 := n2_; have HB := n3_; clear n0_ n1_ n2_ n3_)); have p31 : 0 ≤ (x54_3 : Int) := of_decide_eq_true (by first | (with_reducible assumption) | assumption); have q31 : (x54_3 : Int) < ((x13_3.length : Int) : Int) := of_decide_eq_true (by first | (with_reducible assumption) | assumption); obtain ⟨go31, co31, eo31, gb31, gl31, cl31, HG31⟩ := Kd.R_form HO_13.out (by omega); (first | cases eo31 | (injection eo31 with ea_ en_ ec_; (first | subst ea_ | (injection ea_ with ea_; subst ea_)); subst ec_; clear en_)); have GB31 := Aside0.mk gb31; have GG31 := Aside0.mk HG31; clear gb31 gl31 HG31; obtain ⟨hx31_0, hf31_0⟩ := Kd.R_celln 0 HO_13.out (x54_3 : Int) p31 q31; replace p31 := eq_true p31; replace q31 := eq_true q31; obtain ⟨hy45_, hz45_⟩ := Kd.R_celln 0 HO_13.out (x54_3 : Int) (of_decide_eq_true (by first | (with_reducible assumption) | assumption)) (of_decide_eq_true (by first | (with_reducible assumption) | assumption)); have HP45 := Kd.R_putg HO_13.out (x54_3 : Int) (rd x7_2 x54_3)) | ((with_reducible refine gate_store (t := 50) (p := 65) rfl ?_); refine store_event (t := 50) (p := 65) (v := ?vo_w46) (w1 := (wr.setCell ⟨go31, (x54_3 : Int).toNat, none⟩ (.int .u64 (rd x7_2 x54_3)))) ?hg ?ho ?hn ?hr ?_; (case ho => rfl); (case hg => rfl); (case hn => rfl); (case hr => first | (go_simp; done) | (go_simp; rfl)); intro w46 hw; have hg : wr.grownBy w46 (some go31) := (by rw [hw]; exact HP45.2); have hp_ : Kd.R (Kd.int .u64) 50 w46 w.heap.size (fun k_ => some k_ ≠ (.slice (some ad162) x7_2.length co22 : Value).ownBlock) (.slice (some ⟨go31, 0, none⟩) x13_3.length co31) y164 := (by rw [hw, Ny164.out]; exact HP45.1); clear HP45; have n0_ := Aside0.mk (Kd.R_over' (v := (.slice (some ⟨go31, 0, none⟩) x13_3.length co31)) (by (with_reducible repeat (first | apply Kd.rA_ | apply Kd.rN_ | apply Kd.rD_)); exact HO_11.out) (Kd.R_typed HO_13.out) (by decide) hg); have n1_ := Aside0.mk (hp_); have n2_ := Aside0.mk (Kd.R_after (v := (.slice (some ⟨go31, 0, none⟩) x13_3.length co31)) (v1 := (.slice (some ⟨go31, 0, none⟩) x13_3.length co31)) (ok := (fun _ => True)) (by (with_reducible repeat (first | apply Kd.rA_ | apply Kd.rN_ | apply Kd.rD_)); exact Kd.R_mono HO_52.out (fun _ hk => ⟨trivial, hk⟩)) hg (.inl rfl)); have n3_ := Aside0.mk ((by rw [hw]; exact below_set (HB.out) GB31.out : Below w.heap.size w w46)); clear HO_11; clear HO_13; clear HO_52; clear HB; have HO_11 := n0_; have HO_13 := n1_; have HO_52 := n2_; have HB := n3_; clear n0_ n1_ n2_ n3_; clear hg hw hp_))
                  go_roundg k3
                  case measure => have := HJ2.out; have := HK2.out; have := HK3.out; omega
                  case rel => exact ⟨(x11_3), (x12_3), (y164), (wrap64 (x54_3 + 1)), (by first | rfl | (simp; done) | (simp [*]; done)), (by first | rfl | (simp; done) | (simp [*]; done)), H', ⟨by have := HJ2.out; have := HK2.out; have := HK3.out; omega⟩, ⟨by (with_reducible repeat (first | apply Kd.rA_ | apply Kd.rN_ | apply Kd.rD_)); exact HO_11.out⟩, ⟨by (with_reducible repeat (first | apply Kd.rA_ | apply Kd.rN_ | apply Kd.rD_)); exact HO_13.out⟩, ⟨by (with_reducible repeat (first | apply Kd.rA_ | apply Kd.rN_ | apply Kd.rD_)); exact Kd.R_mono HO_52.out (fun _ hk => hk.2)⟩, ⟨by repeat (first | (with_reducible first | exact HB.out | apply pbA_ | apply pbN_ | apply pb1_) | exact HB.out)⟩⟩
                ·rw [if_neg c30] at H
                 exact absurd H (by simp)
               ·rw [if_neg c28] at H
                exact absurd H (by simp)
              ·rw [if_neg c27] at H
               exact absurd H (by simp)
             ·rw [if_neg c26] at H
              have c26b0 : decide (x54_3 < (x7_2.length : Int)) = false := decide_eq_false c26
              clear c26
              replace H := Option.bind_eq_some_iff.mp H
              obtain ⟨⟨t172, t173⟩, A470, H⟩ := H
              replace H : (if t173 = 0 then ((slices_Clone_byte_byte.f l0).bind fun t176 => (if t176.length < 140737488355328 then ((num_Put.f k3 (t176 ++ [((l1.length : Int)) % 256]) t152).bind fun t182 => ((some (([(t158) % 256, (x12_3) % 256] : List Int) : List Int)).bind fun y185 => (if t182.length + y185.length < 140737488355328 then ((slices_Concat_byte_byte.f k3 (([(t182 ++ y185), t172, x11_3] : List (List Int)))).bind fun t194 => (some (t194, 0))) else (none)))) else (none))) else (some (([] : List Int), t173))) = some (r1, r2) := H
              have A47 := Aside0.mk A470
              clear A470
              by_cases c48 : t173 = 0
              ·rw [if_pos c48] at H
               have c48b0 : (t173 == 0) = true := beq_iff_eq.mpr c48
               have c48b1 : (t173 != 0) = false := bne_eq_false_iff_eq.mpr c48
               clear c48
               replace H := Option.bind_eq_some_iff.mp H
               obtain ⟨t176, A490, H⟩ := H
               replace H : (if t176.length < 140737488355328 then ((num_Put.f k3 (t176 ++ [((l1.length : Int)) % 256]) t152).bind fun t182 => ((some (([(t158) % 256, (x12_3) % 256] : List Int) : List Int)).bind fun y185 => (if t182.length + y185.length < 140737488355328 then ((slices_Concat_byte_byte.f k3 (([(t182 ++ y185), t172, x11_3] : List (List Int)))).bind fun t194 => (some (t194, 0))) else (none)))) else (none)) = some (r1, r2) := H
               have A49 := Aside0.mk A490
               clear A490
               by_cases c50 : t176.length < 140737488355328
               ·rw [if_pos c50] at H
                have LMc50 := Aside0.mk c50
                clear c50
                obtain ⟨y179, hy179⟩ : ∃ y_ : List Int, y_ = (t176 ++ [((l1.length : Int)) % 256]) := ⟨_, rfl⟩
                replace H : ((num_Put.f k3 y179 t152).bind fun t182 => ((some (([(t158) % 256, (x12_3) % 256] : List Int) : List Int)).bind fun y185 => (if t182.length + y185.length < 140737488355328 then ((slices_Concat_byte_byte.f k3 (([(t182 ++ y185), t172, x11_3] : List (List Int)))).bind fun t194 => (some (t194, 0))) else (none)))) = some (r1, r2) := by first | (rw [hy179]; with_reducible exact H) | (have H2_ := (Option.bind_some _ _).symm.trans H; rw [hy179]; with_reducible exact H2_) | (have H2_ := (Option.bind_some _ _).symm.trans H; with_reducible exact H2_) | with_reducible exact H | (rw [hy179]; exact H) | exact H
                have Ny179 := Aside0.mk hy179
                clear hy179
                replace H := Option.bind_eq_some_iff.mp H
                obtain ⟨t182, A510, H⟩ := H
                replace H : ((some (([(t158) % 256, (x12_3) % 256] : List Int) : List Int)).bind fun y185 => (if t182.length + y185.length < 140737488355328 then ((slices_Concat_byte_byte.f k3 (([(t182 ++ y185), t172, x11_3] : List (List Int)))).bind fun t194 => (some (t194, 0))) else (none))) = some (r1, r2) := H
                have A51 := Aside0.mk A510
                clear A510
                obtain ⟨y185, hy185⟩ : ∃ y_ : List Int, y_ = (([(t158) % 256, (x12_3) % 256] : List Int)) := ⟨_, rfl⟩
                replace H : (if t182.length + y185.length < 140737488355328 then ((slices_Concat_byte_byte.f k3 (([(t182 ++ y185), t172, x11_3] : List (List Int)))).bind fun t194 => (some (t194, 0))) else (none)) = some (r1, r2) := by first | (rw [hy185]; with_reducible exact H) | (have H2_ := (Option.bind_some _ _).symm.trans H; rw [hy185]; with_reducible exact H2_) | (have H2_ := (Option.bind_some _ _).symm.trans H; with_reducible exact H2_) | with_reducible exact H | (rw [hy185]; exact H) | exact H
                have Ny185 := Aside0.mk hy185
                clear hy185
                by_cases c52 : t182.length + y185.length < 140737488355328
                ·rw [if_pos c52] at H
                 have LMc52 := Aside0.mk c52
                 clear c52
                 obtain ⟨y188, hy188⟩ : ∃ y_ : List Int, y_ = (t182 ++ y185) := ⟨_, rfl⟩
                 replace H : ((slices_Concat_byte_byte.f k3 (([y188, t172, x11_3] : List (List Int)))).bind fun t194 => (some (t194, 0))) = some (r1, r2) := by first | (rw [hy188]; with_reducible exact H) | (have H2_ := (Option.bind_some _ _).symm.trans H; rw [hy188]; with_reducible exact H2_) | (have H2_ := (Option.bind_some _ _).symm.trans H; with_reducible exact H2_) | with_reducible exact H | (rw [hy188]; exact H) | exact H
                 have Ny188 := Aside0.mk hy188
                 clear hy188
                 obtain ⟨y191, hy191⟩ : ∃ y_ : List (List Int), y_ = (([y188, t172, x11_3] : List (List Int))) := ⟨_, rfl⟩
                 replace H : ((slices_Concat_byte_byte.f k3 y191).bind fun t194 => (some (t194, 0))) = some (r1, r2) := by first | (rw [hy191]; with_reducible exact H) | (have H2_ := (Option.bind_some _ _).symm.trans H; rw [hy191]; with_reducible exact H2_) | (have H2_ := (Option.bind_some _ _).symm.trans H; with_reducible exact H2_) | with_reducible exact H | (rw [hy191]; exact H) | exact H
                 have Ny191 := Aside0.mk hy191
                 clear hy191
                 replace H := Option.bind_eq_some_iff.mp H
                 obtain ⟨t194, A530, H⟩ := H
                 replace H : (some (t194, 0)) = some (r1, r2) := H
                 have A53 := Aside0.mk A530
                 clear A530
                 simp only [Option.some.injEq, Prod.mk.injEq] at H
                 obtain ⟨rfl, rfl⟩ := H
                 obtain ⟨Ao54, co54, eo54⟩ := Kd.R_slice HO_13.out
                 subst eo54
                 go_wp2_with (first | ((with_reducible refine gaC_ (f := 26) rfl ?_); refine goesL_ (some 89) rfl rfl Try.func26 (by kernel_rfl) rfl #[.slice Ao54 x13_3.length co54, .int .i64 t158] rfl (by (try simp only [List.map_toArray, List.map_cons, List.map_nil]); first | done | rfl | (simp only [List.length_drop, List.length_take]; rfl)) ?_; (with_reducible refine (bits_Pack.calls k3 _ _ x13_3 t158 t172 t173 _ ?side1 ?side2 A47.out).mono ?_); (case side1 => repeat (first | exact (Kd.R_reads' HO_13.out).2.2 | (with_reducible refine Kd.cA_ ?_ _) | (with_reducible refine Kd.cN_ ?_ _) | (with_reducible refine Kd.cD_ ?_))); (case side2 => exact (Kd.R_reads' HO_13.out).2.1); rintro e w55 ⟨v174, rfl, ho0, hb⟩; refine ⟨_, rfl, ?_⟩; have n0_ := Aside0.mk (Kd.R_elder' (by (with_reducible repeat (first | apply Kd.rA_ | apply Kd.rN_ | apply Kd.rD_)); exact HO_11.out) (Kd.R_base ho0) hb); have n1_ := Aside0.mk (Kd.R_below (by (with_reducible repeat (first | apply Kd.rA_ | apply Kd.rN_ | apply Kd.rD_)); exact HO_13.out) hb); have n2_ := Aside0.mk (Kd.R_below (by (with_reducible repeat (first | apply Kd.rA_ | apply Kd.rN_ | apply Kd.rD_)); exact HO_52.out) hb); have n3_ := Aside0.mk (Kd.R_lower (Kd.R_new' ho0 (Kd.R_lt (by (with_reducible repeat (first | apply Kd.rA_ | apply Kd.rN_ | apply Kd.rD_)); exact HO_11.out))) (pbS_ (by repeat (first | (with_reducible first | exact HB.out | apply pbA_ | apply pbN_ | apply pb1_) | exact HB.out)))); have n4_ := Aside0.mk (below_step (by repeat (first | (with_reducible first | exact HB.out | apply pbA_ | apply pbN_ | apply pb1_) | exact HB.out)) hb); clear HO_11; clear HO_13; clear HO_52; clear HB; have HO_11 := n0_; have HO_13 := n1_; have HO_52 := n2_; have HO175 := n3_; have HB := n4_; clear n0_ n1_ n2_ n3_ n4_; (try clear hb); (try clear hb2); (try clear hk); (try clear hi); (try clear ho0)) | ((with_reducible refine gaC_ (f := 49) rfl ?_); refine goesL_ (some 96) rfl rfl Try.func49 (by kernel_rfl) rfl #[.slice A0 l0.length c0] rfl (by (try simp only [List.map_toArray, List.map_cons, List.map_nil]); first | done | rfl | (simp only [List.length_drop, List.length_take]; rfl)) ?_; (with_reducible refine (slices_Clone_byte_byte.calls _ _ l0 t176 _ ?side1 ?side2 A49.out).mono ?_); (case side1 => repeat (first | exact (Kd.C_below HR0.out HB.out) | (with_reducible refine Kd.cA_ ?_ _) | (with_reducible refine Kd.cN_ ?_ _) | (with_reducible refine Kd.cD_ ?_))); (case side2 => exact HC0.out); rintro e w56 ⟨v177, rfl, ho0, hb⟩; refine ⟨_, rfl, ?_⟩; have n0_ := Aside0.mk (Kd.R_elder' (by (with_reducible repeat (first | apply Kd.rA_ | apply Kd.rN_ | apply Kd.rD_)); exact HO_11.out) (Kd.R_base ho0) hb); have n1_ := Aside0.mk (Kd.R_below (by (with_reducible repeat (first | apply Kd.rA_ | apply Kd.rN_ | apply Kd.rD_)); exact HO_13.out) hb); have n2_ := Aside0.mk (Kd.R_below (by (with_reducible repeat (first | apply Kd.rA_ | apply Kd.rN_ | apply Kd.rD_)); exact HO_52.out) hb); have n3_ := Aside0.mk (Kd.R_elder' (by (with_reducible repeat (first | apply Kd.rA_ | apply Kd.rN_ | apply Kd.rD_)); exact HO175.out) (Kd.R_base ho0) hb); have n4_ := Aside0.mk (Kd.R_lower (Kd.R_new' (Kd.R_new' ho0 (Kd.R_lt (by (with_reducible repeat (first | apply Kd.rA_ | apply Kd.rN_ | apply Kd.rD_)); exact HO_11.out))) (Kd.R_lt (by (with_reducible repeat (first | apply Kd.rA_ | apply Kd.rN_ | apply Kd.rD_)); exact HO175.out))) (pbS_ (by repeat (first | (with_reducible first | exact HB.out | apply pbA_ | apply pbN_ | apply pb1_) | exact HB.out)))); have n5_ := Aside0.mk (below_step (by repeat (first | (with_reducible first | exact HB.out | apply pbA_ | apply pbN_ | apply pb1_) | exact HB.out)) hb); clear HO_11; clear HO_13; clear HO_52; clear HO175; clear HB; have HO_11 := n0_; have HO_13 := n1_; have HO_52 := n2_; have HO175 := n3_; have HO178 := n4_; have HB := n5_; clear n0_ n1_ n2_ n3_ n4_ n5_; (try clear hb); (try clear hb2); (try clear hk); (try clear hi); (try clear ho0)) | ((with_reducible refine gate_builtin (b := .append) (xs := #[.tmp 96, .tmp 100]) rfl ?_); (try (refine gate_guard (by rfl) ?_; dsimp only)); at_builtin; refine Kd.R_append (Kd.int .u8) (w0 := w) w.heap.size rfl (.tmp 96) (.tmp 100) 22 5 (.int .u8 0) 1 rfl Try.underlying22 info5 rfl (by decide) (by omega) v177 t176 (((l1.length : Int)) % 256) [.int .u8 (((l1.length : Int)) % 256)] (fun k_ => some k_ ≠ (u11 : Value).ownBlock ∧ some k_ ≠ (v174 : Value).ownBlock) (fun _ => False) rfl rfl ?aP (fun _ hk => hk.elim) ?aF ?aO ?aB ?aS ?aL ?_; (case aP => exact rfl); (case aB => exact (by repeat (first | (with_reducible first | exact HB.out | apply pbA_ | apply pbN_ | apply pb1_) | exact HB.out))); (case aF => exact (fun k_ hk => ⟨Kd.fresh' (Kd.R_lt (by (with_reducible repeat (first | apply Kd.rA_ | apply Kd.rN_ | apply Kd.rD_)); exact HO_11.out)) k_ hk, Kd.fresh' (Kd.R_lt (by (with_reducible repeat (first | apply Kd.rA_ | apply Kd.rN_ | apply Kd.rD_)); exact HO175.out)) k_ hk⟩)); (case aO => exact (by (with_reducible repeat (first | apply Kd.rA_ | apply Kd.rN_ | apply Kd.rD_)); exact Kd.R_mono HO178.out (fun _ hk => ⟨hk.1.2, hk.2⟩))); (case aS => exact (pbS_ (by repeat (first | (with_reducible first | exact HB.out | apply pbA_ | apply pbN_ | apply pb1_) | exact HB.out)))); (case aL => have := LMc50.out; omega); intro v180 w57 ho hb hg hat; rw [← Ny179.out] at ho; have n0_ := Aside0.mk (Kd.R_after (ok := (fun k_ => some k_ ≠ (v174 : Value).ownBlock)) (by (with_reducible repeat (first | apply Kd.rA_ | apply Kd.rN_ | apply Kd.rD_)); exact Kd.R_mono HO_11.out (fun _ hk => ⟨hk.1.2, hk.2⟩)) hg hat); have n1_ := Aside0.mk (Kd.R_over' (by (with_reducible repeat (first | apply Kd.rA_ | apply Kd.rN_ | apply Kd.rD_)); exact HO_13.out) (Kd.R_typed (by (with_reducible repeat (first | apply Kd.rA_ | apply Kd.rN_ | apply Kd.rD_)); exact HO178.out)) (by decide) hg); have n2_ := Aside0.mk (Kd.R_over' (by (with_reducible repeat (first | apply Kd.rA_ | apply Kd.rN_ | apply Kd.rD_)); exact HO_52.out) (Kd.R_typed (by (with_reducible repeat (first | apply Kd.rA_ | apply Kd.rN_ | apply Kd.rD_)); exact HO178.out)) (by decide) hg); have n3_ := Aside0.mk (Kd.R_after (ok := (fun k_ => some k_ ≠ (u11 : Value).ownBlock)) (by (with_reducible repeat (first | apply Kd.rA_ | apply Kd.rN_ | apply Kd.rD_)); exact Kd.R_mono HO175.out (fun _ hk => ⟨hk.1.2, hk.2⟩)) hg hat); have n4_ := Aside0.mk (hb); have n5_ := Aside0.mk (ho); clear HO_11; clear HO_13; clear HO_52; clear HO175; clear HB; clear HO178; have HO_11 := n0_; have HO_13 := n1_; have HO_52 := n2_; have HO175 := n3_; have HB := n4_; have HO181 := n5_; clear n0_ n1_ n2_ n3_ n4_ n5_; clear ho hb hg hat; obtain ⟨Ao58, co58, eo58⟩ := Kd.R_slice HO181.out; subst eo58) | ((with_reducible refine gaC_ (f := 28) rfl ?_); refine goesL_ (some 103) rfl rfl Try.func28 (by kernel_rfl) rfl #[.slice Ao58 y179.length co58, .int .u64 t152] rfl (by (try simp only [List.map_toArray, List.map_cons, List.map_nil]); first | done | rfl | (simp only [List.length_drop, List.length_take]; rfl)) ?_; (with_reducible refine (num_Put.calls k3 _ _ y179 t152 t182 _ ?side1 ?side2 A51.out).mono ?_); (case side1 => repeat (first | exact (Kd.R_reads' HO181.out).2.2 | (with_reducible refine Kd.cA_ ?_ _) | (with_reducible refine Kd.cN_ ?_ _) | (with_reducible refine Kd.cD_ ?_))); (case side2 => exact (Kd.R_reads' HO181.out).2.1); rintro e w59 ⟨v183, rfl, ho0, hb⟩; refine ⟨_, rfl, ?_⟩; have n0_ := Aside0.mk (Kd.R_elder' (by (with_reducible repeat (first | apply Kd.rA_ | apply Kd.rN_ | apply Kd.rD_)); exact HO_11.out) (Kd.R_base ho0) hb); have n1_ := Aside0.mk (Kd.R_below (by (with_reducible repeat (first | apply Kd.rA_ | apply Kd.rN_ | apply Kd.rD_)); exact HO_13.out) hb); have n2_ := Aside0.mk (Kd.R_below (by (with_reducible repeat (first | apply Kd.rA_ | apply Kd.rN_ | apply Kd.rD_)); exact HO_52.out) hb); have n3_ := Aside0.mk (Kd.R_elder' (by (with_reducible repeat (first | apply Kd.rA_ | apply Kd.rN_ | apply Kd.rD_)); exact HO175.out) (Kd.R_base ho0) hb); have n4_ := Aside0.mk (Kd.R_elder' (by (with_reducible repeat (first | apply Kd.rA_ | apply Kd.rN_ | apply Kd.rD_)); exact HO181.out) (Kd.R_base ho0) hb); have n5_ := Aside0.mk (Kd.R_lower (Kd.R_new' (Kd.R_new' (Kd.R_new' ho0 (Kd.R_lt (by (with_reducible repeat (first | apply Kd.rA_ | apply Kd.rN_ | apply Kd.rD_)); exact HO_11.out))) (Kd.R_lt (by (with_reducible repeat (first | apply Kd.rA_ | apply Kd.rN_ | apply Kd.rD_)); exact HO175.out))) (Kd.R_lt (by (with_reducible repeat (first | apply Kd.rA_ | apply Kd.rN_ | apply Kd.rD_)); exact HO181.out))) (pbS_ (by repeat (first | (with_reducible first | exact HB.out | apply pbA_ | apply pbN_ | apply pb1_) | exact HB.out)))); have n6_ := Aside0.mk (below_step (by repeat (first | (with_reducible first | exact HB.out | apply pbA_ | apply pbN_ | apply pb1_) | exact HB.out)) hb); clear HO_11; clear HO_13; clear HO_52; clear HO175; clear HO181; clear HB; have HO_11 := n0_; have HO_13 := n1_; have HO_52 := n2_; have HO175 := n3_; have HO181 := n4_; have HO184 := n5_; have HB := n6_; clear n0_ n1_ n2_ n3_ n4_ n5_ n6_; (try clear hb); (try clear hb2); (try clear hk); (try clear hi); (try clear ho0)) | ((with_reducible refine gate_dst (N := 109) rfl ?_); (try (refine gate_guard (by rfl) ?_; dsimp only)); refine Kd.R_lit (Kd.int .u8) _ 5 ?hg (N := 109) ?hd (xs := ([(t158) % 256, (x12_3) % 256] : List Int)) (inner := [.int .u8 ((t158) % 256), .int .u8 ((x12_3) % 256)]) (ok := fun _ => True) (okp := fun _ => True) ?hr ?hp (fun _ hk => hk) trivial (Below.refl _ _) (Nat.le_refl _) (by simp) ?_; (case hd => rfl); (case hg => rfl); (case hr => first | (go_simp; done) | (go_simp; rfl)); (case hp => exact (Reps.one (show Kd.M (Kd.int .u8) _ _ _ ((t158) % 256) [.int .u8 ((t158) % 256)] from rfl) (Reps.one (show Kd.M (Kd.int .u8) _ _ _ ((x12_3) % 256) [.int .u8 ((x12_3) % 256)] from rfl) (Reps.none _ _)))); intro v186 w60 ho61 hb hg_ hnew_; clear hg_ hnew_; (first | rw [← Ny185.out] at ho61 | (simp only [Int.reduceToNat] at ho61; rw [← Ny185.out] at ho61)); have n0_ := Aside0.mk (Kd.R_elder' (by (with_reducible repeat (first | apply Kd.rA_ | apply Kd.rN_ | apply Kd.rD_)); exact HO_11.out) (Kd.R_base ho61) hb); have n1_ := Aside0.mk (Kd.R_below (by (with_reducible repeat (first | apply Kd.rA_ | apply Kd.rN_ | apply Kd.rD_)); exact HO_13.out) hb); have n2_ := Aside0.mk (Kd.R_below (by (with_reducible repeat (first | apply Kd.rA_ | apply Kd.rN_ | apply Kd.rD_)); exact HO_52.out) hb); have n3_ := Aside0.mk (Kd.R_elder' (by (with_reducible repeat (first | apply Kd.rA_ | apply Kd.rN_ | apply Kd.rD_)); exact HO175.out) (Kd.R_base ho61) hb); have n4_ := Aside0.mk (Kd.R_elder' (by (with_reducible repeat (first | apply Kd.rA_ | apply Kd.rN_ | apply Kd.rD_)); exact HO181.out) (Kd.R_base ho61) hb); have n5_ := Aside0.mk (Kd.R_elder' (by (with_reducible repeat (first | apply Kd.rA_ | apply Kd.rN_ | apply Kd.rD_)); exact HO184.out) (Kd.R_base ho61) hb); have n6_ := Aside0.mk (Kd.R_lower (Kd.R_new' (Kd.R_new' (Kd.R_new' (Kd.R_new' ho61 (Kd.R_lt (by (with_reducible repeat (first | apply Kd.rA_ | apply Kd.rN_ | apply Kd.rD_)); exact HO_11.out))) (Kd.R_lt (by (with_reducible repeat (first | apply Kd.rA_ | apply Kd.rN_ | apply Kd.rD_)); exact HO175.out))) (Kd.R_lt (by (with_reducible repeat (first | apply Kd.rA_ | apply Kd.rN_ | apply Kd.rD_)); exact HO181.out))) (Kd.R_lt (by (with_reducible repeat (first | apply Kd.rA_ | apply Kd.rN_ | apply Kd.rD_)); exact HO184.out))) (pbS_ (by repeat (first | (with_reducible first | exact HB.out | apply pbA_ | apply pbN_ | apply pb1_) | exact HB.out)))); have n7_ := Aside0.mk (below_step (by repeat (first | (with_reducible first | exact HB.out | apply pbA_ | apply pbN_ | apply pb1_) | exact HB.out)) hb); clear HO_11; clear HO_13; clear HO_52; clear HO175; clear HO181; clear HO184; clear HB; have HO_11 := n0_; have HO_13 := n1_; have HO_52 := n2_; have HO175 := n3_; have HO181 := n4_; have HO184 := n5_; have HO187 := n6_; have HB := n7_; clear n0_ n1_ n2_ n3_ n4_ n5_ n6_ n7_; clear hb ho61; obtain ⟨Ao63, co63, eo63⟩ := Kd.R_slice HO187.out; subst eo63) | ((with_reducible refine gate_builtin (b := .append) (xs := #[.tmp 104, .tmp 109]) rfl ?_); (try (refine gate_guard (by rfl) ?_; dsimp only)); at_builtin; refine Kd.R_append_rows (Kd.int .u8) (w0 := w) w.heap.size rfl (.tmp 104) (.tmp 109) 22 5 (.int .u8 0) 1 rfl Try.underlying22 info5 rfl (by decide) (by omega) v183 t182 y185 _ _ _ (fun k_ => some k_ ≠ (u11 : Value).ownBlock ∧ some k_ ≠ (v174 : Value).ownBlock ∧ some k_ ≠ (.slice Ao58 y179.length co58 : Value).ownBlock ∧ some k_ ≠ (.slice Ao63 y185.length co63 : Value).ownBlock) (fun _ => False) rfl rfl ?aO ?aR (fun _ _ h => h) (fun _ h => h.elim) ?aF ?aB ?aS ?aL ?_; (case aR => repeat (first | exact (Kd.R_reads' HO187.out).2.2 | (with_reducible refine Kd.cA_ ?_ _) | (with_reducible refine Kd.cN_ ?_ _) | (with_reducible refine Kd.cD_ ?_))); (case aB => exact (by repeat (first | (with_reducible first | exact HB.out | apply pbA_ | apply pbN_ | apply pb1_) | exact HB.out))); (case aF => exact (fun k_ hk => ⟨Kd.fresh' (Kd.R_lt (by (with_reducible repeat (first | apply Kd.rA_ | apply Kd.rN_ | apply Kd.rD_)); exact HO_11.out)) k_ hk, Kd.fresh' (Kd.R_lt (by (with_reducible repeat (first | apply Kd.rA_ | apply Kd.rN_ | apply Kd.rD_)); exact HO175.out)) k_ hk, Kd.fresh' (Kd.R_lt (by (with_reducible repeat (first | apply Kd.rA_ | apply Kd.rN_ | apply Kd.rD_)); exact HO181.out)) k_ hk, Kd.fresh' (Kd.R_lt (by (with_reducible repeat (first | apply Kd.rA_ | apply Kd.rN_ | apply Kd.rD_)); exact HO187.out)) k_ hk⟩)); (case aO => exact (by (with_reducible repeat (first | apply Kd.rA_ | apply Kd.rN_ | apply Kd.rD_)); exact Kd.R_mono HO184.out (fun _ hk => ⟨hk.1.1.1.2, ⟨hk.1.1.2, ⟨hk.1.2, hk.2⟩⟩⟩))); (case aS => exact (pbS_ (by repeat (first | (with_reducible first | exact HB.out | apply pbA_ | apply pbN_ | apply pb1_) | exact HB.out)))); (case aL => have := LMc52.out; omega); intro v189 w62 ho hb hg hat; rw [← Ny188.out] at ho; have n0_ := Aside0.mk (Kd.R_after (ok := (fun k_ => some k_ ≠ (v174 : Value).ownBlock ∧ some k_ ≠ (.slice Ao58 y179.length co58 : Value).ownBlock ∧ some k_ ≠ (.slice Ao63 y185.length co63 : Value).ownBlock)) (by (with_reducible repeat (first | apply Kd.rA_ | apply Kd.rN_ | apply Kd.rD_)); exact Kd.R_mono HO_11.out (fun _ hk => ⟨⟨hk.1.1.1, ⟨hk.1.1.2, hk.2⟩⟩, hk.1.2⟩)) hg hat); have n1_ := Aside0.mk (Kd.R_over' (by (with_reducible repeat (first | apply Kd.rA_ | apply Kd.rN_ | apply Kd.rD_)); exact HO_13.out) (Kd.R_typed (by (with_reducible repeat (first | apply Kd.rA_ | apply Kd.rN_ | apply Kd.rD_)); exact HO184.out)) (by decide) hg); have n2_ := Aside0.mk (Kd.R_over' (by (with_reducible repeat (first | apply Kd.rA_ | apply Kd.rN_ | apply Kd.rD_)); exact HO_52.out) (Kd.R_typed (by (with_reducible repeat (first | apply Kd.rA_ | apply Kd.rN_ | apply Kd.rD_)); exact HO184.out)) (by decide) hg); have n3_ := Aside0.mk (Kd.R_after (ok := (fun k_ => some k_ ≠ (u11 : Value).ownBlock ∧ some k_ ≠ (.slice Ao58 y179.length co58 : Value).ownBlock ∧ some k_ ≠ (.slice Ao63 y185.length co63 : Value).ownBlock)) (by (with_reducible repeat (first | apply Kd.rA_ | apply Kd.rN_ | apply Kd.rD_)); exact Kd.R_mono HO175.out (fun _ hk => ⟨⟨hk.1.1.1, ⟨hk.1.1.2, hk.2⟩⟩, hk.1.2⟩)) hg hat); have n4_ := Aside0.mk (Kd.R_after (ok := (fun k_ => some k_ ≠ (u11 : Value).ownBlock ∧ some k_ ≠ (v174 : Value).ownBlock ∧ some k_ ≠ (.slice Ao63 y185.length co63 : Value).ownBlock)) (by (with_reducible repeat (first | apply Kd.rA_ | apply Kd.rN_ | apply Kd.rD_)); exact Kd.R_mono HO181.out (fun _ hk => ⟨⟨hk.1.1.1, ⟨hk.1.1.2, hk.2⟩⟩, hk.1.2⟩)) hg hat); have n5_ := Aside0.mk (Kd.R_after (ok := (fun k_ => some k_ ≠ (u11 : Value).ownBlock ∧ some k_ ≠ (v174 : Value).ownBlock ∧ some k_ ≠ (.slice Ao58 y179.length co58 : Value).ownBlock)) (by (with_reducible repeat (first | apply Kd.rA_ | apply Kd.rN_ | apply Kd.rD_)); exact Kd.R_mono HO187.out (fun _ hk => ⟨⟨hk.1.1.1.2, ⟨hk.1.1.2, hk.1.2⟩⟩, hk.2⟩)) hg hat); have n6_ := Aside0.mk (hb); have n7_ := Aside0.mk (ho); clear HO_11; clear HO_13; clear HO_52; clear HO175; clear HO181; clear HO187; clear HB; clear HO184; have HO_11 := n0_; have HO_13 := n1_; have HO_52 := n2_; have HO175 := n3_; have HO181 := n4_; have HO187 := n5_; have HB := n6_; have HO190 := n7_; clear n0_ n1_ n2_ n3_ n4_ n5_ n6_ n7_; clear ho hb hg hat; obtain ⟨Ao64, co64, eo64⟩ := Kd.R_slice HO190.out; subst eo64; obtain ⟨Ao65, co65, eo65⟩ := Kd.R_slice HO175.out; subst eo65; obtain ⟨Ao66, co66, eo66⟩ := Kd.R_slice HO_11.out; subst eo66) | ((with_reducible refine gate_dst (N := 114) rfl ?_); (try (refine gate_guard (by rfl) ?_; dsimp only)); refine Kd.N_lit (Kd.slice 5 (Kd.int .u8)) _ 22 ?hg (N' := 114) ?hd (xs := ([y188, t172, x11_3] : List (List Int))) (inner := [.slice Ao64 y188.length co64, .slice Ao65 t172.length co65, .slice Ao66 x11_3.length co66]) (ok := (fun k_ => some k_ ≠ (.slice Ao54 x13_3.length co54 : Value).ownBlock ∧ some k_ ≠ (.slice Ao22 x7_2.length co22 : Value).ownBlock ∧ some k_ ≠ (.slice Ao58 y179.length co58 : Value).ownBlock ∧ some k_ ≠ (.slice Ao63 y185.length co63 : Value).ownBlock)) (okp := (fun k_ => some k_ ≠ (.slice Ao54 x13_3.length co54 : Value).ownBlock ∧ some k_ ≠ (.slice Ao22 x7_2.length co22 : Value).ownBlock ∧ some k_ ≠ (.slice Ao58 y179.length co58 : Value).ownBlock ∧ some k_ ≠ (.slice Ao63 y185.length co63 : Value).ownBlock)) ?hr ?hp (fun _ hk => hk) ((show ∀ k_, w62.heap.size ≤ k_ → (fun k_ => some k_ ≠ (.slice Ao54 x13_3.length co54 : Value).ownBlock ∧ some k_ ≠ (.slice Ao22 x7_2.length co22 : Value).ownBlock ∧ some k_ ≠ (.slice Ao58 y179.length co58 : Value).ownBlock ∧ some k_ ≠ (.slice Ao63 y185.length co63 : Value).ownBlock) k_ from fun k_ hk => ⟨Kd.fresh' (Kd.R_lt (by (with_reducible repeat (first | apply Kd.rA_ | apply Kd.rN_ | apply Kd.rD_)); exact HO_13.out)) k_ hk, Kd.fresh' (Kd.R_lt (by (with_reducible repeat (first | apply Kd.rA_ | apply Kd.rN_ | apply Kd.rD_)); exact HO_52.out)) k_ hk, Kd.fresh' (Kd.R_lt (by (with_reducible repeat (first | apply Kd.rA_ | apply Kd.rN_ | apply Kd.rD_)); exact HO181.out)) k_ hk, Kd.fresh' (Kd.R_lt (by (with_reducible repeat (first | apply Kd.rA_ | apply Kd.rN_ | apply Kd.rD_)); exact HO187.out)) k_ hk⟩) _ (Nat.le_refl _)) (Below.refl _ _) (Nat.le_refl _) (by simp) ?_; (case hd => rfl); (case hg => rfl); (case hr => first | (go_simp; done) | (go_simp; rfl)); (case hp => exact (Reps.one (show Kd.FK (Kd.slice 5 (Kd.int .u8)) _ _ y188 [.slice Ao64 y188.length co64] from (Kd.FK_slice_mk (Kd.R_reads' (Kd.R_mono (ok' := (fun k_ => some k_ ≠ (.slice Ao54 x13_3.length co54 : Value).ownBlock ∧ some k_ ≠ (.slice Ao22 x7_2.length co22 : Value).ownBlock ∧ some k_ ≠ (.slice Ao58 y179.length co58 : Value).ownBlock ∧ some k_ ≠ (.slice Ao63 y185.length co63 : Value).ownBlock)) (Kd.R_apart' (Kd.R_apart' (HO190.out) (Kd.R_typed HO_13.out) (by decide)) (Kd.R_typed HO_52.out) (by decide)) (fun k_ hk => ⟨hk.1.2, ⟨hk.2, ⟨hk.1.1.2.2.1, hk.1.1.2.2.2⟩⟩⟩))).2.1 (Kd.R_F (Kd.R_mono (ok' := (fun k_ => some k_ ≠ (.slice Ao54 x13_3.length co54 : Value).ownBlock ∧ some k_ ≠ (.slice Ao22 x7_2.length co22 : Value).ownBlock ∧ some k_ ≠ (.slice Ao58 y179.length co58 : Value).ownBlock ∧ some k_ ≠ (.slice Ao63 y185.length co63 : Value).ownBlock)) (Kd.R_apart' (Kd.R_apart' (HO190.out) (Kd.R_typed HO_13.out) (by decide)) (Kd.R_typed HO_52.out) (by decide)) (fun k_ hk => ⟨hk.1.2, ⟨hk.2, ⟨hk.1.1.2.2.1, hk.1.1.2.2.2⟩⟩⟩))))) (Reps.one (show Kd.FK (Kd.slice 5 (Kd.int .u8)) _ _ t172 [.slice Ao65 t172.length co65] from (Kd.FK_slice_mk (Kd.R_reads' (Kd.R_mono (ok' := (fun k_ => some k_ ≠ (.slice Ao54 x13_3.length co54 : Value).ownBlock ∧ some k_ ≠ (.slice Ao22 x7_2.length co22 : Value).ownBlock ∧ some k_ ≠ (.slice Ao58 y179.length co58 : Value).ownBlock ∧ some k_ ≠ (.slice Ao63 y185.length co63 : Value).ownBlock)) (Kd.R_apart' (Kd.R_apart' (HO175.out) (Kd.R_typed HO_13.out) (by decide)) (Kd.R_typed HO_52.out) (by decide)) (fun k_ hk => ⟨hk.1.2, ⟨hk.2, ⟨hk.1.1.1.2.1, hk.1.1.1.2.2⟩⟩⟩))).2.1 (Kd.R_F (Kd.R_mono (ok' := (fun k_ => some k_ ≠ (.slice Ao54 x13_3.length co54 : Value).ownBlock ∧ some k_ ≠ (.slice Ao22 x7_2.length co22 : Value).ownBlock ∧ some k_ ≠ (.slice Ao58 y179.length co58 : Value).ownBlock ∧ some k_ ≠ (.slice Ao63 y185.length co63 : Value).ownBlock)) (Kd.R_apart' (Kd.R_apart' (HO175.out) (Kd.R_typed HO_13.out) (by decide)) (Kd.R_typed HO_52.out) (by decide)) (fun k_ hk => ⟨hk.1.2, ⟨hk.2, ⟨hk.1.1.1.2.1, hk.1.1.1.2.2⟩⟩⟩))))) (Reps.one (show Kd.FK (Kd.slice 5 (Kd.int .u8)) _ _ x11_3 [.slice Ao66 x11_3.length co66] from (Kd.FK_slice_mk (Kd.R_reads' (Kd.R_mono (ok' := (fun k_ => some k_ ≠ (.slice Ao54 x13_3.length co54 : Value).ownBlock ∧ some k_ ≠ (.slice Ao22 x7_2.length co22 : Value).ownBlock ∧ some k_ ≠ (.slice Ao58 y179.length co58 : Value).ownBlock ∧ some k_ ≠ (.slice Ao63 y185.length co63 : Value).ownBlock)) (Kd.R_apart' (Kd.R_apart' (HO_11.out) (Kd.R_typed HO_13.out) (by decide)) (Kd.R_typed HO_52.out) (by decide)) (fun k_ hk => ⟨hk.1.2, ⟨hk.2, ⟨hk.1.1.1.2.1, hk.1.1.1.2.2⟩⟩⟩))).2.1 (Kd.R_F (Kd.R_mono (ok' := (fun k_ => some k_ ≠ (.slice Ao54 x13_3.length co54 : Value).ownBlock ∧ some k_ ≠ (.slice Ao22 x7_2.length co22 : Value).ownBlock ∧ some k_ ≠ (.slice Ao58 y179.length co58 : Value).ownBlock ∧ some k_ ≠ (.slice Ao63 y185.length co63 : Value).ownBlock)) (Kd.R_apart' (Kd.R_apart' (HO_11.out) (Kd.R_typed HO_13.out) (by decide)) (Kd.R_typed HO_52.out) (by decide)) (fun k_ hk => ⟨hk.1.2, ⟨hk.2, ⟨hk.1.1.1.2.1, hk.1.1.1.2.2⟩⟩⟩))))) (Reps.none _ _))))); intro v192 w67 ho68 hb hg_ hnew_; clear hg_ hnew_; (first | rw [← Ny191.out] at ho68 | (simp only [Int.reduceToNat] at ho68; rw [← Ny191.out] at ho68)); have n0_ := Aside0.mk (Kd.R_below (by (with_reducible repeat (first | apply Kd.rA_ | apply Kd.rN_ | apply Kd.rD_)); exact HO_13.out) hb); have n1_ := Aside0.mk (Kd.R_below (by (with_reducible repeat (first | apply Kd.rA_ | apply Kd.rN_ | apply Kd.rD_)); exact HO_52.out) hb); have n2_ := Aside0.mk (Kd.R_below (by (with_reducible repeat (first | apply Kd.rA_ | apply Kd.rN_ | apply Kd.rD_)); exact HO181.out) hb); have n3_ := Aside0.mk (Kd.R_below (by (with_reducible repeat (first | apply Kd.rA_ | apply Kd.rN_ | apply Kd.rD_)); exact HO187.out) hb); have n4_ := Aside0.mk (Kd.N_lower ho68 (pbS_ (by repeat (first | (with_reducible first | exact HB.out | apply pbA_ | apply pbN_ | apply pb1_) | exact HB.out)))); have n5_ := Aside0.mk (below_step (by repeat (first | (with_reducible first | exact HB.out | apply pbA_ | apply pbN_ | apply pb1_) | exact HB.out)) hb); clear HO_13; clear HO_52; clear HO181; clear HO187; clear HB; clear HO175; clear HO190; clear HO_11; have HO_13 := n0_; have HO_52 := n1_; have HO181 := n2_; have HO187 := n3_; have HO193 := n4_; have HB := n5_; clear n0_ n1_ n2_ n3_ n4_ n5_; clear hb ho68; obtain ⟨Ao69, co69, eo69⟩ := Kd.N_slice HO193.out; subst eo69) | ((with_reducible refine gaC_ (f := 72) rfl ?_); refine goesL_ (some 115) rfl rfl Try.func72 (by kernel_rfl) rfl #[.slice Ao69 y191.length co69] rfl (by (try simp only [List.map_toArray, List.map_cons, List.map_nil]); first | done | rfl | (simp only [List.length_drop, List.length_take]; rfl)) ?_; (with_reducible refine (slices_Concat_byte_byte.calls k3 _ _ y191 t194 _ ?side1 ?side2 A53.out).mono ?_); (case side1 => repeat (first | exact (Kd.N_reads' HO193.out).2.2 | (with_reducible refine Kd.cA_ ?_ _) | (with_reducible refine Kd.cN_ ?_ _) | (with_reducible refine Kd.cD_ ?_))); (case side2 => exact (Kd.N_reads' HO193.out).2.1); rintro e w70 ⟨v195, rfl, ho0, hb⟩; refine ⟨_, rfl, ?_⟩; have n0_ := Aside0.mk (Kd.R_below (by (with_reducible repeat (first | apply Kd.rA_ | apply Kd.rN_ | apply Kd.rD_)); exact HO_13.out) hb); have n1_ := Aside0.mk (Kd.R_below (by (with_reducible repeat (first | apply Kd.rA_ | apply Kd.rN_ | apply Kd.rD_)); exact HO_52.out) hb); have n2_ := Aside0.mk (Kd.R_elder' (by (with_reducible repeat (first | apply Kd.rA_ | apply Kd.rN_ | apply Kd.rD_)); exact HO181.out) (Kd.R_base ho0) hb); have n3_ := Aside0.mk (Kd.R_elder' (by (with_reducible repeat (first | apply Kd.rA_ | apply Kd.rN_ | apply Kd.rD_)); exact HO187.out) (Kd.R_base ho0) hb); have n4_ := Aside0.mk (Kd.N_elder' (by (with_reducible repeat (first | apply Kd.N_alloc | apply Kd.N_drewN | apply Kd.N_drew)); exact HO193.out) (Kd.R_base ho0) hb); have n5_ := Aside0.mk (Kd.R_lower (Kd.R_new' (Kd.R_new' ho0 (Kd.R_lt (by (with_reducible repeat (first | apply Kd.rA_ | apply Kd.rN_ | apply Kd.rD_)); exact HO181.out))) (Kd.R_lt (by (with_reducible repeat (first | apply Kd.rA_ | apply Kd.rN_ | apply Kd.rD_)); exact HO187.out))) (pbS_ (by repeat (first | (with_reducible first | exact HB.out | apply pbA_ | apply pbN_ | apply pb1_) | exact HB.out)))); have n6_ := Aside0.mk (below_step (by repeat (first | (with_reducible first | exact HB.out | apply pbA_ | apply pbN_ | apply pb1_) | exact HB.out)) hb); clear HO_13; clear HO_52; clear HO181; clear HO187; clear HO193; clear HB; have HO_13 := n0_; have HO_52 := n1_; have HO181 := n2_; have HO187 := n3_; have HO193 := n4_; have HO196 := n5_; have HB := n6_; clear n0_ n1_ n2_ n3_ n4_ n5_ n6_; (try clear hb); (try clear hb2); (try clear hk); (try clear hi); (try clear ho0)))
                 go_ret2
                 exact ⟨_, by first | rfl | (simp [eWn_, eWs_] <;> rfl) | (simp [*, eWn_, eWs_] <;> rfl), by (with_reducible repeat (first | apply Kd.rA_ | apply Kd.rN_ | apply Kd.rD_)); exact Kd.R_mono HO196.out (fun _ hk => trivial), by repeat (first | (with_reducible first | exact HB.out | apply pbA_ | apply pbN_ | apply pb1_) | exact HB.out)⟩
                ·rw [if_neg c52] at H
                 exact absurd H (by simp)
               ·rw [if_neg c50] at H
                exact absurd H (by simp)
              ·rw [if_neg c48] at H
               have c48b0 : (t173 == 0) = false := beq_eq_false_iff_ne.mpr c48
               have c48b1 : (t173 != 0) = true := bne_iff_ne.mpr c48
               simp only [Option.some.injEq, Prod.mk.injEq] at H
               obtain ⟨rfl, rfl⟩ := H
               obtain ⟨Ao71, co71, eo71⟩ := Kd.R_slice HO_13.out
               subst eo71
               go_wp2_with (first | ((with_reducible refine gaC_ (f := 26) rfl ?_); refine goesL_ (some 89) rfl rfl Try.func26 (by kernel_rfl) rfl #[.slice Ao71 x13_3.length co71, .int .i64 t158] rfl (by (try simp only [List.map_toArray, List.map_cons, List.map_nil]); first | done | rfl | (simp only [List.length_drop, List.length_take]; rfl)) ?_; (with_reducible refine (bits_Pack.calls k3 _ _ x13_3 t158 t172 t173 _ ?side1 ?side2 A47.out).mono ?_); (case side1 => repeat (first | exact (Kd.R_reads' HO_13.out).2.2 | (with_reducible refine Kd.cA_ ?_ _) | (with_reducible refine Kd.cN_ ?_ _) | (with_reducible refine Kd.cD_ ?_))); (case side2 => exact (Kd.R_reads' HO_13.out).2.1); rintro e w72 ⟨v174, rfl, ho0, hb⟩; refine ⟨_, rfl, ?_⟩; have n0_ := Aside0.mk (Kd.R_elder' (by (with_reducible repeat (first | apply Kd.rA_ | apply Kd.rN_ | apply Kd.rD_)); exact HO_11.out) (Kd.R_base ho0) hb); have n1_ := Aside0.mk (Kd.R_below (by (with_reducible repeat (first | apply Kd.rA_ | apply Kd.rN_ | apply Kd.rD_)); exact HO_13.out) hb); have n2_ := Aside0.mk (Kd.R_below (by (with_reducible repeat (first | apply Kd.rA_ | apply Kd.rN_ | apply Kd.rD_)); exact HO_52.out) hb); have n3_ := Aside0.mk (Kd.R_lower (Kd.R_new' ho0 (Kd.R_lt (by (with_reducible repeat (first | apply Kd.rA_ | apply Kd.rN_ | apply Kd.rD_)); exact HO_11.out))) (pbS_ (by repeat (first | (with_reducible first | exact HB.out | apply pbA_ | apply pbN_ | apply pb1_) | exact HB.out)))); have n4_ := Aside0.mk (below_step (by repeat (first | (with_reducible first | exact HB.out | apply pbA_ | apply pbN_ | apply pb1_) | exact HB.out)) hb); clear HO_11; clear HO_13; clear HO_52; clear HB; have HO_11 := n0_; have HO_13 := n1_; have HO_52 := n2_; have HO175 := n3_; have HB := n4_; clear n0_ n1_ n2_ n3_ n4_; (try clear hb); (try clear hb2); (try clear hk); (try clear hi); (try clear ho0)))
               go_ret2
               exact ⟨_, by first | rfl | (simp [eWn_, eWs_] <;> rfl) | (simp [*, eWn_, eWs_] <;> rfl), by first | exact Kd.R_nil _ _ _ _ _ | exact Kd.N_nil _ _ _ _ _ | exact Kd.V_nil _ _ _ _ _ | exact Kd.Q_nil _ _ _ _ _ | exact Kd.S_nil _ _ _ _ _, by repeat (first | (with_reducible first | exact HB.out | apply pbA_ | apply pbN_ | apply pb1_) | exact HB.out)⟩
          ·rw [if_neg c21] at H
           exact absurd H (by simp)
         ·rw [if_neg c20] at H
          exact absurd H (by simp)
     ·rw [if_neg c8] at H
      exact absurd H (by simp)
    ·rw [if_neg c7] at H
     exact absurd H (by simp)
section
attribute [local go_sem] Oper.semAt_some
set_option maxHeartbeats 1000000 in
theorem chunk_in (n : Nat) (A : Option Addr) (len cap : Nat) (w : World) :
  CallsIn Fence.wide n Try.prog 61 #[.slice A len cap, .int .i64 32] w fun e w' => e = .returned (.func (.func 68) #[] #[.pointer (some ⟨w.heap.size, 0, none⟩), .pointer (some ⟨w.heap.size + 1, 0, none⟩)]) ∧ w' = (w.alloc (.cells #[.slice A len cap] 49)).alloc (.cells #[.int .i64 32] 3) := by
 refine callsIn_of_wp Try.func61 rfl trivial ?_ rfl
 simp only [Try.ntmps61, List.size_toArray, List.length_cons, List.length_nil, Nat.reduceAdd, Nat.reduceSub, Array.replicate_succ, Array.replicate_zero, List.push_toArray, List.append_toArray, List.nil_append, List.cons_append]
 gi_wp2
 go_ret
 exact ⟨rfl, rfl⟩
abbrev ChunkNo (len : Nat) := { j : Nat // 32 * j < len }
theorem chunk_cut (a : Addr) (len cap s m : Nat) (hm : 0 < m) (hj : s + m ≤ len) (hc : len ≤ cap) (W : World) :
  (Instr.slice 49 (.slice (some a) len cap) (some (.int .i64 (s : Int))) (some (.int .i64 ((s : Int) + (m : Int)))) (some (.int .i64 ((s : Int) + (m : Int))))).run Try.prog W = .ok (.slice (some (a.add s)) m m) W := by
 obtain ⟨i0, hi0, _, hsz, _⟩ := info_parts info50
 have hel : Try.prog.elem 49 = 50 := by simp [Program.elem, Try.underlying49]
 have hu : Try.prog.underlying 49 = some (.slice (Try.prog.elem 49)) := by rw [hel]; exact Try.underlying49
 rw [run_slice_lhm W 49 (some a) len cap hu .i64 .i64 .i64 _ _ _ (by omega) (by omega) (by omega) (by omega), hel, ← Int.natCast_add, Int.toNat_natCast, Int.toNat_natCast]
 simp [sizeOf, typeInfo, hi0, hsz, sliced, Result.andThen]
 omega
theorem chunk_tail (a : Addr) (len cap s : Nat) (hj : s < len) (hc : len ≤ cap) (W : World) :
  (Instr.slice 49 (.slice (some a) len cap) (some (.int .i64 (s : Int))) none none).run Try.prog W = .ok (.slice (some (a.add s)) (len - s) (cap - s)) W := by
 obtain ⟨i0, hi0, _, hsz, _⟩ := info_parts info50
 have hel : Try.prog.elem 49 = 50 := by simp [Program.elem, Try.underlying49]
 have hu : Try.prog.underlying 49 = some (.slice (Try.prog.elem 49)) := by rw [hel]; exact Try.underlying49
 rw [run_slice_l W 49 (some a) len cap hu .i64 _ (by omega) (by omega), hel, Int.toNat_natCast]
 simp [sizeOf, typeInfo, hi0, hsz, sliced, Result.andThen]
 omega
theorem grown_drewN (W : World) (n : Nat) : W.grownBy (W.drewN n) none := ⟨rfl, rfl, rfl, Nat.le_refl _, fun k _ _ => rfl⟩
def KpC (n₀ Bs Bn : Nat) (W W' : World) : Prop := Below n₀ W W' ∧ W'.heap[Bs]? = W.heap[Bs]? ∧ W'.heap[Bn]? = W.heap[Bn]?
theorem KpC.trans {n₀ Bs Bn : Nat} {A B C : World} (h : KpC n₀ Bs Bn A B) (k : KpC n₀ Bs Bn B C) : KpC n₀ Bs Bn A C := ⟨h.1.trans k.1, k.2.1.trans h.2.1, k.2.2.trans h.2.2⟩
theorem KpC.refl (n₀ Bs Bn : Nat) (W : World) : KpC n₀ Bs Bn W W := ⟨Below.refl _ _, rfl, rfl⟩
theorem KpC.drewN {n₀ Bs Bn : Nat} {A B : World} (h : KpC n₀ Bs Bn A B) (n : Nat) : KpC n₀ Bs Bn A (B.drewN n) := ⟨pbN_ h.1 n, h.2.1, h.2.2⟩
theorem KpC.cell1 {n₀ Bs Bn : Nat} {A B : World} (h : KpC n₀ Bs Bn A B) {v : Value} (hc : A.cell? ⟨Bs, 0, none⟩ = some v) : B.cell? ⟨Bs, 0, none⟩ = some v := by
 unfold World.cell? at hc ⊢
 simp only [h.2.1]
 exact hc
theorem KpC.cell2 {n₀ Bs Bn : Nat} {A B : World} (h : KpC n₀ Bs Bn A B) {v : Value} (hc : A.cell? ⟨Bn, 0, none⟩ = some v) : B.cell? ⟨Bn, 0, none⟩ = some v := by
 unfold World.cell? at hc ⊢
 simp only [h.2.2]
 exact hc
theorem kpC_b {n₀ Bs Bn : Nat} {w : World} (hn : n₀ ≤ w.heap.size) (h1 : Bs < w.heap.size) (h2 : Bn < w.heap.size) (W : World) (l : Nat) (o o' : Obj) (hl : w.heap.size ≤ l) (h : W.heap[l]? = some o) (hc : o.isCells = false) (hw : o.isWalk = false) : KpC n₀ Bs Bn W (W.putObj l o') :=
 ⟨belowK_b hn W l o o' hl h hc hw, World.putObj_heap_other (by omega), World.putObj_heap_other (by omega)⟩
def encChunk (a : Option Addr) (len : Nat) (x : ChunkNo len) : Array Value := #[.slice (a.map (·.add (32 * x.1))) (min 32 (len - 32 * x.1)) (min 32 (len - 32 * x.1))]
set_option maxRecDepth 100000 in
set_option maxHeartbeats 2000000 in
theorem chunk1_in (l Bs Bn n₀ : Nat) (a : Addr) (len cap : Nat) (hc : len ≤ cap) (hreach : len ≤ 140737488351232) (J Jx : List (ChunkNo len) → World → Prop)
  (hY : ∀ pre x W, J pre W → pre.length < len → YieldAt Fence.wide 7 Try.prog l (encChunk (some a) len x) W fun e W' =>
   (e = .returned (.bool true) ∧ J (pre ++ [x]) W' ∧ KpC n₀ Bs Bn W W') ∨ (e = .returned (.bool false) ∧ Jx (pre ++ [x]) W'))
  (B : Nat) (hA : AbidesFrom B J) (W : World) (hBs : W.cell? ⟨Bs, 0, none⟩ = some (.slice (some a) len cap)) (hBn : W.cell? ⟨Bn, 0, none⟩ = some (.int .i64 32)) (h0 : J [] W) :
  CallsIn Fence.wide 8 Try.prog 68 #[.func (.yield l) #[] #[], .pointer (some ⟨Bs, 0, none⟩), .pointer (some ⟨Bn, 0, none⟩)] W fun e W' => (∃ v, e = .returned v) ∧
   ((∃ ys : List (ChunkNo len), ys.map (·.1) = List.range ((len + 31) / 32) ∧ J ys W') ∨ (∃ pre, True ∧ Jx pre W')) := by
 refine callsIn_of_wp Try.func68 rfl trivial ?_ rfl
 simp only [Try.ntmps68, List.size_toArray, List.length_cons, List.length_nil, Nat.reduceAdd, Nat.reduceSub, Array.replicate_succ, Array.replicate_zero, List.push_toArray, List.append_toArray, List.nil_append, List.cons_append]
 gi_wp2
 gi_loopw [4] (fun i wr => ∃ (k s : Nat) (pre : List (ChunkNo len)), Aside0 (s = 32 * k) ∧ k ≤ (len + 31) / 32 ∧ i = .int .i64 (s : Int) ∧ pre.map (·.1) = List.range k ∧ J pre wr ∧ KpC n₀ Bs Bn W wr)
  (fun i _ => len + 32 - (intOf i).toNat)
 case atStart => exact ⟨0, 0, [], ⟨rfl⟩, Nat.zero_le _, rfl, rfl, h0, KpC.refl _ _ _ _⟩
 case round =>
  obtain ⟨k, s, pre, hs, hk, rfl, hpre, hJs, hnx⟩ := hrel
  have hcs : wr.cell? ⟨Bs, 0, none⟩ = some (.slice (some a) len cap) := hnx.cell1 hBs
  have hcn : wr.cell? ⟨Bn, 0, none⟩ = some (.int .i64 32) := hnx.cell2 hBn
  by_cases hlt : s < len
  ·have hlt' : 32 * k < len := by have := hs.out; omega
   obtain ⟨m, hm⟩ : ∃ m : Nat, Aside0 (m = min 32 (len - s)) := ⟨_, ⟨rfl⟩⟩
   have hpl : Aside0 (pre.length = k) := ⟨by have := congrArg List.length hpre; simpa using this⟩
   have hPre := Aside0.mk hpre
   clear hpre
   have hcut := chunk_cut a len cap s m (by have := hm.out; omega) (by have := hm.out; omega) hc
   obtain ⟨q, hq⟩ : ∃ q : Nat, Aside0 (q = len - s) := ⟨_, ⟨rfl⟩⟩
   have htail := chunk_tail a len cap s hlt hc
   rw [← hq.out] at htail
   have hm0 : 0 < m := by have := hm.out; omega
   have hm1 : s + m ≤ len := by have := hm.out; omega
   have hmn : min 32 (q : Int) = (m : Int) := by have := hm.out; have := hq.out; omega
   have hmi : (if (q : Int) < 32 then (q : Int) else 32) = (m : Int) := by have := hm.out; have := hq.out; split <;> omega
   gi_wp2
   gi_quiet (fail)
   have hJ2 : J pre (wr.drewN nq) := hA pre wr _ none hJs (grown_drewN wr nq) (fun r e => by cases e)
   obtain ⟨fn, tmps, assign, body, hy, hR⟩ := hY pre ⟨k, hlt'⟩ (wr.drewN nq) hJ2 (by have := hpl.out; omega)
   have hy2 : (Instr.yield l #[.slice (some (a.add s)) m m]).run Try.prog (wr.drewN nq) = .ok (.round l fn tmps assign body) (wr.drewN nq) := by
    have e1 := hs.out
    have e2 := hm.out
    rw [e1] at e2
    rw [e1, e2]
    exact hy
   clear hy
   gi_wp2
   refine hR.mono ?_
   rintro e W3 (⟨rfl, hJ3, hk3⟩ | ⟨rfl, hJx3⟩)
   ·have hnx3 : KpC n₀ Bs Bn W W3 := (hnx.drewN nq).trans hk3
    have hcn3 : W3.cell? ⟨Bn, 0, none⟩ = some (.int .i64 32) := hnx3.cell2 hBn
    gi_wp2
    go_roundw
    case rel => exact ⟨k + 1, s + 32, pre ++ [⟨k, hlt'⟩], ⟨by have := hs.out; omega⟩, by omega, by simp, by rw [List.map_append, hPre.out, List.range_succ]; rfl, hJ3, hnx3⟩
    case measure => simp [intOf]; omega
   ·gi_wp2
    refine bodyPost_ret (results_none rfl _ _ _) rfl ?_
    exact ⟨⟨_, rfl⟩, .inr ⟨_, trivial, hJx3⟩⟩
  ·gi_wp2
   go_end0
   refine ⟨⟨_, rfl⟩, .inl ⟨pre, ?_, hJs⟩⟩
   rw [hpre, show k = (len + 31) / 32 by have := hs.out; omega]
set_option maxRecDepth 100000 in
set_option maxHeartbeats 1000000 in
theorem chunk1_nil_in (l Bs Bn cap : Nat) {α : Type} (J : List α → World → Prop) (W : World) (hBs : W.cell? ⟨Bs, 0, none⟩ = some (.slice none 0 cap)) (h0 : J [] W) :
  CallsIn Fence.wide 8 Try.prog 68 #[.func (.yield l) #[] #[], .pointer (some ⟨Bs, 0, none⟩), .pointer (some ⟨Bn, 0, none⟩)] W fun e W' => (∃ v, e = .returned v) ∧ J [] W' := by
 refine callsIn_of_wp Try.func68 rfl trivial ?_ rfl
 simp only [Try.ntmps68, List.size_toArray, List.length_cons, List.length_nil, Nat.reduceAdd, Nat.reduceSub, Array.replicate_succ, Array.replicate_zero, List.push_toArray, List.append_toArray, List.nil_append, List.cons_append]
 gi_wp2
 gi_loopw [4] (fun i wr => i = .int .i64 0 ∧ wr.cell? ⟨Bs, 0, none⟩ = some (.slice none 0 cap) ∧ J [] wr) (fun _ _ => 0)
 case atStart => exact ⟨rfl, hBs, h0⟩
 case round =>
  obtain ⟨rfl, hc, hJs⟩ := hrel
  gi_wp2
  go_end0
  exact ⟨⟨_, rfl⟩, hJs⟩
theorem chunk_stops (Bs Bn n₀ : Nat) (a : Option Addr) (len cap : Nat) (ha : a = none → len = 0) (hc : len ≤ cap) (hreach : len ≤ 140737488351232) (w : World) (hB : Bs < w.heap.size) (hB2 : Bn < w.heap.size)
  (hBs : w.cell? ⟨Bs, 0, none⟩ = some (.slice a len cap)) (hBn : w.cell? ⟨Bn, 0, none⟩ = some (.int .i64 32)) :
  SeqStopsK Fence.wide 8 Try.prog 68 #[.pointer (some ⟨Bs, 0, none⟩), .pointer (some ⟨Bn, 0, none⟩)] (encChunk a len) (KpC n₀ Bs Bn) (fun ys => ys.map (·.1) = List.range ((len + 31) / 32)) (fun _ => True) len w := fun l J Jx W hW hJ _ hY h0 => by
 have h1 := (hW.cell (p := ⟨Bs, 0, none⟩) hB).trans hBs
 cases a with
 | none =>
  obtain rfl := ha rfl
  exact (chunk1_nil_in l Bs Bn cap J W h1 h0).mono fun e W' ⟨he, hj⟩ => ⟨he, .inl ⟨[], rfl, hj⟩⟩
 | some a => exact chunk1_in l Bs Bn n₀ a len cap hc hreach J Jx hY W.heap.size hJ W h1 ((hW.cell (p := ⟨Bn, 0, none⟩) hB2).trans hBn) h0
noncomputable def pfor_PutList.l0 : Nat → List Int → List Int → Option (List Int)
 | 0, _, _ => none
 | k + 1, out, rest => if rest.length = 0 then some out else (pfor_PutBlock.f k out (rest.take 32)).bind fun bt => pfor_PutList.l0 k bt.1 (rest.drop 32)
def pfor_PutList.Ok (l0 l1 : List Int) : Prop := (∀ x ∈ l0, 0 ≤ x ∧ x ≤ 255) ∧ l0.length + 1000 * l1.length ≤ 140737488350000 ∧ ∀ acc : List Int, (∀ x ∈ acc, 0 ≤ x ∧ x ≤ 255) → acc.length ≤ l0.length + 1000 + 1000 * l1.length → ∀ j, 32 * j < l1.length →
 ∃ k y, pfor_PutBlock.f k acc ((l1.drop (32 * j)).take 32) = some y ∧ (∀ x ∈ y.1, 0 ≤ x ∧ x ≤ 255) ∧ y.1.length ≤ acc.length + 1000
noncomputable def pfor_PutList.f (k : Nat) (l0 l1 : List Int) : Option (List Int) :=
 @ite _ (pfor_PutList.Ok l0 l1) (Classical.propDecidable _) ((num_Put.f k l0 (l1.length : Int)).bind fun t => if (∀ x ∈ t, 0 ≤ x ∧ x ≤ 255) ∧ t.length ≤ l0.length + 1000 then pfor_PutList.l0 k t l1 else none) none
theorem pfor_PutList.mono_l : ∀ k a0 a1, LeO (pfor_PutList.l0 k a0 a1) (pfor_PutList.l0 (k + 1) a0 a1)
 | 0, _, _ => LeO.none _
 | k + 1, a0, a1 => by
  rw [pfor_PutList.l0, pfor_PutList.l0]
  exact LeO.ite (LeO.refl _) (LeO.bind (pfor_PutBlock.mono _ _ _) (fun _ => pfor_PutList.mono_l k _ _))
theorem pfor_PutList.mono : ∀ a0 a1 k, LeO (pfor_PutList.f k a0 a1) (pfor_PutList.f (k + 1) a0 a1) := by
 intro a0 a1 k
 unfold pfor_PutList.f
 by_cases h : pfor_PutList.Ok a0 a1
 ·rw [if_pos h, if_pos h]
  exact LeO.bind (num_Put.mono _ _ _) (fun _ => LeO.ite (pfor_PutList.mono_l k _ _) (LeO.none _))
 ·rw [if_neg h]
  exact LeO.none _
theorem keeps_below {W W' : World} (h : Below W.heap.size W W') : KeepsOthers W W' := ⟨h.size, fun k o hk _ => (h.block k (Array.getElem?_eq_some_iff.1 hk).1).trans hk⟩
def pfor_PutList.Held (w : World) (l0 l1 : List Int) (k : Nat) (r : List Int) (B : Nat) (pre : List (ChunkNo l1.length)) (W : World) : Prop :=
 (∃ (acc : List Int) (v : Value), Aside0 ((∀ x ∈ acc, 0 ≤ x ∧ x ≤ 255) ∧ acc.length ≤ l0.length + 1000 + 1000 * pre.length ∧ (pre.map (·.1) = List.range pre.length → ∃ kq, pfor_PutList.l0 kq acc (l1.drop (32 * pre.length)) = some r)) ∧ Boxed W B 22 v ∧ Kd.R (Kd.int .u8) 5 W w.heap.size (fun _ => True) v acc ∧ B + 3 ≤ W.heap.size) ∧ Below w.heap.size w W
theorem pfor_PutList.held_own (w : World) (l0 l1 : List Int) (k : Nat) (r : List Int) (B : Nat) (B0 : Nat) (h : w.heap.size ≤ B0) : OwnFrom B0 (pfor_PutList.Held w l0 l1 k r B) := by
 refine OwnFrom.and (Own.from ?_ _) (ownFrom_below (Nat.le_refl _) h)
 rintro s X Y row ⟨acc, v, hp, hv, hR, hz⟩ hg hrow
 obtain ⟨v', hv', hr', rfl⟩ := holdsRow_own (β := Unit) w.heap.size B 22 5 1 (fun _ => acc.length) (fun _ => encs (Value.int .u8) acc) (fun _ u => u = v) () X Y row ⟨v, hv, Kd.own_of_R hR, rfl⟩ hg hrow
 exact ⟨acc, _, hp, hv', Kd.R_of_own hr' (fun _ _ => trivial), Nat.le_trans hz hg.size⟩
theorem pfor_PutList.step {l1 acc : List Int} {r y : List Int} {pl : Nat} (hl : 32 * pl < l1.length) (h : ∃ kq, pfor_PutList.l0 kq acc (l1.drop (32 * pl)) = some r) {k' : Nat} {e : Int} (hy : pfor_PutBlock.f k' acc ((l1.drop (32 * pl)).take 32) = some (y, e)) :
  ∃ kq, pfor_PutList.l0 kq y (l1.drop (32 * (pl + 1))) = some r := by
 obtain ⟨kq, h⟩ := h
 cases kq with
 | zero => cases h
 | succ kq =>
  rw [pfor_PutList.l0, if_neg (by rw [List.length_drop]; omega)] at h
  obtain ⟨bt, h1, h2⟩ := Option.bind_eq_some_iff.1 h
  have e1 : bt = (y, e) := by
   have a1 : ∀ n, pfor_PutBlock.f (kq + n) acc ((l1.drop (32 * pl)).take 32) = some bt := by
    intro n
    induction n with
    | zero => exact h1
    | succ n ih => exact pfor_PutBlock.mono _ _ _ _ ih
   have a2 : ∀ n, pfor_PutBlock.f (k' + n) acc ((l1.drop (32 * pl)).take 32) = some (y, e) := by
    intro n
    induction n with
    | zero => exact hy
    | succ n ih => exact pfor_PutBlock.mono _ _ _ _ ih
   have := (a1 k').symm.trans ((Nat.add_comm kq k') ▸ a2 kq)
   exact Option.some.inj this
  subst e1
  refine ⟨kq, ?_⟩
  rw [List.drop_drop] at h2
  exact h2
theorem pfor_PutList.last {l1 acc : List Int} {r : List Int} {pl : Nat} (hl : l1.length ≤ 32 * pl) (h : ∃ kq, pfor_PutList.l0 kq acc (l1.drop (32 * pl)) = some r) : acc = r := by
 obtain ⟨kq, h⟩ := h
 cases kq with
 | zero => cases h
 | succ kq =>
  rw [pfor_PutList.l0, if_pos (by rw [List.length_drop]; omega)] at h
  exact Option.some.inj h
theorem chunk_reads {W : World} {a : Option Addr} {c1 : Nat} {l1 : List Int} (h : Kd.C (Kd.int .u64) W a l1.length l1) (hc : l1.length ≤ c1) (j : Nat) (hj : 32 * j < l1.length) : Kd.C (Kd.int .u64) W (a.map (·.add (32 * j))) ((l1.drop (32 * j)).take 32).length ((l1.drop (32 * j)).take 32) := by
 have h1 := Kd.C_drop (c := c1) h (show 32 * j ≤ l1.length by omega) hc
 rw [if_neg (by omega), show (Kd.int .u64).sz = 1 from rfl, Nat.mul_one] at h1
 by_cases h2 : 32 ≤ (l1.drop (32 * j)).length
 ·exact Kd.C_take h1 h2
 ·rw [List.take_of_length_le (by omega)]
  exact h1
theorem range_snoc {l : List Nat} {x : Nat} (h : l ++ [x] = List.range (l.length + 1)) : l = List.range l.length ∧ x = l.length := by
 rw [List.range_succ] at h
 have := List.append_inj h (by simp)
 exact ⟨this.1, (List.cons.inj this.2).1⟩
set_option maxRecDepth 100000 in
set_option maxHeartbeats 4000000 in
theorem pfor_PutList.calls (k : Nat) (A0 : Option Addr) (c0 : Nat) (l0 : List Int) (A1 : Option Addr) (c1 : Nat) (l1 : List Int) (r : List Int) (w : World) (hr0 : Kd.C (Kd.int .u8) w A0 l0.length l0) (hc0 : l0.length ≤ c0) (hr1 : Kd.C (Kd.int .u64) w A1 l1.length l1) (hc1 : l1.length ≤ c1) (h : pfor_PutList.f k l0 l1 = some r) :
  Calls Try.prog 47 #[.slice A0 l0.length c0, .slice A1 l1.length c1] w fun e w' => ∃ v0_ : Value, e = .returned (v0_) ∧ Kd.R (Kd.int .u8) 5 w' w.heap.size (fun _ => True) v0_ r ∧ Below w.heap.size w w' := by
 by_cases hok : pfor_PutList.Ok l0 l1
 case neg => unfold pfor_PutList.f at h; rw [if_neg hok] at h; cases h
 unfold pfor_PutList.f at h
 rw [if_pos hok] at h
 obtain ⟨t, ht, h⟩ := Option.bind_eq_some_iff.1 h
 by_cases hb8 : (∀ x ∈ t, 0 ≤ x ∧ x ≤ 255) ∧ t.length ≤ l0.length + 1000
 case neg => rw [if_neg hb8] at h; cases h
 rw [if_pos hb8] at h
 have HT := Aside0.mk ht
 have HH := Aside0.mk h
 have HB8 := Aside0.mk hb8
 have HOK := Aside0.mk hok
 have HR0 := Aside0.mk hr0
 have HR1 := Aside0.mk hr1
 have hln : l1.length ≤ 140737488350 := by have := hok.2.1; omega
 have hnone : A1 = none → l1.length = 0 := by
  rintro rfl
  rcases Nat.eq_zero_or_pos l1.length with h_ | h_
  ·exact h_
  ·obtain ⟨ad, e, _⟩ := hr1.2.2 h_
   cases e
 clear ht h hb8 hok hr0 hr1
 refine (callsIn_wide (n := 9)).1 ?_
 refine callsIn_of_wp_marks Try.func47 rfl trivial ?_ rfl
 simp only [Try.ntmps47, List.size_toArray, List.length_cons, List.length_nil, Nat.reduceAdd, Nat.reduceSub, Array.replicate_succ, Array.replicate_zero, List.push_toArray, List.append_toArray, List.nil_append, List.cons_append]
 gi_wp2_with (first | (refine ⟨trivial, ?_⟩; gi_at_call 28; (with_reducible refine (callsIn_wide.2 (num_Put.calls k A0 c0 l0 (l1.length : Int) t w HR0.out hc0 HT.out)).mono ?_); rintro e w1 ⟨v0, rfl, hR, hB⟩; obtain ⟨At, ct, rfl⟩ := Kd.R_slice hR; have HRt := Aside0.mk hR; have HBt := Aside0.mk hB; clear hR hB) | (refine ⟨trivial, ?_⟩; gi_at_call 61; (with_reducible refine (chunk_in _ A1 l1.length c1 _).mono ?_); rintro e w2 ⟨rfl, rfl⟩) | fail)
 obtain ⟨n1, hn1⟩ : ∃ n1 : Nat, Aside0 (n1 = w1.heap.size) := ⟨_, ⟨rfl⟩⟩
 have hsz : w.heap.size ≤ n1 := by rw [hn1.out]; exact HBt.out.size
 obtain ⟨W0, hW0⟩ : ∃ W0, Aside0 (W0 = ((w1.alloc (Obj.cells #[Value.slice At t.length ct] 22)).alloc (Obj.cells #[Value.slice A1 l1.length c1] 49)).alloc (Obj.cells #[Value.int IntKind.i64 32] 3)) := ⟨_, ⟨rfl⟩⟩
 have hW0s : W0.heap.size = n1 + 3 := by rw [hW0.out, hn1.out]; simp
 have hBel : Below w.heap.size w W0 := by rw [hW0.out]; exact pbA_ (pbA_ (pbA_ HBt.out _) _) _
 have hb0 : Boxed W0 n1 22 (.slice At t.length ct) := by rw [hW0.out, hn1.out]; exact ((Boxed.new w1 22 _).alloc _).alloc _
 have hR0 : Kd.R (Kd.int .u8) 5 W0 w.heap.size (fun _ => True) (.slice At t.length ct) t := by rw [hW0.out]; exact Kd.rA_ (Kd.rA_ (Kd.rA_ HRt.out _) _) _
 have hc1' : W0.cell? ⟨n1 + 1, 0, none⟩ = some (.slice A1 l1.length c1) := by
  have h_ := ((Boxed.new (w1.alloc (Obj.cells #[Value.slice At t.length ct] 22)) 49 (.slice A1 l1.length c1)).alloc (Obj.cells #[Value.int IntKind.i64 32] 3)).cell
  rw [World.size_alloc] at h_
  rw [hW0.out, hn1.out]
  exact h_
 have hc2' : W0.cell? ⟨n1 + 2, 0, none⟩ = some (.int .i64 32) := by
  have h_ := (Boxed.new ((w1.alloc (Obj.cells #[Value.slice At t.length ct] 22)).alloc (Obj.cells #[Value.slice A1 l1.length c1] 49)) 3 (.int .i64 32)).cell
  rw [World.size_alloc, World.size_alloc] at h_
  rw [hW0.out, hn1.out]
  exact h_
 rw [← hW0.out, ← hn1.out]
 refine wpIn_rangeFunc_ownF (F := Fence.wide) rfl (by decide) (gf := 68) (lb := #[.pointer (some ⟨n1 + 1, 0, none⟩), .pointer (some ⟨n1 + 2, 0, none⟩)]) rfl trivial (enters_of Try.func68 (by kernel_rfl) rfl)
  (chunk_stops (n1 + 1) (n1 + 2) w.heap.size A1 l1.length c1 hnone hc1 (by omega) W0 (by omega) (by omega) hc1' hc2') (fun h k => KpC.trans h k) (kpC_b (by omega) (by omega) (by omega)) (Below.refl _ _) (fun _ => rfl)
  (pfor_PutList.Held w l0 l1 k r n1) (fun _ _ _ => False) (pfor_PutList.held_own w l0 l1 k r n1 W0.heap.size (by omega)) (fun _ _ _ _ _ hs _ _ => hs)
  ⟨⟨t, _, ⟨HB8.out.1, by have := HB8.out.2; simp; omega, fun _ => ⟨k, HH.out⟩⟩, hb0, hR0, by omega⟩, hBel⟩
  (fun x => { tmps := #[Value.slice A0 l0.length c0, Value.slice A1 l1.length c1, undef, undef, Value.slice none 0 0,
     Value.pointer (some { block := n1, off := 0 }), .slice (A1.map (·.add (32 * x.1))) (min 32 (l1.length - 32 * x.1)) (min 32 (l1.length - 32 * x.1)), Value.slice A0 l0.length c0,
     Value.slice A1 l1.length c1, Value.int IntKind.i64 ↑l1.length, Value.int IntKind.u64 ↑l1.length,
     Value.slice At t.length ct, Value.slice A1 l1.length c1,
     Value.func (Fn.func 68) #[] #[Value.pointer (some { block := n1 + 1, off := 0 }), Value.pointer (some { block := n1 + 2, off := 0 })],
     .slice (A1.map (·.add (32 * x.1))) (min 32 (l1.length - 32 * x.1)) (min 32 (l1.length - 32 * x.1)), undef, undef, undef, undef, undef, undef, undef], defers := [] }) ?assign ?body ?done ?stop
 case assign =>
  intro l x W K hK
  dsimp only [encChunk]
  gi_wp2
  exact hK
 case stop =>
  intro D c pre W _ _ h _
  exact h.elim
 case body =>
  rintro l pre x W ⟨⟨acc, v, hp, hv, hR, hz⟩, hB⟩ hlen
  obtain ⟨A, c, rfl⟩ := Kd.R_slice hR
  obtain ⟨-, hcap, hC⟩ := Kd.R_reads' hR
  obtain ⟨k', y, hy, hy8, hyl⟩ := HOK.out.2.2 acc hp.out.1 (by have := hp.out.2.1; omega) x.1 x.2
  have hch := chunk_reads (Kd.C_below HR1.out hB) hc1 x.1 x.2
  have hcl : ((l1.drop (32 * x.1)).take 32).length = min 32 (l1.length - 32 * x.1) := by simp
  have hcall := pfor_PutBlock.calls k' A c acc (A1.map (·.add (32 * x.1))) ((l1.drop (32 * x.1)).take 32).length ((l1.drop (32 * x.1)).take 32) y.1 y.2 W hC hcap hch (Nat.le_refl _) hy
  rw [hcl] at hcall
  have HCl := Aside0.mk hcl
  have HY := Aside0.mk hy
  have HC_ := Aside0.mk hC
  have HCh := Aside0.mk hch
  have HRa := Aside0.mk hR
  have HBa := Aside0.mk hB
  have HCall := Aside0.mk hcall
  clear hcl hy hC hch hR hB hcall
  have hcv := hv.cell
  gi_wp2_with (first | (refine ⟨trivial, ?_⟩; gi_at_call 62; (with_reducible refine (CallsIn.inRound l (callsIn_wide.2 HCall.out)).mono ?_); rintro e w2 ⟨v2, rfl, hR2, hB2⟩; obtain ⟨A2, c2, rfl⟩ := Kd.R_slice hR2; have hv2 : Boxed w2 n1 22 (.slice A acc.length c) := (hB2.block n1 hv.lt).trans hv; have hcv2 := hv2.cell; have hfv2 := hv2.frozen; have HR2 := Aside0.mk hR2; have HB2 := Aside0.mk hB2; clear hR2 hB2) | fail)
  have hs1 := HBa.out.size
  have hbl : Below w.heap.size W w2 := HB2.out.mono hs1
  have hown := Kd.own_of_R (Kd.R_lower HR2.out hs1)
  refine ⟨(keeps_below HB2.out).trans (KeepsOthers.setCell _ _ _), ⟨hbl.setCell (p := ⟨n1, 0, none⟩) hsz _, ?_, ?_⟩, ⟨y.1, _, ⟨hy8, ?_, ?_⟩, hv2.set _, Kd.R_of_own (hown.kept (grownBy_setCell' w2 n1 _) (.inr (hv2.not_row (by decide) hown).symm)) (fun _ _ => trivial), ?_⟩, (HBa.out.trans hbl).setCell (p := ⟨n1, 0, none⟩) hsz _⟩
  ·exact (Below.heap_setCell _ _ _ _ (by simp)).trans (HB2.out.block _ (by omega))
  ·exact (Below.heap_setCell _ _ _ _ (by simp)).trans (HB2.out.block _ (by omega))
  ·have := hp.out.2.1
   rw [List.length_append, List.length_singleton]
   omega
  ·intro he
   rw [List.map_append, List.length_append, List.length_singleton, List.map_cons, List.map_nil] at he
   have h3 := range_snoc (l := pre.map (·.1)) (by rw [List.length_map]; exact he)
   rw [List.length_map] at h3
   rw [List.length_append, List.length_singleton]
   have hx := x.2
   refine pfor_PutList.step (by have := h3.2; omega) (hp.out.2.2 h3.1) (k' := k') (e := y.2) ?_
   rw [← h3.2]
   exact HY.out
  ·have := HB2.out.size
   simp
   omega
 case done =>
  rintro D ys W hD hS ⟨⟨acc, v, hp, hv, hR, hz⟩, hB⟩ hK
  have hyl : ys.length = (l1.length + 31) / 32 := by have := congrArg List.length hS; simpa using this
  have hacc := pfor_PutList.last (by omega) (hp.out.2.2 (by rw [hyl]; exact hS))
  subst hacc
  obtain ⟨A, c, rfl⟩ := Kd.R_slice hR
  have hcv := hv.cell
  have HRa := Aside0.mk hR
  have HBa := Aside0.mk hB
  clear hR hB
  gi_wp2
  refine ⟨by simp, .inl ⟨_, _, rfl, run_takeDeferred hK, ?_⟩⟩
  refine ⟨_, results_tmp rfl _ _ _, _, rfl, ?_, ?_⟩
  ·exact Kd.R_of_own (ownsRow_putObj (Kd.own_of_R HRa.out) _ hK rfl) (fun _ _ => trivial)
  ·exact HBa.out.trans (belowK_b (w := w) (Nat.le_refl _) W D _ _ (by omega) hK rfl rfl)
end
end Go.Proofs.Ytcjkmmajokkkfaa.P
end
section
namespace Go.Proofs.Ytcjkmmajokkkfaa.P
open Go.RowKit Go.Proofs.YtcjkmmajokkkfaaW.PrintWords Go.Proofs.YtcjkmmajokkkfaaW.PrintLast Go.Proofs.YtcjkmmajokkkfaaW.PrintMore
attribute [local go_sem] max2_int min2_int max_two min_two max_three min_three max_four min_four
set_option linter.unusedVariables false
set_option linter.unusedSimpArgs false
noncomputable def pfor_PutInts.l0 : Nat → List Int → List Int → List Int → Int → Int → Option (List Int)
 | 0, _, _, _, _, _ => none
 | k + 1, x0, x5, x11, x12, x13 => if x13 < x12 then (if 0 ≤ x13 then (if x13 < (x11.length : Int) then ((num_Fold.f (rd x11 x13)).bind fun t201 => (if x13 < (x5.length : Int) then (pfor_PutInts.l0 k x0 (x5.set (x13 : Int).toNat t201) x11 x12 (wrap64 (x13 + 1))) else (none))) else (none)) else (none)) else ((pfor_PutList.f k x0 x5).bind fun t203 => (some t203))
noncomputable def pfor_PutInts.f (k : Nat) (l0 : List Int) (l1 : List Int) : Option (List Int) := if 0 ≤ (l1.length : Int) then (if ((l1.length : Int) : Int).toNat ≤ 35184372088832 then (pfor_PutInts.l0 k l0 (List.replicate ((l1.length : Int) : Int).toNat 0) l1 (l1.length : Int) 0) else (none)) else (none)
theorem pfor_PutInts.mono_l : ∀ k, (∀ y0 y1 y2 y3 y4, LeO (pfor_PutInts.l0 k y0 y1 y2 y3 y4) (pfor_PutInts.l0 (k + 1) y0 y1 y2 y3 y4))
 | 0 => fun _ _ _ _ _ r h => by simp [pfor_PutInts.l0] at h
 | k + 1 => by
  have ih0 := pfor_PutInts.mono_l k
  ·intro y0 y1 y2 y3 y4
   unfold pfor_PutInts.l0
   repeat' first
   | (with_reducible exact ih0 _ _ _ _ _)
   | (with_reducible exact pfor_PutList.mono _ _ _)
   | (with_reducible exact LeO.refl _)
   | (with_reducible exact LeO.none _)
   | (with_reducible refine LeO.ite ?_ ?_)
   | (with_reducible refine LeO.bind ?_ (fun _ => ?_))
   | exact ih0 _ _ _ _ _
   | exact pfor_PutList.mono _ _ _
   | exact LeO.none _
   | refine LeO.ite ?_ ?_
   | refine LeO.bind ?_ (fun _ => ?_)
theorem pfor_PutInts.mono : ∀ a0 a1 k, LeO (pfor_PutInts.f k a0 a1) (pfor_PutInts.f (k + 1) a0 a1) := by
 intro a0 a1 k
 have ih0 := pfor_PutInts.mono_l k
 unfold pfor_PutInts.f
 repeat' first
   | (with_reducible exact ih0 _ _ _ _ _)
   | (with_reducible exact pfor_PutList.mono _ _ _)
   | (with_reducible exact LeO.refl _)
   | (with_reducible exact LeO.none _)
   | (with_reducible refine LeO.ite ?_ ?_)
   | (with_reducible refine LeO.bind ?_ (fun _ => ?_))
   | exact ih0 _ _ _ _ _
   | exact pfor_PutList.mono _ _ _
   | exact LeO.none _
   | refine LeO.ite ?_ ?_
   | refine LeO.bind ?_ (fun _ => ?_)
set_option maxHeartbeats 8000000 in
set_option maxRecDepth 100000 in
theorem pfor_PutInts.calls (k : Nat) (A0 : Option Addr) (c0 : Nat) (l0 : List Int) (A1 : Option Addr) (c1 : Nat) (l1 : List Int) (r : List Int) (w : World) (hr0 : Kd.C (Kd.int .u8) w A0 l0.length l0) (hc0 : l0.length ≤ c0) (hr1 : Kd.C (Kd.int .i64) w A1 l1.length l1) (hc1 : l1.length ≤ c1) (h : pfor_PutInts.f k l0 l1 = some r) :
  Calls Try.prog 27 #[.slice A0 l0.length c0, .slice A1 l1.length c1] w fun e w' => ∃ v0_ : Value, e = .returned (v0_) ∧ Kd.R (Kd.int .u8) 5 w' w.heap.size (fun _ => True) v0_ r ∧ Below w.heap.size w w' := by
 have HR0 := Aside0.mk hr0
 have HC0 := Aside0.mk hc0
 clear hr0 hc0
 have HR1 := Aside0.mk hr1
 have HC1 := Aside0.mk hc1
 clear hr1 hc1
 have HB := Aside0.mk (Below.refl w.heap.size w)
 have H : (if 0 ≤ (l1.length : Int) then (if ((l1.length : Int) : Int).toNat ≤ 35184372088832 then (pfor_PutInts.l0 k l0 (List.replicate ((l1.length : Int) : Int).toNat 0) l1 (l1.length : Int) 0) else (none)) else (none)) = some r := h
 clear h
 by_cases c3 : 0 ≤ (l1.length : Int)
 ·rw [if_pos c3] at H
  have c3b0 := eq_true c3
  have c3b1 : decide (0 ≤ (l1.length : Int)) = true := decide_eq_true c3
  clear c3
  by_cases c4 : ((l1.length : Int) : Int).toNat ≤ 35184372088832
  ·rw [if_pos c4] at H
   have c4b0 := eq_true c4
   have c4b1 : decide (((l1.length : Int) : Int).toNat ≤ 35184372088832) = true := decide_eq_true c4
   clear c4
   obtain ⟨y197, hy197⟩ : ∃ y_ : List Int, y_ = (List.replicate ((l1.length : Int) : Int).toNat 0) := ⟨_, rfl⟩
   replace H : (pfor_PutInts.l0 k l0 y197 l1 (l1.length : Int) 0) = some r := by first | (rw [hy197]; with_reducible exact H) | (have H2_ := (Option.bind_some _ _).symm.trans H; rw [hy197]; with_reducible exact H2_) | (have H2_ := (Option.bind_some _ _).symm.trans H; with_reducible exact H2_) | with_reducible exact H | (rw [hy197]; exact H) | exact H
   have Ny197 := Aside0.mk hy197
   clear hy197
   have H' := Aside0.mk H
   clear H
   go_enter Try.func27, Try.ntmps27
   go_wp2_with (first | ((with_reducible refine gate_dst (N := 10) rfl ?_); refine Kd.R_make (Kd.int .u64) _ 50 rfl (N := 10) rfl 49 _ _ rfl (l1.length : Int) rfl rfl Try.underlying49 (.int .u64 0) 8 info50 rfl (by decide) (by omega) 0 (ok := fun _ => True) (okp := fun _ => True) rfl (fun _ hk => hk) trivial (of_decide_eq_true (by first | (with_reducible assumption) | assumption)) (Nat.le_trans (Nat.mul_le_mul_right _ (of_decide_eq_true (by first | (with_reducible assumption) | assumption) : (l1.length : Int).toNat ≤ 35184372088832)) (by omega)) (Below.refl _ _) (Nat.le_refl _) ?_; intro v198 w5 ho6 hb hg_ hnew_; clear hg_ hnew_; (first | rw [← Ny197.out] at ho6 | (simp only [Int.reduceToNat] at ho6; rw [← Ny197.out] at ho6)); have n0_ := Aside0.mk (Kd.R_lower ho6 (pbS_ (by repeat (first | (with_reducible first | exact HB.out | apply pbA_ | apply pbN_ | apply pb1_) | exact HB.out)))); have n1_ := Aside0.mk (below_step (by repeat (first | (with_reducible first | exact HB.out | apply pbA_ | apply pbN_ | apply pb1_) | exact HB.out)) hb); clear HB; have HO199 := n0_; have HB := n1_; clear n0_ n1_; clear hb ho6))
   go_loopg [13] k (fun kq v13 w' => ∃ (x5_1 : List Int) (x13_1 : Int), v13 = .int .i64 x13_1 ∧ Aside0 (pfor_PutInts.l0 kq l0 x5_1 l1 (l1.length : Int) x13_1 = some r) ∧ Aside0 (kq ≤ k) ∧ Aside0 (Kd.R (Kd.int .u64) 50 w' w.heap.size (fun _ => True) v198 x5_1) ∧ Aside0 (Below w.heap.size w w'))
   case atStart => exact ⟨(y197), (0), (by first | rfl | (simp; done) | (simp [*]; done)), H', ⟨Nat.le_refl _⟩, ⟨by (with_reducible repeat (first | apply Kd.rA_ | apply Kd.rN_ | apply Kd.rD_)); exact HO199.out⟩, ⟨by repeat (first | (with_reducible first | exact HB.out | apply pbA_ | apply pbN_ | apply pb1_) | exact HB.out)⟩⟩
   case round =>
    clear H'
    try clear c1
    try clear c2
    try clear p2
    try clear c3
    try clear c3b0
    try clear c3b1
    try clear c4
    try clear c4b0
    try clear c4b1
    obtain ⟨x5_1, x13_1, rfl, HA, HK1, HO_5, HB⟩ := hrel
    cases gk with
    | zero => exact absurd HA.out (by simp [pfor_PutInts.l0])
    | succ k1 =>
     have H := HA.out
     clear HA
     simp only [pfor_PutInts.l0] at H
     by_cases c7 : x13_1 < (l1.length : Int)
     ·rw [if_pos c7] at H
      have c7b0 : decide (x13_1 < (l1.length : Int)) = true := decide_eq_true c7
      clear c7
      by_cases c8 : 0 ≤ x13_1
      ·rw [if_pos c8] at H
       have c8b0 : decide (0 ≤ x13_1) = true := decide_eq_true c8
       clear c8
       by_cases c9 : x13_1 < (l1.length : Int)
       ·rw [if_pos c9] at H
        have c9b0 : decide (x13_1 < (l1.length : Int)) = true := decide_eq_true c9
        clear c9
        replace H := Option.bind_eq_some_iff.mp H
        obtain ⟨t201, A100, H⟩ := H
        replace H : (if x13_1 < (x5_1.length : Int) then (pfor_PutInts.l0 k1 l0 (x5_1.set (x13_1 : Int).toNat t201) l1 (l1.length : Int) (wrap64 (x13_1 + 1))) else (none)) = some r := H
        have A10 := Aside0.mk A100
        clear A100
        by_cases c11 : x13_1 < (x5_1.length : Int)
        ·rw [if_pos c11] at H
         have c11b0 : decide (x13_1 < (x5_1.length : Int)) = true := decide_eq_true c11
         clear c11
         obtain ⟨y202, hy202⟩ : ∃ y_ : List Int, y_ = (x5_1.set (x13_1 : Int).toNat t201) := ⟨_, rfl⟩
         replace H : (pfor_PutInts.l0 k1 l0 y202 l1 (l1.length : Int) (wrap64 (x13_1 + 1))) = some r := by first | (rw [hy202]; with_reducible exact H) | (have H2_ := (Option.bind_some _ _).symm.trans H; rw [hy202]; with_reducible exact H2_) | (have H2_ := (Option.bind_some _ _).symm.trans H; with_reducible exact H2_) | with_reducible exact H | (rw [hy202]; exact H) | exact H
         have Ny202 := Aside0.mk hy202
         clear hy202
         have H' := Aside0.mk H
         clear H
         have p200 : 0 ≤ (x13_1 : Int) := of_decide_eq_true (by first | (with_reducible assumption) | assumption)
         have q200 : x13_1 < (l1.length : Int) := of_decide_eq_true (by first | (with_reducible assumption) | assumption)
         obtain ⟨ad200, e200, hx200_0⟩ := Kd.at_int HR1.out x13_1 p200 q200
         cases e200
         replace hx200_0 := (HB.out.cell (World.block_lt_of_cell? w _ hx200_0)).trans hx200_0
         replace p200 := eq_true p200
         replace q200 := eq_true q200
         go_wp2_with (first | ((with_reducible refine gaC_ (f := 46) rfl ?_); refine goesL_ (some 21) rfl rfl Try.func46 (by kernel_rfl) rfl #[.int .i64 (rd l1 x13_1)] rfl (by (try simp only [List.map_toArray, List.map_cons, List.map_nil]); first | done | rfl | (simp only [List.length_drop, List.length_take]; rfl)) ?_; (with_reducible refine (num_Fold.calls (rd l1 x13_1) t201 _ A10.out).mono ?_); rintro e w' ⟨rfl, ⟨nd, rfl⟩⟩; refine ⟨_, rfl, ?_⟩; (try (rw [drewN_self wr]; generalize hq_ : World.drewN wr _ = wr; have n0_ : Aside0 (Kd.R (Kd.int .u64) 50 wr w.heap.size (fun _ => True) v198 x5_1) := ⟨by rw [← hq_]; exact (by (with_reducible repeat (first | apply Kd.rA_ | apply Kd.rN_ | apply Kd.rD_)); exact HO_5.out)⟩; have n1_ : Aside0 (Below w.heap.size w wr) := ⟨by rw [← hq_]; exact (by repeat (first | (with_reducible first | exact HB.out | apply pbA_ | apply pbN_ | apply pb1_) | exact HB.out))⟩; clear HO_5 HB hq_; have HO_5 := n0_; have HB := n1_; clear n0_ n1_)); have p12 : 0 ≤ (x13_1 : Int) := of_decide_eq_true (by first | (with_reducible assumption) | assumption); have q12 : (x13_1 : Int) < ((x5_1.length : Int) : Int) := of_decide_eq_true (by first | (with_reducible assumption) | assumption); obtain ⟨go12, co12, eo12, gb12, gl12, cl12, HG12⟩ := Kd.R_form HO_5.out (by omega); (first | cases eo12 | (injection eo12 with ea_ en_ ec_; (first | subst ea_ | (injection ea_ with ea_; subst ea_)); subst ec_; clear en_)); have GB12 := Aside0.mk gb12; have GG12 := Aside0.mk HG12; clear gb12 gl12 HG12; obtain ⟨hx12_0, hf12_0⟩ := Kd.R_celln 0 HO_5.out (x13_1 : Int) p12 q12; replace p12 := eq_true p12; replace q12 := eq_true q12; obtain ⟨hy13_, hz13_⟩ := Kd.R_celln 0 HO_5.out (x13_1 : Int) (of_decide_eq_true (by first | (with_reducible assumption) | assumption)) (of_decide_eq_true (by first | (with_reducible assumption) | assumption)); have HP13 := Kd.R_putg HO_5.out (x13_1 : Int) t201) | ((with_reducible refine gate_store (t := 50) (p := 22) rfl ?_); refine store_event (t := 50) (p := 22) (v := ?vo_w14) (w1 := (wr.setCell ⟨go12, (x13_1 : Int).toNat, none⟩ (.int .u64 t201))) ?hg ?ho ?hn ?hr ?_; (case ho => rfl); (case hg => rfl); (case hn => rfl); (case hr => first | (go_simp; done) | (go_simp; rfl)); intro w14 hw; have hg : wr.grownBy w14 (some go12) := (by rw [hw]; exact HP13.2); have hp_ : Kd.R (Kd.int .u64) 50 w14 w.heap.size (fun _ => True) (.slice (some ⟨go12, 0, none⟩) x5_1.length co12) y202 := (by rw [hw, Ny202.out]; exact HP13.1); clear HP13; have n0_ := Aside0.mk (hp_); have n1_ := Aside0.mk ((by rw [hw]; exact below_set (HB.out) GB12.out : Below w.heap.size w w14)); clear HO_5; clear HB; have HO_5 := n0_; have HB := n1_; clear n0_ n1_; clear hg hw hp_))
         go_roundg k1
         case measure => have := HK1.out; omega
         case rel => exact ⟨(y202), (wrap64 (x13_1 + 1)), (by first | rfl | (simp; done) | (simp [*]; done)), H', ⟨by have := HK1.out; omega⟩, ⟨by (with_reducible repeat (first | apply Kd.rA_ | apply Kd.rN_ | apply Kd.rD_)); exact HO_5.out⟩, ⟨by repeat (first | (with_reducible first | exact HB.out | apply pbA_ | apply pbN_ | apply pb1_) | exact HB.out)⟩⟩
        ·rw [if_neg c11] at H
         exact absurd H (by simp)
       ·rw [if_neg c9] at H
        exact absurd H (by simp)
      ·rw [if_neg c8] at H
       exact absurd H (by simp)
     ·rw [if_neg c7] at H
      have c7b0 : decide (x13_1 < (l1.length : Int)) = false := decide_eq_false c7
      clear c7
      replace H := Option.bind_eq_some_iff.mp H
      obtain ⟨t203, A150, H⟩ := H
      replace H : (some t203) = some r := H
      have A15 := Aside0.mk A150
      clear A150
      obtain rfl := Option.some.inj H
      obtain ⟨Ao16, co16, eo16⟩ := Kd.R_slice HO_5.out
      subst eo16
      go_wp2_with (first | ((with_reducible refine gaC_ (f := 47) rfl ?_); refine goesL_ (some 26) rfl rfl Try.func47 (by kernel_rfl) rfl #[.slice A0 l0.length c0, .slice Ao16 x5_1.length co16] rfl (by (try simp only [List.map_toArray, List.map_cons, List.map_nil]); first | done | rfl | (simp only [List.length_drop, List.length_take]; rfl)) ?_; (with_reducible refine (pfor_PutList.calls k1 _ _ l0 _ _ x5_1 t203 _ ?side1 ?side2 ?side3 ?side4 A15.out).mono ?_); (case side1 => repeat (first | exact (Kd.C_below HR0.out HB.out) | (with_reducible refine Kd.cA_ ?_ _) | (with_reducible refine Kd.cN_ ?_ _) | (with_reducible refine Kd.cD_ ?_))); (case side2 => exact HC0.out); (case side3 => repeat (first | exact (Kd.R_reads' HO_5.out).2.2 | (with_reducible refine Kd.cA_ ?_ _) | (with_reducible refine Kd.cN_ ?_ _) | (with_reducible refine Kd.cD_ ?_))); (case side4 => exact (Kd.R_reads' HO_5.out).2.1); rintro e w17 ⟨v204, rfl, ho0, hb⟩; refine ⟨_, rfl, ?_⟩; have n0_ := Aside0.mk (Kd.R_below (by (with_reducible repeat (first | apply Kd.rA_ | apply Kd.rN_ | apply Kd.rD_)); exact HO_5.out) hb); have n1_ := Aside0.mk (Kd.R_lower ho0 (pbS_ (by repeat (first | (with_reducible first | exact HB.out | apply pbA_ | apply pbN_ | apply pb1_) | exact HB.out)))); have n2_ := Aside0.mk (below_step (by repeat (first | (with_reducible first | exact HB.out | apply pbA_ | apply pbN_ | apply pb1_) | exact HB.out)) hb); clear HO_5; clear HB; have HO_5 := n0_; have HO205 := n1_; have HB := n2_; clear n0_ n1_ n2_; (try clear hb); (try clear hb2); (try clear hk); (try clear hi); (try clear ho0)))
      go_ret
      exact ⟨_, by first | rfl | (simp [eWn_, eWs_] <;> rfl) | (simp [*, eWn_, eWs_] <;> rfl), by (with_reducible repeat (first | apply Kd.rA_ | apply Kd.rN_ | apply Kd.rD_)); exact HO205.out, by repeat (first | (with_reducible first | exact HB.out | apply pbA_ | apply pbN_ | apply pb1_) | exact HB.out)⟩
  ·rw [if_neg c4] at H
   exact absurd H (by simp)
 ·rw [if_neg c3] at H
  exact absurd H (by simp)
noncomputable def ints_Put.l0 : Nat → List Int → List (S42) → List Int → List Int → List (S42) → Int → Int → Option (List Int × Int)
 | 0, _, _, _, _, _, _, _ => none
 | k + 1, x0, x1, x6, x7, x18, x19, x20 => if x20 < x19 then (if 0 ≤ x20 then (if x20 < (x18.length : Int) then (if (rd_T42 x18 x20).f0 = true then (if x20 < (x6.length : Int) then (if x7.length < 17592186044416 then (ints_Put.l0 k x0 x1 (x6.set (x20 : Int).toNat 1) (x7 ++ [(rd_T42 x18 x20).f1]) x18 x19 (wrap64 (x20 + 1))) else (none)) else (none)) else (ints_Put.l0 k x0 x1 x6 x7 x18 x19 (wrap64 (x20 + 1)))) else (none)) else (none)) else ((bits_Pack.f k x6 1).bind fun bt216 => (if bt216.2 = 0 then ((num_Put.f k x0 (IntKind.u64.wrap ((x1.length : Int)))).bind fun t220 => (if t220.length + bt216.1.length < 140737488355328 then ((pfor_PutInts.f k (t220 ++ bt216.1) x7).bind fun t226 => (some (t226, 0))) else (none))) else (some (([] : List Int), bt216.2))))
noncomputable def ints_Put.f (k : Nat) (l0 : List Int) (l1 : List (S42)) : Option (List Int × Int) := (ints_Formed.f k l1).bind fun t206 => (if t206 = true then (if 0 ≤ (l1.length : Int) then (if ((l1.length : Int) : Int).toNat ≤ 35184372088832 then (ints_Put.l0 k l0 l1 (List.replicate ((l1.length : Int) : Int).toNat 0) ([] : List Int) l1 (l1.length : Int) 0) else (none)) else (none)) else (some (([] : List Int), 1)))
theorem ints_Put.mono_l : ∀ k, (∀ y0 y1 y2 y3 y4 y5 y6, LeO (ints_Put.l0 k y0 y1 y2 y3 y4 y5 y6) (ints_Put.l0 (k + 1) y0 y1 y2 y3 y4 y5 y6))
 | 0 => fun _ _ _ _ _ _ _ r h => by simp [ints_Put.l0] at h
 | k + 1 => by
  have ih0 := ints_Put.mono_l k
  ·intro y0 y1 y2 y3 y4 y5 y6
   unfold ints_Put.l0
   repeat' first
   | (with_reducible exact ih0 _ _ _ _ _ _ _)
   | (with_reducible exact bits_Pack.mono _ _ _)
   | (with_reducible exact ints_Formed.mono _ _)
   | (with_reducible exact num_Put.mono _ _ _)
   | (with_reducible exact pfor_PutInts.mono _ _ _)
   | (with_reducible exact LeO.refl _)
   | (with_reducible exact LeO.none _)
   | (with_reducible refine LeO.ite ?_ ?_)
   | (with_reducible refine LeO.bind ?_ (fun _ => ?_))
   | exact ih0 _ _ _ _ _ _ _
   | exact bits_Pack.mono _ _ _
   | exact ints_Formed.mono _ _
   | exact num_Put.mono _ _ _
   | exact pfor_PutInts.mono _ _ _
   | exact LeO.none _
   | refine LeO.ite ?_ ?_
   | refine LeO.bind ?_ (fun _ => ?_)
theorem ints_Put.mono : ∀ a0 a1 k, LeO (ints_Put.f k a0 a1) (ints_Put.f (k + 1) a0 a1) := by
 intro a0 a1 k
 have ih0 := ints_Put.mono_l k
 unfold ints_Put.f
 repeat' first
   | (with_reducible exact ih0 _ _ _ _ _ _ _)
   | (with_reducible exact bits_Pack.mono _ _ _)
   | (with_reducible exact ints_Formed.mono _ _)
   | (with_reducible exact num_Put.mono _ _ _)
   | (with_reducible exact pfor_PutInts.mono _ _ _)
   | (with_reducible exact LeO.refl _)
   | (with_reducible exact LeO.none _)
   | (with_reducible refine LeO.ite ?_ ?_)
   | (with_reducible refine LeO.bind ?_ (fun _ => ?_))
   | exact ih0 _ _ _ _ _ _ _
   | exact bits_Pack.mono _ _ _
   | exact ints_Formed.mono _ _
   | exact num_Put.mono _ _ _
   | exact pfor_PutInts.mono _ _ _
   | exact LeO.none _
   | refine LeO.ite ?_ ?_
   | refine LeO.bind ?_ (fun _ => ?_)
set_option maxHeartbeats 8000000 in
set_option maxRecDepth 100000 in
theorem ints_Put.calls (k : Nat) (A0 : Option Addr) (c0 : Nat) (l0 : List Int) (A1 : Option Addr) (c1 : Nat) (l1 : List (S42)) (r1 : List Int) (r2 : Int) (w : World) (hr0 : Kd.C (Kd.int .u8) w A0 l0.length l0) (hc0 : l0.length ≤ c0) (hr1 : Kd.C k42 w A1 l1.length l1) (hc1 : l1.length ≤ c1) (h : ints_Put.f k l0 l1 = some (r1, r2)) :
  Calls Try.prog 12 #[.slice A0 l0.length c0, .slice A1 l1.length c1] w fun e w' => ∃ v0_ : Value, e = .returned (.tuple #[v0_, .int .i64 r2]) ∧ Kd.R (Kd.int .u8) 5 w' w.heap.size (fun _ => True) v0_ r1 ∧ Below w.heap.size w w' := by
 have hu42 := Try.underlying42
 have HR0 := Aside0.mk hr0
 have HC0 := Aside0.mk hc0
 clear hr0 hc0
 have HR1 := Aside0.mk hr1
 have HC1 := Aside0.mk hc1
 clear hr1 hc1
 have HB := Aside0.mk (Below.refl w.heap.size w)
 have H : ((ints_Formed.f k l1).bind fun t206 => (if t206 = true then (if 0 ≤ (l1.length : Int) then (if ((l1.length : Int) : Int).toNat ≤ 35184372088832 then (ints_Put.l0 k l0 l1 (List.replicate ((l1.length : Int) : Int).toNat 0) ([] : List Int) l1 (l1.length : Int) 0) else (none)) else (none)) else (some (([] : List Int), 1)))) = some (r1, r2) := h
 clear h
 replace H := Option.bind_eq_some_iff.mp H
 obtain ⟨t206, A30, H⟩ := H
 replace H : (if t206 = true then (if 0 ≤ (l1.length : Int) then (if ((l1.length : Int) : Int).toNat ≤ 35184372088832 then (ints_Put.l0 k l0 l1 (List.replicate ((l1.length : Int) : Int).toNat 0) ([] : List Int) l1 (l1.length : Int) 0) else (none)) else (none)) else (some (([] : List Int), 1))) = some (r1, r2) := H
 have A3 := Aside0.mk A30
 clear A30
 by_cases c4 : t206 = true
 ·subst c4
  have H1 : (if 0 ≤ (l1.length : Int) then (if ((l1.length : Int) : Int).toNat ≤ 35184372088832 then (ints_Put.l0 k l0 l1 (List.replicate ((l1.length : Int) : Int).toNat 0) ([] : List Int) l1 (l1.length : Int) 0) else (none)) else (none)) = some (r1, r2) := by rw [if_pos rfl] at H; exact H
  clear H
  have H := H1
  clear H1
  by_cases c5 : 0 ≤ (l1.length : Int)
  ·rw [if_pos c5] at H
   have c5b0 := eq_true c5
   have c5b1 : decide (0 ≤ (l1.length : Int)) = true := decide_eq_true c5
   clear c5
   by_cases c6 : ((l1.length : Int) : Int).toNat ≤ 35184372088832
   ·rw [if_pos c6] at H
    have c6b0 := eq_true c6
    have c6b1 : decide (((l1.length : Int) : Int).toNat ≤ 35184372088832) = true := decide_eq_true c6
    clear c6
    obtain ⟨y207, hy207⟩ : ∃ y_ : List Int, y_ = (List.replicate ((l1.length : Int) : Int).toNat 0) := ⟨_, rfl⟩
    replace H : (ints_Put.l0 k l0 l1 y207 ([] : List Int) l1 (l1.length : Int) 0) = some (r1, r2) := by first | (rw [hy207]; with_reducible exact H) | (have H2_ := (Option.bind_some _ _).symm.trans H; rw [hy207]; with_reducible exact H2_) | (have H2_ := (Option.bind_some _ _).symm.trans H; with_reducible exact H2_) | with_reducible exact H | (rw [hy207]; exact H) | exact H
    have Ny207 := Aside0.mk hy207
    clear hy207
    have H' := Aside0.mk H
    clear H
    go_enter Try.func12, Try.ntmps12
    go_wp2_with (first | ((with_reducible refine gaC_ (f := 15) rfl ?_); refine goesL_ (some 13) rfl rfl Try.func15 (by kernel_rfl) rfl #[.slice A1 l1.length c1] rfl (by (try simp only [List.map_toArray, List.map_cons, List.map_nil]); first | done | rfl | (simp only [List.length_drop, List.length_take]; rfl)) ?_; (with_reducible refine (ints_Formed.calls k _ _ l1 true _ ?side1 ?side2 A3.out).mono ?_); (case side1 => repeat (first | exact HR1.out | (with_reducible refine Kd.cA_ ?_ _) | (with_reducible refine Kd.cN_ ?_ _) | (with_reducible refine Kd.cD_ ?_))); (case side2 => exact HC1.out); rintro e w7 ⟨rfl, hb⟩; refine ⟨_, rfl, ?_⟩; have n0_ := Aside0.mk (below_step (by repeat (first | (with_reducible first | exact HB.out | apply pbA_ | apply pbN_ | apply pb1_) | exact HB.out)) hb); clear HB; have HB := n0_; clear n0_; (try clear hb); (try clear hb2); (try clear hk); (try clear hi)) | ((with_reducible refine gate_dst (N := 17) rfl ?_); refine Kd.R_make (Kd.int .u64) _ 50 rfl (N := 17) rfl 49 _ _ rfl (l1.length : Int) rfl rfl Try.underlying49 (.int .u64 0) 8 info50 rfl (by decide) (by omega) 0 (ok := fun _ => True) (okp := fun _ => True) rfl (fun _ hk => hk) trivial (of_decide_eq_true (by first | (with_reducible assumption) | assumption)) (Nat.le_trans (Nat.mul_le_mul_right _ (of_decide_eq_true (by first | (with_reducible assumption) | assumption) : (l1.length : Int).toNat ≤ 35184372088832)) (by omega)) (Below.refl _ _) (Nat.le_refl _) ?_; intro v208 w8 ho9 hb hg_ hnew_; clear hg_ hnew_; (first | rw [← Ny207.out] at ho9 | (simp only [Int.reduceToNat] at ho9; rw [← Ny207.out] at ho9)); have n0_ := Aside0.mk (Kd.R_lower ho9 (pbS_ (by repeat (first | (with_reducible first | exact HB.out | apply pbA_ | apply pbN_ | apply pb1_) | exact HB.out)))); have n1_ := Aside0.mk (below_step (by repeat (first | (with_reducible first | exact HB.out | apply pbA_ | apply pbN_ | apply pb1_) | exact HB.out)) hb); clear HB; have HO209 := n0_; have HB := n1_; clear n0_ n1_; clear hb ho9))
    go_loopg [7, 20] k (fun kq v7 v20 w' => ∃ (x6_1 : List Int) (x7_1 : List Int) (x20_1 : Int), v20 = .int .i64 x20_1 ∧ Aside0 (ints_Put.l0 kq l0 l1 x6_1 x7_1 l1 (l1.length : Int) x20_1 = some (r1, r2)) ∧ Aside0 (kq ≤ k) ∧ Aside0 (Kd.R (Kd.int .u64) 50 w' w.heap.size (fun _ => True) v208 x6_1) ∧ Aside0 (Kd.R (Kd.int .i64) 3 w' w.heap.size (fun _ => True) v7 x7_1) ∧ Aside0 (Below w.heap.size w w'))
    case atStart => exact ⟨(y207), (([] : List Int)), (0), (by first | rfl | (simp; done) | (simp [*]; done)), H', ⟨Nat.le_refl _⟩, ⟨by (with_reducible repeat (first | apply Kd.rA_ | apply Kd.rN_ | apply Kd.rD_)); exact HO209.out⟩, ⟨by first | exact Kd.R_nil _ _ _ _ _ | exact Kd.N_nil _ _ _ _ _ | exact Kd.V_nil _ _ _ _ _ | exact Kd.Q_nil _ _ _ _ _ | exact Kd.S_nil _ _ _ _ _⟩, ⟨by repeat (first | (with_reducible first | exact HB.out | apply pbA_ | apply pbN_ | apply pb1_) | exact HB.out)⟩⟩
    case round =>
     clear H'
     try clear c1
     try clear p2
     try clear c4
     try clear c5
     try clear c5b0
     try clear c5b1
     try clear c6
     try clear c6b0
     try clear c6b1
     obtain ⟨x6_1, x7_1, x20_1, rfl, HA, HK1, HO_6, HO_7, HB⟩ := hrel
     cases gk with
     | zero => exact absurd HA.out (by simp [ints_Put.l0])
     | succ k1 =>
      have H := HA.out
      clear HA
      simp only [ints_Put.l0] at H
      by_cases c10 : x20_1 < (l1.length : Int)
      ·rw [if_pos c10] at H
       have c10b0 : decide (x20_1 < (l1.length : Int)) = true := decide_eq_true c10
       clear c10
       by_cases c11 : 0 ≤ x20_1
       ·rw [if_pos c11] at H
        have c11b0 : decide (0 ≤ x20_1) = true := decide_eq_true c11
        clear c11
        by_cases c12 : x20_1 < (l1.length : Int)
        ·rw [if_pos c12] at H
         have c12b0 : decide (x20_1 < (l1.length : Int)) = true := decide_eq_true c12
         clear c12
         obtain ⟨bq13, hbq13⟩ : ∃ b_ : Bool, b_ = ((rd_T42 l1 x20_1).f0) := ⟨_, rfl⟩
         replace H : (if bq13 = true then (if x20_1 < (x6_1.length : Int) then (if x7_1.length < 17592186044416 then (ints_Put.l0 k1 l0 l1 (x6_1.set (x20_1 : Int).toNat 1) (x7_1 ++ [(rd_T42 l1 x20_1).f1]) l1 (l1.length : Int) (wrap64 (x20_1 + 1))) else (none)) else (none)) else (ints_Put.l0 k1 l0 l1 x6_1 x7_1 l1 (l1.length : Int) (wrap64 (x20_1 + 1)))) = some (r1, r2) := by rw [← hbq13] at H; exact H
         have Nbq13 := Aside0.mk hbq13
         clear hbq13
         by_cases c14 : bq13 = true
         ·subst c14
          have H1 : (if x20_1 < (x6_1.length : Int) then (if x7_1.length < 17592186044416 then (ints_Put.l0 k1 l0 l1 (x6_1.set (x20_1 : Int).toNat 1) (x7_1 ++ [(rd_T42 l1 x20_1).f1]) l1 (l1.length : Int) (wrap64 (x20_1 + 1))) else (none)) else (none)) = some (r1, r2) := by rw [if_pos rfl] at H; exact H
          clear H
          have H := H1
          clear H1
          by_cases c15 : x20_1 < (x6_1.length : Int)
          ·rw [if_pos c15] at H
           have c15b0 : decide (x20_1 < (x6_1.length : Int)) = true := decide_eq_true c15
           clear c15
           obtain ⟨y212, hy212⟩ : ∃ y_ : List Int, y_ = (x6_1.set (x20_1 : Int).toNat 1) := ⟨_, rfl⟩
           replace H : (if x7_1.length < 17592186044416 then (ints_Put.l0 k1 l0 l1 y212 (x7_1 ++ [(rd_T42 l1 x20_1).f1]) l1 (l1.length : Int) (wrap64 (x20_1 + 1))) else (none)) = some (r1, r2) := by first | (rw [hy212]; with_reducible exact H) | (have H2_ := (Option.bind_some _ _).symm.trans H; rw [hy212]; with_reducible exact H2_) | (have H2_ := (Option.bind_some _ _).symm.trans H; with_reducible exact H2_) | with_reducible exact H | (rw [hy212]; exact H) | exact H
           have Ny212 := Aside0.mk hy212
           clear hy212
           by_cases c17 : x7_1.length < 17592186044416
           ·rw [if_pos c17] at H
            have LMc17 := Aside0.mk c17
            clear c17
            obtain ⟨y213, hy213⟩ : ∃ y_ : List Int, y_ = (x7_1 ++ [(rd_T42 l1 x20_1).f1]) := ⟨_, rfl⟩
            replace H : (ints_Put.l0 k1 l0 l1 y212 y213 l1 (l1.length : Int) (wrap64 (x20_1 + 1))) = some (r1, r2) := by first | (rw [hy213]; with_reducible exact H) | (have H2_ := (Option.bind_some _ _).symm.trans H; rw [hy213]; with_reducible exact H2_) | (have H2_ := (Option.bind_some _ _).symm.trans H; with_reducible exact H2_) | with_reducible exact H | (rw [hy213]; exact H) | exact H
            have Ny213 := Aside0.mk hy213
            clear hy213
            have H' := Aside0.mk H
            clear H
            have p210 : 0 ≤ (x20_1 : Int) := of_decide_eq_true (by first | (with_reducible assumption) | assumption)
            have q210 : x20_1 < (l1.length : Int) := of_decide_eq_true (by first | (with_reducible assumption) | assumption)
            obtain ⟨ad210, e210, hx210_0, hx210_1⟩ := at_T42 HR1.out x20_1 p210 q210
            (try rw [← Nbq13.out] at hx210_0)
            cases e210
            replace hx210_0 := (HB.out.cell (World.block_lt_of_cell? w _ hx210_0)).trans hx210_0
            replace hx210_1 := (HB.out.cell (World.block_lt_of_cell? w _ hx210_1)).trans hx210_1
            replace p210 := eq_true p210
            replace q210 := eq_true q210
            go_wp2_with (first | ((with_reducible refine gate_dst (N := 9) rfl ?_); refine box_event ?hg (N := 9) ?hd (cs := #[.bool false, .int .i64 0]) (t := 42) ?hr ?_; (case hd => rfl); (case hg => rfl); (case hr => first | (go_simp; done) | (go_simp; rfl)); intro gb211 hg w18 hbox hb; have n0_ := Aside0.mk (Kd.R_below (by (with_reducible repeat (first | apply Kd.rA_ | apply Kd.rN_ | apply Kd.rD_)); exact HO_6.out) hb); have n1_ := Aside0.mk (Kd.R_below (by (with_reducible repeat (first | apply Kd.rA_ | apply Kd.rN_ | apply Kd.rD_)); exact HO_7.out) hb); have n2_ := Aside0.mk (below_step (by repeat (first | (with_reducible first | exact HB.out | apply pbA_ | apply pbN_ | apply pb1_) | exact HB.out)) hb); have n3_ := Aside0.mk (hbox); have n4_ := Aside0.mk ((by rw [hg]; exact (pbS_ (by repeat (first | (with_reducible first | exact HB.out | apply pbA_ | apply pbN_ | apply pb1_) | exact HB.out))) : w.heap.size ≤ gb211)); have n5_ := Aside0.mk ((by rw [hg]; exact (pbS_ (by repeat (first | (with_reducible first | exact HB.out | apply pbA_ | apply pbN_ | apply pb1_) | exact HB.out))) : w.heap.size ≤ gb211)); clear HO_6; clear HO_7; clear HB; have HO_6 := n0_; have HO_7 := n1_; have HB := n2_; have BK211 := n3_; have GW211 := n4_; have GE211 := n5_; clear n0_ n1_ n2_ n3_ n4_ n5_; clear hb hbox hg; have hcz19_0 : w18.cell? ⟨gb211, 0, none⟩ = some (.bool false) := (blk_cell BK211.out 0).trans rfl; have hcz19_1 : w18.cell? ⟨gb211, 1, none⟩ = some (.int .i64 0) := (blk_cell BK211.out 1).trans rfl; have hfz19_0 := blk_frozen BK211.out 0; have hfz19_1 := blk_frozen BK211.out 1) | ((with_reducible refine gate_store (t := 42) (p := 9) rfl ?_); refine store_event (t := 42) (p := 9) (v := ?vo_w20) (w1 := ((w18.setCell ⟨gb211, 0, none⟩ (.bool true)).setCell ⟨gb211, 1, none⟩ (.int .i64 ((rd_T42 l1 x20_1).f1)))) ?hg ?ho ?hn ?hr ?_; (case ho => rfl); (case hg => rfl); (case hn => rfl); (case hr => first | (go_simp; done) | (go_simp; rfl)); intro w20 hw; have n0_ : Aside0 (Kd.R (Kd.int .u64) 50 w20 w.heap.size (fun _ => True) v208 x6_1) := ⟨(by rw [hw]; exact (by (with_reducible repeat (first | apply Kd.rA_ | apply Kd.rN_ | apply Kd.rD_)); exact Kd.R_mono (Kd.R_far (p := ⟨gb211, 1, none⟩) (Kd.R_far (p := ⟨gb211, 0, none⟩) (Kd.R_types HO_6.out BK211.out (by decide)) (fun _ hk => hk.2) (.bool true)) (fun _ hk => hk.2) (.int .i64 ((rd_T42 l1 x20_1).f1))) (fun _ hk => trivial)))⟩; have n1_ : Aside0 (Kd.R (Kd.int .i64) 3 w20 w.heap.size (fun _ => True) u7 x7_1) := ⟨(by rw [hw]; exact (by (with_reducible repeat (first | apply Kd.rA_ | apply Kd.rN_ | apply Kd.rD_)); exact Kd.R_mono (Kd.R_far (p := ⟨gb211, 1, none⟩) (Kd.R_far (p := ⟨gb211, 0, none⟩) (Kd.R_types HO_7.out BK211.out (by decide)) (fun _ hk => hk.2) (.bool true)) (fun _ hk => hk.2) (.int .i64 ((rd_T42 l1 x20_1).f1))) (fun _ hk => trivial)))⟩; have n2_ : Aside0 (w20.heap[gb211]? = some (.cells #[.bool true, .int .i64 ((rd_T42 l1 x20_1).f1)] 42 (0, 0))) := ⟨(by rw [hw]; exact (by (with_reducible repeat (first | refine blk_drewN ?_ _ | refine blk_drew ?_ | refine blk_alloc ?_ _)); refine blk_put (cs := #[.bool true, .int .i64 0]) ?_ 1 _ rfl; (with_reducible repeat (first | refine blk_drewN ?_ _ | refine blk_drew ?_ | refine blk_alloc ?_ _)); refine blk_put (cs := #[.bool false, .int .i64 0]) ?_ 0 _ rfl; (with_reducible repeat (first | refine blk_drewN ?_ _ | refine blk_drew ?_ | refine blk_alloc ?_ _)); exact BK211.out))⟩; have n3_ : Aside0 (Below w.heap.size w w20) := ⟨(by rw [hw]; exact (by repeat (first | (with_reducible first | exact HB.out | apply pbA_ | apply pbN_ | apply pb1_ | refine below_set ?_ GE211.out) | exact HB.out)))⟩; clear hw; clear HO_6; clear HO_7; clear BK211; clear HB; have HO_6 := n0_; have HO_7 := n1_; have BK211 := n2_; have HB := n3_; clear n0_ n1_ n2_ n3_; have hcz21_0 : w20.cell? ⟨gb211, 0, none⟩ = some (.bool true) := (blk_cell BK211.out 0).trans rfl; have hcz21_1 : w20.cell? ⟨gb211, 1, none⟩ = some (.int .i64 ((rd_T42 l1 x20_1).f1)) := (blk_cell BK211.out 1).trans rfl; have hfz21_0 := blk_frozen BK211.out 0; have hfz21_1 := blk_frozen BK211.out 1; have p16 : 0 ≤ (x20_1 : Int) := of_decide_eq_true (by first | (with_reducible assumption) | assumption); have q16 : (x20_1 : Int) < ((x6_1.length : Int) : Int) := of_decide_eq_true (by first | (with_reducible assumption) | assumption); obtain ⟨go16, co16, eo16, gb16, gl16, cl16, HG16⟩ := Kd.R_form HO_6.out (by omega); (first | cases eo16 | (injection eo16 with ea_ en_ ec_; (first | subst ea_ | (injection ea_ with ea_; subst ea_)); subst ec_; clear en_)); have GB16 := Aside0.mk gb16; have GG16 := Aside0.mk HG16; clear gb16 gl16 HG16; obtain ⟨hx16_0, hf16_0⟩ := Kd.R_celln 0 HO_6.out (x20_1 : Int) p16 q16; replace p16 := eq_true p16; replace q16 := eq_true q16; obtain ⟨hy22_, hz22_⟩ := Kd.R_celln 0 HO_6.out (x20_1 : Int) (of_decide_eq_true (by first | (with_reducible assumption) | assumption)) (of_decide_eq_true (by first | (with_reducible assumption) | assumption)); have HP22 := Kd.R_putg HO_6.out (x20_1 : Int) 1) | ((with_reducible refine gate_store (t := 50) (p := 29) rfl ?_); refine store_event (t := 50) (p := 29) (v := ?vo_w23) (w1 := (w20.setCell ⟨go16, (x20_1 : Int).toNat, none⟩ (.int .u64 1))) ?hg ?ho ?hn ?hr ?_; (case ho => rfl); (case hg => rfl); (case hn => rfl); (case hr => first | (go_simp; done) | (go_simp; rfl)); intro w23 hw; have hg : w20.grownBy w23 (some go16) := (by rw [hw]; exact HP22.2); have hp_ : Kd.R (Kd.int .u64) 50 w23 w.heap.size (fun _ => True) (.slice (some ⟨go16, 0, none⟩) x6_1.length co16) y212 := (by rw [hw, Ny212.out]; exact HP22.1); clear HP22; have n0_ := Aside0.mk (hp_); have n1_ := Aside0.mk (Kd.R_over' (v := (.slice (some ⟨go16, 0, none⟩) x6_1.length co16)) (by (with_reducible repeat (first | apply Kd.rA_ | apply Kd.rN_ | apply Kd.rD_)); exact HO_7.out) (Kd.R_typed HO_6.out) (by decide) hg); have n2_ := Aside0.mk (blk_grown (g := gb211) (o := .cells #[.bool true, .int .i64 ((rd_T42 l1 x20_1).f1)] 42 (0, 0)) (by (with_reducible repeat (first | refine blk_drewN ?_ _ | refine blk_drew ?_ | refine blk_alloc ?_ _)); exact BK211.out) hg (Kd.R_ne HO_6.out BK211.out (by decide))); have n3_ := Aside0.mk ((by rw [hw]; exact below_set (HB.out) GB16.out : Below w.heap.size w w23)); clear HO_6; clear HO_7; clear BK211; clear HB; have HO_6 := n0_; have HO_7 := n1_; have BK211 := n2_; have HB := n3_; clear n0_ n1_ n2_ n3_; clear hg hw hp_; have hcz24_0 : w23.cell? ⟨gb211, 0, none⟩ = some (.bool true) := (blk_cell BK211.out 0).trans rfl; have hcz24_1 : w23.cell? ⟨gb211, 1, none⟩ = some (.int .i64 ((rd_T42 l1 x20_1).f1)) := (blk_cell BK211.out 1).trans rfl; have hfz24_0 := blk_frozen BK211.out 0; have hfz24_1 := blk_frozen BK211.out 1) | ((with_reducible refine gate_builtin (b := .append) (xs := #[.tmp 30, .tmp 33]) rfl ?_); at_builtin; refine Kd.R_append (Kd.int .i64) (w0 := w) w.heap.size rfl (.tmp 30) (.tmp 33) 39 3 (.int .i64 0) 8 rfl Try.underlying39 info3 rfl (by decide) (by omega) u7 x7_1 ((rd_T42 l1 x20_1).f1) [.int .i64 ((rd_T42 l1 x20_1).f1)] (fun _ => True) (fun _ => False) rfl rfl ?aP (fun _ hk => hk.elim) ?aF ?aO ?aB ?aS ?aL ?_; (case aP => exact rfl); (case aB => exact (by repeat (first | (with_reducible first | exact HB.out | apply pbA_ | apply pbN_ | apply pb1_ | refine below_set ?_ GE211.out) | exact HB.out))); (case aF => exact (fun _ _ => trivial)); (case aO => exact (by (with_reducible repeat (first | apply Kd.rA_ | apply Kd.rN_ | apply Kd.rD_)); exact HO_7.out)); (case aS => exact (pbS_ (by repeat (first | (with_reducible first | exact HB.out | apply pbA_ | apply pbN_ | apply pb1_ | refine below_set ?_ GE211.out) | exact HB.out)))); (case aL => have := LMc17.out; omega); intro v214 w25 ho hb hg hat; rw [← Ny213.out] at ho; have n0_ := Aside0.mk (Kd.R_over' (by (with_reducible repeat (first | apply Kd.rA_ | apply Kd.rN_ | apply Kd.rD_)); exact HO_6.out) (Kd.R_typed (by (with_reducible repeat (first | apply Kd.rA_ | apply Kd.rN_ | apply Kd.rD_)); exact HO_7.out)) (by decide) hg); have n1_ := Aside0.mk (blk_grown (g := gb211) (o := .cells #[.bool true, .int .i64 ((rd_T42 l1 x20_1).f1)] 42 (0, 0)) (by (with_reducible repeat (first | refine blk_drewN ?_ _ | refine blk_drew ?_ | refine blk_alloc ?_ _)); exact BK211.out) hg (Kd.R_ne HO_7.out BK211.out (by decide))); have n2_ := Aside0.mk (hb); have n3_ := Aside0.mk (ho); clear HO_6; clear BK211; clear HB; clear HO_7; have HO_6 := n0_; have BK211 := n1_; have HB := n2_; have HO215 := n3_; clear n0_ n1_ n2_ n3_; clear ho hb hg hat))
            go_roundg k1
            case measure => have := HK1.out; omega
            case rel => exact ⟨(y212), (y213), (wrap64 (x20_1 + 1)), (by first | rfl | (simp; done) | (simp [*]; done)), H', ⟨by have := HK1.out; omega⟩, ⟨by (with_reducible repeat (first | apply Kd.rA_ | apply Kd.rN_ | apply Kd.rD_)); exact HO_6.out⟩, ⟨by (with_reducible repeat (first | apply Kd.rA_ | apply Kd.rN_ | apply Kd.rD_)); exact HO215.out⟩, ⟨by repeat (first | (with_reducible first | exact HB.out | apply pbA_ | apply pbN_ | apply pb1_ | refine below_set ?_ GE211.out) | exact HB.out)⟩⟩
           ·rw [if_neg c17] at H
            exact absurd H (by simp)
          ·rw [if_neg c15] at H
           exact absurd H (by simp)
         ·replace c14 := Bool.eq_false_iff.mpr c14
          subst c14
          have H1 : (ints_Put.l0 k1 l0 l1 x6_1 x7_1 l1 (l1.length : Int) (wrap64 (x20_1 + 1))) = some (r1, r2) := by rw [if_neg (show ¬ (false = true) by decide)] at H; exact H
          clear H
          have H := H1
          clear H1
          have H' := Aside0.mk H
          clear H
          have p210 : 0 ≤ (x20_1 : Int) := of_decide_eq_true (by first | (with_reducible assumption) | assumption)
          have q210 : x20_1 < (l1.length : Int) := of_decide_eq_true (by first | (with_reducible assumption) | assumption)
          obtain ⟨ad210, e210, hx210_0, hx210_1⟩ := at_T42 HR1.out x20_1 p210 q210
          (try rw [← Nbq13.out] at hx210_0)
          cases e210
          replace hx210_0 := (HB.out.cell (World.block_lt_of_cell? w _ hx210_0)).trans hx210_0
          replace hx210_1 := (HB.out.cell (World.block_lt_of_cell? w _ hx210_1)).trans hx210_1
          replace p210 := eq_true p210
          replace q210 := eq_true q210
          go_wp2_with (first | ((with_reducible refine gate_dst (N := 9) rfl ?_); refine box_event ?hg (N := 9) ?hd (cs := #[.bool false, .int .i64 0]) (t := 42) ?hr ?_; (case hd => rfl); (case hg => rfl); (case hr => first | (go_simp; done) | (go_simp; rfl)); intro gb211 hg w26 hbox hb; have n0_ := Aside0.mk (Kd.R_below (by (with_reducible repeat (first | apply Kd.rA_ | apply Kd.rN_ | apply Kd.rD_)); exact HO_6.out) hb); have n1_ := Aside0.mk (Kd.R_below (by (with_reducible repeat (first | apply Kd.rA_ | apply Kd.rN_ | apply Kd.rD_)); exact HO_7.out) hb); have n2_ := Aside0.mk (below_step (by repeat (first | (with_reducible first | exact HB.out | apply pbA_ | apply pbN_ | apply pb1_) | exact HB.out)) hb); have n3_ := Aside0.mk (hbox); have n4_ := Aside0.mk ((by rw [hg]; exact (pbS_ (by repeat (first | (with_reducible first | exact HB.out | apply pbA_ | apply pbN_ | apply pb1_) | exact HB.out))) : w.heap.size ≤ gb211)); have n5_ := Aside0.mk ((by rw [hg]; exact (pbS_ (by repeat (first | (with_reducible first | exact HB.out | apply pbA_ | apply pbN_ | apply pb1_) | exact HB.out))) : w.heap.size ≤ gb211)); clear HO_6; clear HO_7; clear HB; have HO_6 := n0_; have HO_7 := n1_; have HB := n2_; have BK211 := n3_; have GW211 := n4_; have GE211 := n5_; clear n0_ n1_ n2_ n3_ n4_ n5_; clear hb hbox hg; have hcz27_0 : w26.cell? ⟨gb211, 0, none⟩ = some (.bool false) := (blk_cell BK211.out 0).trans rfl; have hcz27_1 : w26.cell? ⟨gb211, 1, none⟩ = some (.int .i64 0) := (blk_cell BK211.out 1).trans rfl; have hfz27_0 := blk_frozen BK211.out 0; have hfz27_1 := blk_frozen BK211.out 1))
          go_roundg k1
          case measure => have := HK1.out; omega
          case rel => exact ⟨(x6_1), (x7_1), (wrap64 (x20_1 + 1)), (by first | rfl | (simp; done) | (simp [*]; done)), H', ⟨by have := HK1.out; omega⟩, ⟨by (with_reducible repeat (first | apply Kd.rA_ | apply Kd.rN_ | apply Kd.rD_)); exact Kd.R_mono (Kd.R_far (p := ⟨gb211, 1, none⟩) (Kd.R_far (p := ⟨gb211, 0, none⟩) (Kd.R_types HO_6.out BK211.out (by decide)) (fun _ hk => hk.2) (.bool false)) (fun _ hk => hk.2) (.int .i64 ((rd_T42 l1 x20_1).f1))) (fun _ hk => trivial)⟩, ⟨by (with_reducible repeat (first | apply Kd.rA_ | apply Kd.rN_ | apply Kd.rD_)); exact Kd.R_mono (Kd.R_far (p := ⟨gb211, 1, none⟩) (Kd.R_far (p := ⟨gb211, 0, none⟩) (Kd.R_types HO_7.out BK211.out (by decide)) (fun _ hk => hk.2) (.bool false)) (fun _ hk => hk.2) (.int .i64 ((rd_T42 l1 x20_1).f1))) (fun _ hk => trivial)⟩, ⟨by repeat (first | (with_reducible first | exact HB.out | apply pbA_ | apply pbN_ | apply pb1_ | refine below_set ?_ GE211.out) | exact HB.out)⟩⟩
        ·rw [if_neg c12] at H
         exact absurd H (by simp)
       ·rw [if_neg c11] at H
        exact absurd H (by simp)
      ·rw [if_neg c10] at H
       have c10b0 : decide (x20_1 < (l1.length : Int)) = false := decide_eq_false c10
       clear c10
       replace H := Option.bind_eq_some_iff.mp H
       obtain ⟨⟨t216, t217⟩, A280, H⟩ := H
       replace H : (if t217 = 0 then ((num_Put.f k1 l0 (IntKind.u64.wrap ((l1.length : Int)))).bind fun t220 => (if t220.length + t216.length < 140737488355328 then ((pfor_PutInts.f k1 (t220 ++ t216) x7_1).bind fun t226 => (some (t226, 0))) else (none))) else (some (([] : List Int), t217))) = some (r1, r2) := H
       have A28 := Aside0.mk A280
       clear A280
       by_cases c29 : t217 = 0
       ·rw [if_pos c29] at H
        have c29b0 : (t217 == 0) = true := beq_iff_eq.mpr c29
        have c29b1 : (t217 != 0) = false := bne_eq_false_iff_eq.mpr c29
        clear c29
        replace H := Option.bind_eq_some_iff.mp H
        obtain ⟨t220, A300, H⟩ := H
        replace H : (if t220.length + t216.length < 140737488355328 then ((pfor_PutInts.f k1 (t220 ++ t216) x7_1).bind fun t226 => (some (t226, 0))) else (none)) = some (r1, r2) := H
        have A30 := Aside0.mk A300
        clear A300
        by_cases c31 : t220.length + t216.length < 140737488355328
        ·rw [if_pos c31] at H
         have LMc31 := Aside0.mk c31
         clear c31
         obtain ⟨y223, hy223⟩ : ∃ y_ : List Int, y_ = (t220 ++ t216) := ⟨_, rfl⟩
         replace H : ((pfor_PutInts.f k1 y223 x7_1).bind fun t226 => (some (t226, 0))) = some (r1, r2) := by first | (rw [hy223]; with_reducible exact H) | (have H2_ := (Option.bind_some _ _).symm.trans H; rw [hy223]; with_reducible exact H2_) | (have H2_ := (Option.bind_some _ _).symm.trans H; with_reducible exact H2_) | with_reducible exact H | (rw [hy223]; exact H) | exact H
         have Ny223 := Aside0.mk hy223
         clear hy223
         replace H := Option.bind_eq_some_iff.mp H
         obtain ⟨t226, A320, H⟩ := H
         replace H : (some (t226, 0)) = some (r1, r2) := H
         have A32 := Aside0.mk A320
         clear A320
         simp only [Option.some.injEq, Prod.mk.injEq] at H
         obtain ⟨rfl, rfl⟩ := H
         obtain ⟨Ao33, co33, eo33⟩ := Kd.R_slice HO_6.out
         subst eo33
         go_wp2_with (first | ((with_reducible refine gaC_ (f := 26) rfl ?_); refine goesL_ (some 38) rfl rfl Try.func26 (by kernel_rfl) rfl #[.slice Ao33 x6_1.length co33, .int .i64 1] rfl (by (try simp only [List.map_toArray, List.map_cons, List.map_nil]); first | done | rfl | (simp only [List.length_drop, List.length_take]; rfl)) ?_; (with_reducible refine (bits_Pack.calls k1 _ _ x6_1 1 t216 t217 _ ?side1 ?side2 A28.out).mono ?_); (case side1 => repeat (first | exact (Kd.R_reads' HO_6.out).2.2 | (with_reducible refine Kd.cA_ ?_ _) | (with_reducible refine Kd.cN_ ?_ _) | (with_reducible refine Kd.cD_ ?_))); (case side2 => exact (Kd.R_reads' HO_6.out).2.1); rintro e w34 ⟨v218, rfl, ho0, hb⟩; refine ⟨_, rfl, ?_⟩; have n0_ := Aside0.mk (Kd.R_below (by (with_reducible repeat (first | apply Kd.rA_ | apply Kd.rN_ | apply Kd.rD_)); exact HO_6.out) hb); have n1_ := Aside0.mk (Kd.R_below (by (with_reducible repeat (first | apply Kd.rA_ | apply Kd.rN_ | apply Kd.rD_)); exact HO_7.out) hb); have n2_ := Aside0.mk (Kd.R_lower ho0 (pbS_ (by repeat (first | (with_reducible first | exact HB.out | apply pbA_ | apply pbN_ | apply pb1_) | exact HB.out)))); have n3_ := Aside0.mk (below_step (by repeat (first | (with_reducible first | exact HB.out | apply pbA_ | apply pbN_ | apply pb1_) | exact HB.out)) hb); clear HO_6; clear HO_7; clear HB; have HO_6 := n0_; have HO_7 := n1_; have HO219 := n2_; have HB := n3_; clear n0_ n1_ n2_ n3_; (try clear hb); (try clear hb2); (try clear hk); (try clear hi); (try clear ho0)) | ((with_reducible refine gaC_ (f := 28) rfl ?_); refine goesL_ (some 48) rfl rfl Try.func28 (by kernel_rfl) rfl #[.slice A0 l0.length c0, .int .u64 (IntKind.u64.wrap ((l1.length : Int)))] rfl (by (try simp only [List.map_toArray, List.map_cons, List.map_nil]); first | done | rfl | (simp only [List.length_drop, List.length_take]; rfl)) ?_; (with_reducible refine (num_Put.calls k1 _ _ l0 (IntKind.u64.wrap ((l1.length : Int))) t220 _ ?side1 ?side2 A30.out).mono ?_); (case side1 => repeat (first | exact (Kd.C_below HR0.out HB.out) | (with_reducible refine Kd.cA_ ?_ _) | (with_reducible refine Kd.cN_ ?_ _) | (with_reducible refine Kd.cD_ ?_))); (case side2 => exact HC0.out); rintro e w35 ⟨v221, rfl, ho0, hb⟩; refine ⟨_, rfl, ?_⟩; have n0_ := Aside0.mk (Kd.R_below (by (with_reducible repeat (first | apply Kd.rA_ | apply Kd.rN_ | apply Kd.rD_)); exact HO_6.out) hb); have n1_ := Aside0.mk (Kd.R_below (by (with_reducible repeat (first | apply Kd.rA_ | apply Kd.rN_ | apply Kd.rD_)); exact HO_7.out) hb); have n2_ := Aside0.mk (Kd.R_elder' (by (with_reducible repeat (first | apply Kd.rA_ | apply Kd.rN_ | apply Kd.rD_)); exact HO219.out) (Kd.R_base ho0) hb); have n3_ := Aside0.mk (Kd.R_lower (Kd.R_new' ho0 (Kd.R_lt (by (with_reducible repeat (first | apply Kd.rA_ | apply Kd.rN_ | apply Kd.rD_)); exact HO219.out))) (pbS_ (by repeat (first | (with_reducible first | exact HB.out | apply pbA_ | apply pbN_ | apply pb1_) | exact HB.out)))); have n4_ := Aside0.mk (below_step (by repeat (first | (with_reducible first | exact HB.out | apply pbA_ | apply pbN_ | apply pb1_) | exact HB.out)) hb); clear HO_6; clear HO_7; clear HO219; clear HB; have HO_6 := n0_; have HO_7 := n1_; have HO219 := n2_; have HO222 := n3_; have HB := n4_; clear n0_ n1_ n2_ n3_ n4_; (try clear hb); (try clear hb2); (try clear hk); (try clear hi); (try clear ho0); obtain ⟨Ao37, co37, eo37⟩ := Kd.R_slice HO219.out; subst eo37) | ((with_reducible refine gate_builtin (b := .append) (xs := #[.tmp 48, .tmp 49]) rfl ?_); at_builtin; refine Kd.R_append_rows (Kd.int .u8) (w0 := w) w.heap.size rfl (.tmp 48) (.tmp 49) 22 5 (.int .u8 0) 1 rfl Try.underlying22 info5 rfl (by decide) (by omega) v221 t220 t216 _ _ _ (fun k_ => some k_ ≠ (.slice Ao37 t216.length co37 : Value).ownBlock) (fun _ => False) rfl rfl ?aO ?aR (fun _ _ h => h) (fun _ h => h.elim) ?aF ?aB ?aS ?aL ?_; (case aR => repeat (first | exact (Kd.R_reads' HO219.out).2.2 | (with_reducible refine Kd.cA_ ?_ _) | (with_reducible refine Kd.cN_ ?_ _) | (with_reducible refine Kd.cD_ ?_))); (case aB => exact (by repeat (first | (with_reducible first | exact HB.out | apply pbA_ | apply pbN_ | apply pb1_) | exact HB.out))); (case aF => exact (fun k_ hk => Kd.fresh' (Kd.R_lt (by (with_reducible repeat (first | apply Kd.rA_ | apply Kd.rN_ | apply Kd.rD_)); exact HO219.out)) k_ hk)); (case aO => exact (by (with_reducible repeat (first | apply Kd.rA_ | apply Kd.rN_ | apply Kd.rD_)); exact Kd.R_mono HO222.out (fun _ hk => hk.2))); (case aS => exact (pbS_ (by repeat (first | (with_reducible first | exact HB.out | apply pbA_ | apply pbN_ | apply pb1_) | exact HB.out)))); (case aL => have := LMc31.out; omega); intro v224 w36 ho hb hg hat; rw [← Ny223.out] at ho; have n0_ := Aside0.mk (Kd.R_over' (by (with_reducible repeat (first | apply Kd.rA_ | apply Kd.rN_ | apply Kd.rD_)); exact HO_6.out) (Kd.R_typed (by (with_reducible repeat (first | apply Kd.rA_ | apply Kd.rN_ | apply Kd.rD_)); exact HO222.out)) (by decide) hg); have n1_ := Aside0.mk (Kd.R_over' (by (with_reducible repeat (first | apply Kd.rA_ | apply Kd.rN_ | apply Kd.rD_)); exact HO_7.out) (Kd.R_typed (by (with_reducible repeat (first | apply Kd.rA_ | apply Kd.rN_ | apply Kd.rD_)); exact HO222.out)) (by decide) hg); have n2_ := Aside0.mk (Kd.R_after (ok := (fun _ => True)) (by (with_reducible repeat (first | apply Kd.rA_ | apply Kd.rN_ | apply Kd.rD_)); exact HO219.out) hg hat); have n3_ := Aside0.mk (hb); have n4_ := Aside0.mk (ho); clear HO_6; clear HO_7; clear HO219; clear HB; clear HO222; have HO_6 := n0_; have HO_7 := n1_; have HO219 := n2_; have HB := n3_; have HO225 := n4_; clear n0_ n1_ n2_ n3_ n4_; clear ho hb hg hat; obtain ⟨Ao38, co38, eo38⟩ := Kd.R_slice HO225.out; subst eo38; obtain ⟨Ao39, co39, eo39⟩ := Kd.R_slice HO_7.out; subst eo39) | ((with_reducible refine gaC_ (f := 27) rfl ?_); refine goesL_ (some 52) rfl rfl Try.func27 (by kernel_rfl) rfl #[.slice Ao38 y223.length co38, .slice Ao39 x7_1.length co39] rfl (by (try simp only [List.map_toArray, List.map_cons, List.map_nil]); first | done | rfl | (simp only [List.length_drop, List.length_take]; rfl)) ?_; (with_reducible refine (pfor_PutInts.calls k1 _ _ y223 _ _ x7_1 t226 _ ?side1 ?side2 ?side3 ?side4 A32.out).mono ?_); (case side1 => repeat (first | exact (Kd.R_reads' HO225.out).2.2 | (with_reducible refine Kd.cA_ ?_ _) | (with_reducible refine Kd.cN_ ?_ _) | (with_reducible refine Kd.cD_ ?_))); (case side2 => exact (Kd.R_reads' HO225.out).2.1); (case side3 => repeat (first | exact (Kd.R_reads' HO_7.out).2.2 | (with_reducible refine Kd.cA_ ?_ _) | (with_reducible refine Kd.cN_ ?_ _) | (with_reducible refine Kd.cD_ ?_))); (case side4 => exact (Kd.R_reads' HO_7.out).2.1); rintro e w40 ⟨v227, rfl, ho0, hb⟩; refine ⟨_, rfl, ?_⟩; have n0_ := Aside0.mk (Kd.R_below (by (with_reducible repeat (first | apply Kd.rA_ | apply Kd.rN_ | apply Kd.rD_)); exact HO_6.out) hb); have n1_ := Aside0.mk (Kd.R_below (by (with_reducible repeat (first | apply Kd.rA_ | apply Kd.rN_ | apply Kd.rD_)); exact HO_7.out) hb); have n2_ := Aside0.mk (Kd.R_elder' (by (with_reducible repeat (first | apply Kd.rA_ | apply Kd.rN_ | apply Kd.rD_)); exact HO219.out) (Kd.R_base ho0) hb); have n3_ := Aside0.mk (Kd.R_elder' (by (with_reducible repeat (first | apply Kd.rA_ | apply Kd.rN_ | apply Kd.rD_)); exact HO225.out) (Kd.R_base ho0) hb); have n4_ := Aside0.mk (Kd.R_lower (Kd.R_new' (Kd.R_new' ho0 (Kd.R_lt (by (with_reducible repeat (first | apply Kd.rA_ | apply Kd.rN_ | apply Kd.rD_)); exact HO219.out))) (Kd.R_lt (by (with_reducible repeat (first | apply Kd.rA_ | apply Kd.rN_ | apply Kd.rD_)); exact HO225.out))) (pbS_ (by repeat (first | (with_reducible first | exact HB.out | apply pbA_ | apply pbN_ | apply pb1_) | exact HB.out)))); have n5_ := Aside0.mk (below_step (by repeat (first | (with_reducible first | exact HB.out | apply pbA_ | apply pbN_ | apply pb1_) | exact HB.out)) hb); clear HO_6; clear HO_7; clear HO219; clear HO225; clear HB; have HO_6 := n0_; have HO_7 := n1_; have HO219 := n2_; have HO225 := n3_; have HO228 := n4_; have HB := n5_; clear n0_ n1_ n2_ n3_ n4_ n5_; (try clear hb); (try clear hb2); (try clear hk); (try clear hi); (try clear ho0)))
         go_ret2
         exact ⟨_, by first | rfl | (simp [eWn_, eWs_] <;> rfl) | (simp [*, eWn_, eWs_] <;> rfl), by (with_reducible repeat (first | apply Kd.rA_ | apply Kd.rN_ | apply Kd.rD_)); exact Kd.R_mono HO228.out (fun _ hk => trivial), by repeat (first | (with_reducible first | exact HB.out | apply pbA_ | apply pbN_ | apply pb1_) | exact HB.out)⟩
        ·rw [if_neg c31] at H
         exact absurd H (by simp)
       ·rw [if_neg c29] at H
        have c29b0 : (t217 == 0) = false := beq_eq_false_iff_ne.mpr c29
        have c29b1 : (t217 != 0) = true := bne_iff_ne.mpr c29
        simp only [Option.some.injEq, Prod.mk.injEq] at H
        obtain ⟨rfl, rfl⟩ := H
        obtain ⟨Ao41, co41, eo41⟩ := Kd.R_slice HO_6.out
        subst eo41
        go_wp2_with (first | ((with_reducible refine gaC_ (f := 26) rfl ?_); refine goesL_ (some 38) rfl rfl Try.func26 (by kernel_rfl) rfl #[.slice Ao41 x6_1.length co41, .int .i64 1] rfl (by (try simp only [List.map_toArray, List.map_cons, List.map_nil]); first | done | rfl | (simp only [List.length_drop, List.length_take]; rfl)) ?_; (with_reducible refine (bits_Pack.calls k1 _ _ x6_1 1 t216 t217 _ ?side1 ?side2 A28.out).mono ?_); (case side1 => repeat (first | exact (Kd.R_reads' HO_6.out).2.2 | (with_reducible refine Kd.cA_ ?_ _) | (with_reducible refine Kd.cN_ ?_ _) | (with_reducible refine Kd.cD_ ?_))); (case side2 => exact (Kd.R_reads' HO_6.out).2.1); rintro e w42 ⟨v218, rfl, ho0, hb⟩; refine ⟨_, rfl, ?_⟩; have n0_ := Aside0.mk (Kd.R_below (by (with_reducible repeat (first | apply Kd.rA_ | apply Kd.rN_ | apply Kd.rD_)); exact HO_6.out) hb); have n1_ := Aside0.mk (Kd.R_below (by (with_reducible repeat (first | apply Kd.rA_ | apply Kd.rN_ | apply Kd.rD_)); exact HO_7.out) hb); have n2_ := Aside0.mk (Kd.R_lower ho0 (pbS_ (by repeat (first | (with_reducible first | exact HB.out | apply pbA_ | apply pbN_ | apply pb1_) | exact HB.out)))); have n3_ := Aside0.mk (below_step (by repeat (first | (with_reducible first | exact HB.out | apply pbA_ | apply pbN_ | apply pb1_) | exact HB.out)) hb); clear HO_6; clear HO_7; clear HB; have HO_6 := n0_; have HO_7 := n1_; have HO219 := n2_; have HB := n3_; clear n0_ n1_ n2_ n3_; (try clear hb); (try clear hb2); (try clear hk); (try clear hi); (try clear ho0)))
        go_ret2
        exact ⟨_, by first | rfl | (simp [eWn_, eWs_] <;> rfl) | (simp [*, eWn_, eWs_] <;> rfl), by first | exact Kd.R_nil _ _ _ _ _ | exact Kd.N_nil _ _ _ _ _ | exact Kd.V_nil _ _ _ _ _ | exact Kd.Q_nil _ _ _ _ _ | exact Kd.S_nil _ _ _ _ _, by repeat (first | (with_reducible first | exact HB.out | apply pbA_ | apply pbN_ | apply pb1_) | exact HB.out)⟩
   ·rw [if_neg c6] at H
    exact absurd H (by simp)
  ·rw [if_neg c5] at H
   exact absurd H (by simp)
 ·replace c4 := Bool.eq_false_iff.mpr c4
  subst c4
  have H1 : (some (([] : List Int), 1)) = some (r1, r2) := by rw [if_neg (show ¬ (false = true) by decide)] at H; exact H
  clear H
  have H := H1
  clear H1
  simp only [Option.some.injEq, Prod.mk.injEq] at H
  obtain ⟨rfl, rfl⟩ := H
  go_enter Try.func12, Try.ntmps12
  go_wp2_with (first | ((with_reducible refine gaC_ (f := 15) rfl ?_); refine goesL_ (some 13) rfl rfl Try.func15 (by kernel_rfl) rfl #[.slice A1 l1.length c1] rfl (by (try simp only [List.map_toArray, List.map_cons, List.map_nil]); first | done | rfl | (simp only [List.length_drop, List.length_take]; rfl)) ?_; (with_reducible refine (ints_Formed.calls k _ _ l1 false _ ?side1 ?side2 A3.out).mono ?_); (case side1 => repeat (first | exact HR1.out | (with_reducible refine Kd.cA_ ?_ _) | (with_reducible refine Kd.cN_ ?_ _) | (with_reducible refine Kd.cD_ ?_))); (case side2 => exact HC1.out); rintro e w43 ⟨rfl, hb⟩; refine ⟨_, rfl, ?_⟩; have n0_ := Aside0.mk (below_step (by repeat (first | (with_reducible first | exact HB.out | apply pbA_ | apply pbN_ | apply pb1_) | exact HB.out)) hb); clear HB; have HB := n0_; clear n0_; (try clear hb); (try clear hb2); (try clear hk); (try clear hi)))
  go_ret2
  exact ⟨_, by first | rfl | (simp [eWn_, eWs_] <;> rfl) | (simp [*, eWn_, eWs_] <;> rfl), by first | exact Kd.R_nil _ _ _ _ _ | exact Kd.N_nil _ _ _ _ _ | exact Kd.V_nil _ _ _ _ _ | exact Kd.Q_nil _ _ _ _ _ | exact Kd.S_nil _ _ _ _ _, by repeat (first | (with_reducible first | exact HB.out | apply pbA_ | apply pbN_ | apply pb1_) | exact HB.out)⟩
end Go.Proofs.Ytcjkmmajokkkfaa.P
end
