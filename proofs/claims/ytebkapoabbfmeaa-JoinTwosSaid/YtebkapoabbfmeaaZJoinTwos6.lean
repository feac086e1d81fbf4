/- Words and proofs that JoinTwos leans on; put together by wip/tools/shake.py. -/
import Derived.Test.YtebkapoabbfmeaaZJoinTwos4
import Derived.Test.YtebkapoabbfmeaaZJoinTwos5
import Derived.ArgAppend
import Derived.Below
import Derived.BigQuiet
import Derived.Deep.AppendLies
import Derived.Deep.CutBlock
import Derived.Deep.DeepCutAuto
import Derived.Deep.Draws
import Derived.Deep.LoopGhost
import Derived.Deep.OwnRows
import Derived.Deep.QuietTactic
import Derived.Deep.RegionHeld3
import Derived.KernelRfl
import Derived.Laws.BitsLemmas
import Derived.Laws.BytesArg
import Derived.Laws.Cover1
import Derived.Laws.IdiomCopy
import Derived.Laws.MakeOwn
import Derived.Laws.OwnMore
import Derived.Laws.Rows
import Derived.Laws.Slices
import Derived.Laws.StructEq
import Derived.Lib.AppendStr
import Derived.Lib.BitFns
import Derived.Lib.ConvBytes
import Derived.Lib.Slices
import Derived.Lib.Small
import Derived.Lib.Strings
import Derived.Lib.Walk
import Derived.Maps.AppendAt
import Derived.OrdersHeld
import Derived.OwnWalk
import Derived.RangeFuncBox
import Derived.RowKit
import Derived.RowKit3
import Derived.ScopeJumps
import Derived.Shelf.Abstract
import Derived.Tactics
import Derived.Test.YtebkapoabbfmeaaProg
import Derived.WalkKit
import Derived.WalkMore
import Derived.WalkSpells
import Derived.WideLaws
section
namespace Go.Proofs.Ytebkapoabbfmeaa.P
open Go.RowKit Go.Proofs.YtebkapoabbfmeaaW.PrintWords Go.Proofs.YtebkapoabbfmeaaW.PrintLast Go.Proofs.YtebkapoabbfmeaaW.PrintMore
attribute [local go_sem] max2_int min2_int max_two min_two max_three min_three max_four min_four
set_option linter.unusedVariables false
set_option linter.unusedSimpArgs false
def join_Either.f (k : Nat) (l0 : List Int) (l1 : List Int) : Option (List Int × Int) := (join_merged.f k l0 l1 true true true).bind fun bt258 => (some (bt258.1, bt258.2))
theorem join_Either.mono : ∀ a0 a1 k, LeO (join_Either.f k a0 a1) (join_Either.f (k + 1) a0 a1) := by
 intro a0 a1 k
 unfold join_Either.f
 repeat' first
   | (with_reducible exact join_merged.mono _ _ _ _ _ _)
   | (with_reducible exact LeO.refl _)
   | (with_reducible exact LeO.none _)
   | (with_reducible refine LeO.ite ?_ ?_)
   | (with_reducible refine LeO.bind ?_ (fun _ => ?_))
   | exact join_merged.mono _ _ _ _ _ _
   | exact LeO.none _
   | refine LeO.ite ?_ ?_
   | refine LeO.bind ?_ (fun _ => ?_)
set_option maxHeartbeats 8000000 in
set_option maxRecDepth 100000 in
theorem join_Either.calls (k : Nat) (A0 : Option Addr) (c0 : Nat) (l0 : List Int) (A1 : Option Addr) (c1 : Nat) (l1 : List Int) (r1 : List Int) (r2 : Int) (w : World) (hr0 : Kd.C (Kd.int .i64) w A0 l0.length l0) (hc0 : l0.length ≤ c0) (hr1 : Kd.C (Kd.int .i64) w A1 l1.length l1) (hc1 : l1.length ≤ c1) (h : join_Either.f k l0 l1 = some (r1, r2)) :
  Calls Try.prog 17 #[.slice A0 l0.length c0, .slice A1 l1.length c1] w fun e w' => ∃ v0_ : Value, e = .returned (.tuple #[v0_, .int .i64 r2]) ∧ Kd.R (Kd.int .i64) 3 w' w.heap.size (fun _ => True) v0_ r1 ∧ Below w.heap.size w w' := by
 have HR0 := Aside0.mk hr0
 have HC0 := Aside0.mk hc0
 clear hr0 hc0
 have HR1 := Aside0.mk hr1
 have HC1 := Aside0.mk hc1
 clear hr1 hc1
 have HB := Aside0.mk (Below.refl w.heap.size w)
 have H : ((join_merged.f k l0 l1 true true true).bind fun bt258 => (some (bt258.1, bt258.2))) = some (r1, r2) := h
 clear h
 replace H := Option.bind_eq_some_iff.mp H
 obtain ⟨⟨t258, t259⟩, A30, H⟩ := H
 replace H : (some (t258, t259)) = some (r1, r2) := H
 have A3 := Aside0.mk A30
 clear A30
 simp only [Option.some.injEq, Prod.mk.injEq] at H
 obtain ⟨rfl, rfl⟩ := H
 go_enter Try.func17, Try.ntmps17
 go_wp2_with (first | ((with_reducible refine gaC_ (f := 33) rfl ?_); refine goesL_ (some 8) rfl rfl Try.func33 (by kernel_rfl) rfl #[.slice A0 l0.length c0, .slice A1 l1.length c1, .bool true, .bool true, .bool true] rfl (by (try simp only [List.map_toArray, List.map_cons, List.map_nil]); first | done | rfl | (simp only [List.length_drop, List.length_take]; rfl)) ?_; (with_reducible refine (join_merged.calls k _ _ l0 _ _ l1 true true true t258 t259 _ ?side1 ?side2 ?side3 ?side4 A3.out).mono ?_); (case side1 => repeat (first | exact HR0.out | (with_reducible refine Kd.cA_ ?_ _) | (with_reducible refine Kd.cN_ ?_ _) | (with_reducible refine Kd.cD_ ?_))); (case side2 => exact HC0.out); (case side3 => repeat (first | exact HR1.out | (with_reducible refine Kd.cA_ ?_ _) | (with_reducible refine Kd.cN_ ?_ _) | (with_reducible refine Kd.cD_ ?_))); (case side4 => exact HC1.out); rintro e w4 ⟨v260, rfl, ho0, hb⟩; refine ⟨_, rfl, ?_⟩; have n0_ := Aside0.mk (Kd.R_lower ho0 (pbS_ (by repeat (first | (with_reducible first | exact HB.out | apply pbA_ | apply pbN_ | apply pb1_) | exact HB.out)))); have n1_ := Aside0.mk (below_step (by repeat (first | (with_reducible first | exact HB.out | apply pbA_ | apply pbN_ | apply pb1_) | exact HB.out)) hb); clear HB; have HO261 := n0_; have HB := n1_; clear n0_ n1_; (try clear hb); (try clear hb2); (try clear hk); (try clear hi); (try clear ho0)))
 go_ret2
 exact ⟨_, by first | rfl | (simp [eWn_, eWs_] <;> rfl) | (simp [*, eWn_, eWs_] <;> rfl), by (with_reducible repeat (first | apply Kd.rA_ | apply Kd.rN_ | apply Kd.rD_)); exact HO261.out, by repeat (first | (with_reducible first | exact HB.out | apply pbA_ | apply pbN_ | apply pb1_) | exact HB.out)⟩
def join_Without.f (k : Nat) (l0 : List Int) (l1 : List Int) : Option (List Int × Int) := (join_merged.f k l0 l1 true false false).bind fun bt262 => (some (bt262.1, bt262.2))
theorem join_Without.mono : ∀ a0 a1 k, LeO (join_Without.f k a0 a1) (join_Without.f (k + 1) a0 a1) := by
 intro a0 a1 k
 unfold join_Without.f
 repeat' first
   | (with_reducible exact join_merged.mono _ _ _ _ _ _)
   | (with_reducible exact LeO.refl _)
   | (with_reducible exact LeO.none _)
   | (with_reducible refine LeO.ite ?_ ?_)
   | (with_reducible refine LeO.bind ?_ (fun _ => ?_))
   | exact join_merged.mono _ _ _ _ _ _
   | exact LeO.none _
   | refine LeO.ite ?_ ?_
   | refine LeO.bind ?_ (fun _ => ?_)
set_option maxHeartbeats 8000000 in
set_option maxRecDepth 100000 in
theorem join_Without.calls (k : Nat) (A0 : Option Addr) (c0 : Nat) (l0 : List Int) (A1 : Option Addr) (c1 : Nat) (l1 : List Int) (r1 : List Int) (r2 : Int) (w : World) (hr0 : Kd.C (Kd.int .i64) w A0 l0.length l0) (hc0 : l0.length ≤ c0) (hr1 : Kd.C (Kd.int .i64) w A1 l1.length l1) (hc1 : l1.length ≤ c1) (h : join_Without.f k l0 l1 = some (r1, r2)) :
  Calls Try.prog 18 #[.slice A0 l0.length c0, .slice A1 l1.length c1] w fun e w' => ∃ v0_ : Value, e = .returned (.tuple #[v0_, .int .i64 r2]) ∧ Kd.R (Kd.int .i64) 3 w' w.heap.size (fun _ => True) v0_ r1 ∧ Below w.heap.size w w' := by
 have HR0 := Aside0.mk hr0
 have HC0 := Aside0.mk hc0
 clear hr0 hc0
 have HR1 := Aside0.mk hr1
 have HC1 := Aside0.mk hc1
 clear hr1 hc1
 have HB := Aside0.mk (Below.refl w.heap.size w)
 have H : ((join_merged.f k l0 l1 true false false).bind fun bt262 => (some (bt262.1, bt262.2))) = some (r1, r2) := h
 clear h
 replace H := Option.bind_eq_some_iff.mp H
 obtain ⟨⟨t262, t263⟩, A30, H⟩ := H
 replace H : (some (t262, t263)) = some (r1, r2) := H
 have A3 := Aside0.mk A30
 clear A30
 simp only [Option.some.injEq, Prod.mk.injEq] at H
 obtain ⟨rfl, rfl⟩ := H
 go_enter Try.func18, Try.ntmps18
 go_wp2_with (first | ((with_reducible refine gaC_ (f := 33) rfl ?_); refine goesL_ (some 8) rfl rfl Try.func33 (by kernel_rfl) rfl #[.slice A0 l0.length c0, .slice A1 l1.length c1, .bool true, .bool false, .bool false] rfl (by (try simp only [List.map_toArray, List.map_cons, List.map_nil]); first | done | rfl | (simp only [List.length_drop, List.length_take]; rfl)) ?_; (with_reducible refine (join_merged.calls k _ _ l0 _ _ l1 true false false t262 t263 _ ?side1 ?side2 ?side3 ?side4 A3.out).mono ?_); (case side1 => repeat (first | exact HR0.out | (with_reducible refine Kd.cA_ ?_ _) | (with_reducible refine Kd.cN_ ?_ _) | (with_reducible refine Kd.cD_ ?_))); (case side2 => exact HC0.out); (case side3 => repeat (first | exact HR1.out | (with_reducible refine Kd.cA_ ?_ _) | (with_reducible refine Kd.cN_ ?_ _) | (with_reducible refine Kd.cD_ ?_))); (case side4 => exact HC1.out); rintro e w4 ⟨v264, rfl, ho0, hb⟩; refine ⟨_, rfl, ?_⟩; have n0_ := Aside0.mk (Kd.R_lower ho0 (pbS_ (by repeat (first | (with_reducible first | exact HB.out | apply pbA_ | apply pbN_ | apply pb1_) | exact HB.out)))); have n1_ := Aside0.mk (below_step (by repeat (first | (with_reducible first | exact HB.out | apply pbA_ | apply pbN_ | apply pb1_) | exact HB.out)) hb); clear HB; have HO265 := n0_; have HB := n1_; clear n0_ n1_; (try clear hb); (try clear hb2); (try clear hk); (try clear hi); (try clear ho0)))
 go_ret2
 exact ⟨_, by first | rfl | (simp [eWn_, eWs_] <;> rfl) | (simp [*, eWn_, eWs_] <;> rfl), by (with_reducible repeat (first | apply Kd.rA_ | apply Kd.rN_ | apply Kd.rD_)); exact HO265.out, by repeat (first | (with_reducible first | exact HB.out | apply pbA_ | apply pbN_ | apply pb1_) | exact HB.out)⟩
def dragnetref14_Rises.l0 : Nat → List Int → Int → Option (Bool)
 | 0, _, _ => none
 | k + 1, x0, x3 => if x3 < (x0.length : Int) then (if 0 ≤ x3 then (if (rd x0 x3) < 0 then (some false) else (if (rd x0 x3) > 4095 then (some false) else (if x3 > 0 then (if 0 ≤ (wrap64 (x3 - 1)) then (if (wrap64 (x3 - 1)) < (x0.length : Int) then (if (rd x0 (wrap64 (x3 - 1))) ≥ (rd x0 x3) then (some false) else (dragnetref14_Rises.l0 k x0 (wrap64 (x3 + 1)))) else (none)) else (none)) else (dragnetref14_Rises.l0 k x0 (wrap64 (x3 + 1)))))) else (none)) else (some true)
def dragnetref14_Rises.f (k : Nat) (l0 : List Int) : Option (Bool) := dragnetref14_Rises.l0 k l0 0
theorem dragnetref14_Rises.mono_l : ∀ k, (∀ y0 y1, LeO (dragnetref14_Rises.l0 k y0 y1) (dragnetref14_Rises.l0 (k + 1) y0 y1))
 | 0 => fun _ _ r h => by simp [dragnetref14_Rises.l0] at h
 | k + 1 => by
  have ih0 := dragnetref14_Rises.mono_l k
  ·intro y0 y1
   unfold dragnetref14_Rises.l0
   repeat' first
   | (with_reducible exact ih0 _ _)
   | (with_reducible exact LeO.refl _)
   | (with_reducible exact LeO.none _)
   | (with_reducible refine LeO.ite ?_ ?_)
   | (with_reducible refine LeO.bind ?_ (fun _ => ?_))
   | exact ih0 _ _
   | exact LeO.none _
   | refine LeO.ite ?_ ?_
   | refine LeO.bind ?_ (fun _ => ?_)
theorem dragnetref14_Rises.mono : ∀ a0 k, LeO (dragnetref14_Rises.f k a0) (dragnetref14_Rises.f (k + 1) a0) := by
 intro a0 k
 have ih0 := dragnetref14_Rises.mono_l k
 unfold dragnetref14_Rises.f
 repeat' first
   | (with_reducible exact ih0 _ _)
   | (with_reducible exact LeO.refl _)
   | (with_reducible exact LeO.none _)
   | (with_reducible refine LeO.ite ?_ ?_)
   | (with_reducible refine LeO.bind ?_ (fun _ => ?_))
   | exact ih0 _ _
   | exact LeO.none _
   | refine LeO.ite ?_ ?_
   | refine LeO.bind ?_ (fun _ => ?_)
set_option maxHeartbeats 8000000 in
set_option maxRecDepth 100000 in
theorem dragnetref14_Rises.calls (k : Nat) (A0 : Option Addr) (c0 : Nat) (l0 : List Int) (r : Bool) (w : World) (hr0 : Kd.C (Kd.int .i64) w A0 l0.length l0) (hc0 : l0.length ≤ c0) (h : dragnetref14_Rises.f k l0 = some r) :
  Calls Try.prog 21 #[.slice A0 l0.length c0] w fun e w' => e = .returned (.bool r) ∧ Drawn0 w w' := by
 have HR0 := Aside0.mk hr0
 have HC0 := Aside0.mk hc0
 clear hr0 hc0
 have H : (dragnetref14_Rises.l0 k l0 0) = some r := h
 clear h
 have H' := Aside0.mk H
 clear H
 go_enter Try.func21, Try.ntmps21
 go_wp2
 repeat (go_quiet (fail); try go_wp2)
 go_loopg [3] k (fun kq v3 w' => ∃ (x3_1 : Int), v3 = .int .i64 x3_1 ∧ Aside0 (dragnetref14_Rises.l0 kq l0 x3_1 = some r) ∧ Aside0 (kq ≤ k) ∧ Drawn0 w w')
 case atStart => exact ⟨(0), (by first | rfl | (simp; done) | (simp [*]; done)), H', ⟨Nat.le_refl _⟩, by repeat (first | exact Drawn0.refl _ | apply Drawn0.step)⟩
 case round =>
  clear H'
  obtain ⟨x3_1, rfl, HA, HK1, ⟨m1, rfl⟩⟩ := hrel
  cases gk with
  | zero => exact absurd HA.out (by simp [dragnetref14_Rises.l0])
  | succ k1 =>
   have H := HA.out
   clear HA
   simp only [dragnetref14_Rises.l0] at H
   by_cases c2 : x3_1 < (l0.length : Int)
   ·rw [if_pos c2] at H
    have c2b0 : decide (x3_1 < (l0.length : Int)) = true := decide_eq_true c2
    clear c2
    by_cases c3 : 0 ≤ x3_1
    ·rw [if_pos c3] at H
     have c3b0 : decide (0 ≤ x3_1) = true := decide_eq_true c3
     clear c3
     by_cases c4 : (rd l0 x3_1) < 0
     ·rw [if_pos c4] at H
      have c4b0 : decide ((rd l0 x3_1) < 0) = true := decide_eq_true c4
      clear c4
      obtain rfl := Option.some.inj H
      have p266 : 0 ≤ (x3_1 : Int) := of_decide_eq_true (by first | (with_reducible assumption) | assumption)
      have q266 : x3_1 < (l0.length : Int) := of_decide_eq_true (by first | (with_reducible assumption) | assumption)
      obtain ⟨ad266, e266, hx266_0⟩ := Kd.at_int HR0.out x3_1 p266 q266
      cases e266
      replace p266 := eq_true p266
      replace q266 := eq_true q266
      go_wp2
      repeat (go_quiet (fail); try go_wp2)
      go_ret
      exact ⟨by first | rfl | (simp; done) | (simp [*]; done), by repeat (first | exact Drawn0.refl _ | apply Drawn0.step)⟩
     ·rw [if_neg c4] at H
      have c4b0 : decide ((rd l0 x3_1) < 0) = false := decide_eq_false c4
      clear c4
      by_cases c5 : (rd l0 x3_1) > 4095
      ·rw [if_pos c5] at H
       have c5b0 : decide (4095 < (rd l0 x3_1)) = true := decide_eq_true c5
       clear c5
       obtain rfl := Option.some.inj H
       have p266 : 0 ≤ (x3_1 : Int) := of_decide_eq_true (by first | (with_reducible assumption) | assumption)
       have q266 : x3_1 < (l0.length : Int) := of_decide_eq_true (by first | (with_reducible assumption) | assumption)
       obtain ⟨ad266, e266, hx266_0⟩ := Kd.at_int HR0.out x3_1 p266 q266
       cases e266
       replace p266 := eq_true p266
       replace q266 := eq_true q266
       have p267 : 0 ≤ (x3_1 : Int) := of_decide_eq_true (by first | (with_reducible assumption) | assumption)
       have q267 : x3_1 < (l0.length : Int) := of_decide_eq_true (by first | (with_reducible assumption) | assumption)
       obtain ⟨ad267, e267, hx267_0⟩ := Kd.at_int HR0.out x3_1 p267 q267
       obtain rfl : ad266 = ad267 := (by injection e267)
       replace p267 := eq_true p267
       replace q267 := eq_true q267
       go_wp2
       repeat (go_quiet (fail); try go_wp2)
       go_ret
       exact ⟨by first | rfl | (simp; done) | (simp [*]; done), by repeat (first | exact Drawn0.refl _ | apply Drawn0.step)⟩
      ·rw [if_neg c5] at H
       have c5b0 : decide (4095 < (rd l0 x3_1)) = false := decide_eq_false c5
       clear c5
       by_cases c6 : x3_1 > 0
       ·rw [if_pos c6] at H
        have c6b0 : decide (0 < x3_1) = true := decide_eq_true c6
        clear c6
        obtain ⟨ji7, hji7⟩ : ∃ j_ : Int, (wrap64 (x3_1 - 1)) = j_ := ⟨_, rfl⟩
        replace H : (if 0 ≤ (ji7) then (if (ji7) < (l0.length : Int) then (if (rd l0 (ji7)) ≥ (rd l0 x3_1) then (some false) else (dragnetref14_Rises.l0 k1 l0 (wrap64 (x3_1 + 1)))) else (none)) else (none)) = some r := by first | (rw [hji7] at H; exact H) | (simp only [hji7] at H ⊢; exact H)
        have hji7w : (IntKind.i64.wrap (x3_1 - 1)) = ji7 := (i64_w _).trans hji7
        by_cases c8 : 0 ≤ (ji7)
        ·rw [if_pos c8] at H
         have c8b0 : decide (0 ≤ (ji7)) = true := decide_eq_true c8
         clear c8
         by_cases c9 : (ji7) < (l0.length : Int)
         ·rw [if_pos c9] at H
          have c9b0 : decide ((ji7) < (l0.length : Int)) = true := decide_eq_true c9
          clear c9
          by_cases c10 : (rd l0 (ji7)) ≥ (rd l0 x3_1)
          ·rw [if_pos c10] at H
           have c10b0 : decide ((rd l0 x3_1) ≤ (rd l0 (ji7))) = true := decide_eq_true c10
           clear c10
           obtain rfl := Option.some.inj H
           have p266 : 0 ≤ (x3_1 : Int) := of_decide_eq_true (by first | (with_reducible assumption) | assumption)
           have q266 : x3_1 < (l0.length : Int) := of_decide_eq_true (by first | (with_reducible assumption) | assumption)
           obtain ⟨ad266, e266, hx266_0⟩ := Kd.at_int HR0.out x3_1 p266 q266
           cases e266
           replace p266 := eq_true p266
           replace q266 := eq_true q266
           have p267 : 0 ≤ (x3_1 : Int) := of_decide_eq_true (by first | (with_reducible assumption) | assumption)
           have q267 : x3_1 < (l0.length : Int) := of_decide_eq_true (by first | (with_reducible assumption) | assumption)
           obtain ⟨ad267, e267, hx267_0⟩ := Kd.at_int HR0.out x3_1 p267 q267
           obtain rfl : ad266 = ad267 := (by injection e267)
           replace p267 := eq_true p267
           replace q267 := eq_true q267
           have p268 : 0 ≤ ((ji7) : Int) := of_decide_eq_true (by first | (with_reducible assumption) | assumption)
           have q268 : (ji7) < (l0.length : Int) := of_decide_eq_true (by first | (with_reducible assumption) | assumption)
           obtain ⟨ad268, e268, hx268_0⟩ := Kd.at_int HR0.out (ji7) p268 q268
           obtain rfl : ad266 = ad268 := (by injection e268)
           replace p268 := eq_true p268
           replace q268 := eq_true q268
           have p269 : 0 ≤ (x3_1 : Int) := of_decide_eq_true (by first | (with_reducible assumption) | assumption)
           have q269 : x3_1 < (l0.length : Int) := of_decide_eq_true (by first | (with_reducible assumption) | assumption)
           obtain ⟨ad269, e269, hx269_0⟩ := Kd.at_int HR0.out x3_1 p269 q269
           obtain rfl : ad266 = ad269 := (by injection e269)
           replace p269 := eq_true p269
           replace q269 := eq_true q269
           go_wp2
           repeat (go_quiet (fail); try go_wp2)
           go_ret
           exact ⟨by first | rfl | (simp; done) | (simp only [← hji7] <;> (first | rfl | simp)) | (simp [*]; done), by repeat (first | exact Drawn0.refl _ | apply Drawn0.step)⟩
          ·rw [if_neg c10] at H
           have c10b0 : decide ((rd l0 x3_1) ≤ (rd l0 (ji7))) = false := decide_eq_false c10
           clear c10
           have H' := Aside0.mk H
           clear H
           have p266 : 0 ≤ (x3_1 : Int) := of_decide_eq_true (by first | (with_reducible assumption) | assumption)
           have q266 : x3_1 < (l0.length : Int) := of_decide_eq_true (by first | (with_reducible assumption) | assumption)
           obtain ⟨ad266, e266, hx266_0⟩ := Kd.at_int HR0.out x3_1 p266 q266
           cases e266
           replace p266 := eq_true p266
           replace q266 := eq_true q266
           have p267 : 0 ≤ (x3_1 : Int) := of_decide_eq_true (by first | (with_reducible assumption) | assumption)
           have q267 : x3_1 < (l0.length : Int) := of_decide_eq_true (by first | (with_reducible assumption) | assumption)
           obtain ⟨ad267, e267, hx267_0⟩ := Kd.at_int HR0.out x3_1 p267 q267
           obtain rfl : ad266 = ad267 := (by injection e267)
           replace p267 := eq_true p267
           replace q267 := eq_true q267
           have p268 : 0 ≤ ((ji7) : Int) := of_decide_eq_true (by first | (with_reducible assumption) | assumption)
           have q268 : (ji7) < (l0.length : Int) := of_decide_eq_true (by first | (with_reducible assumption) | assumption)
           obtain ⟨ad268, e268, hx268_0⟩ := Kd.at_int HR0.out (ji7) p268 q268
           obtain rfl : ad266 = ad268 := (by injection e268)
           replace p268 := eq_true p268
           replace q268 := eq_true q268
           have p269 : 0 ≤ (x3_1 : Int) := of_decide_eq_true (by first | (with_reducible assumption) | assumption)
           have q269 : x3_1 < (l0.length : Int) := of_decide_eq_true (by first | (with_reducible assumption) | assumption)
           obtain ⟨ad269, e269, hx269_0⟩ := Kd.at_int HR0.out x3_1 p269 q269
           obtain rfl : ad266 = ad269 := (by injection e269)
           replace p269 := eq_true p269
           replace q269 := eq_true q269
           go_wp2
           repeat (go_quiet (fail); try go_wp2)
           (try subst hji7)
           go_roundg k1
           case measure => have := HK1.out; omega
           case rel => exact ⟨(wrap64 (x3_1 + 1)), (by first | rfl | (simp; done) | (simp [*]; done)), H', ⟨by have := HK1.out; omega⟩, by repeat (first | exact Drawn0.refl _ | apply Drawn0.step)⟩
         ·rw [if_neg c9] at H
          exact absurd H (by simp)
        ·rw [if_neg c8] at H
         exact absurd H (by simp)
       ·rw [if_neg c6] at H
        have c6b0 : decide (0 < x3_1) = false := decide_eq_false c6
        clear c6
        have H' := Aside0.mk H
        clear H
        have p266 : 0 ≤ (x3_1 : Int) := of_decide_eq_true (by first | (with_reducible assumption) | assumption)
        have q266 : x3_1 < (l0.length : Int) := of_decide_eq_true (by first | (with_reducible assumption) | assumption)
        obtain ⟨ad266, e266, hx266_0⟩ := Kd.at_int HR0.out x3_1 p266 q266
        cases e266
        replace p266 := eq_true p266
        replace q266 := eq_true q266
        have p267 : 0 ≤ (x3_1 : Int) := of_decide_eq_true (by first | (with_reducible assumption) | assumption)
        have q267 : x3_1 < (l0.length : Int) := of_decide_eq_true (by first | (with_reducible assumption) | assumption)
        obtain ⟨ad267, e267, hx267_0⟩ := Kd.at_int HR0.out x3_1 p267 q267
        obtain rfl : ad266 = ad267 := (by injection e267)
        replace p267 := eq_true p267
        replace q267 := eq_true q267
        go_wp2
        repeat (go_quiet (fail); try go_wp2)
        go_roundg k1
        case measure => have := HK1.out; omega
        case rel => exact ⟨(wrap64 (x3_1 + 1)), (by first | rfl | (simp; done) | (simp [*]; done)), H', ⟨by have := HK1.out; omega⟩, by repeat (first | exact Drawn0.refl _ | apply Drawn0.step)⟩
    ·rw [if_neg c3] at H
     exact absurd H (by simp)
   ·rw [if_neg c2] at H
    have c2b0 : decide (x3_1 < (l0.length : Int)) = false := decide_eq_false c2
    clear c2
    obtain rfl := Option.some.inj H
    go_wp2
    repeat (go_quiet (fail); try go_wp2)
    go_ret
    exact ⟨by first | rfl | (simp; done) | (simp [*]; done), by repeat (first | exact Drawn0.refl _ | apply Drawn0.step)⟩
end Go.Proofs.Ytebkapoabbfmeaa.P
end
section
namespace Go.Proofs.Ytebkapoabbfmeaa.P
open Go.RowKit Go.Proofs.YtebkapoabbfmeaaW.PrintWords Go.Proofs.YtebkapoabbfmeaaW.PrintLast Go.Proofs.YtebkapoabbfmeaaW.PrintMore
attribute [local go_sem] max2_int min2_int max_two min_two max_three min_three max_four min_four
set_option linter.unusedVariables false
set_option linter.unusedSimpArgs false
mutual
def dragnetref14_Join.j0 : Nat → Int → List Int → List Int → Bool → Option (List Int × Int)
 | 0, _, _, _, _ => none
 | k + 1, x0, x1, x2, x19 => if x19 = true then (some (([] : List Int), 1)) else (dragnetref14_Join.l0 k x0 x1 x2 ([] : List Int) 0)
def dragnetref14_Join.l0 : Nat → Int → List Int → List Int → List Int → Int → Option (List Int × Int)
 | 0, _, _, _, _, _ => none
 | k + 1, x0, x1, x2, x8, x9 => if x9 ≤ 4095 then (dragnetref14_Join.j2 k x0 x1 x2 x8 x9 (decide ((wrap64 ((x1.length : Int) + (x2.length : Int))) > 0))) else (dragnetref14_Join.j2 k x0 x1 x2 x8 x9 false)
def dragnetref14_Join.j2 : Nat → Int → List Int → List Int → List Int → Int → Bool → Option (List Int × Int)
 | 0, _, _, _, _, _, _ => none
 | k + 1, x0, x1, x2, x8, x9, x29 => if x29 = true then (if (x1.length : Int) > 0 then (if 0 < (x1.length : Int) then (if (x2.length : Int) > 0 then (if 0 < (x2.length : Int) then (dragnetref14_Join.j3 k x0 x1 x2 x8 x9 ((rd x1 0) == x9) ((rd x2 0) == x9)) else (none)) else (dragnetref14_Join.j3 k x0 x1 x2 x8 x9 ((rd x1 0) == x9) false)) else (none)) else (if (x2.length : Int) > 0 then (if 0 < (x2.length : Int) then (dragnetref14_Join.j3 k x0 x1 x2 x8 x9 false ((rd x2 0) == x9)) else (none)) else (dragnetref14_Join.j3 k x0 x1 x2 x8 x9 false false))) else (some (x8, 0))
def dragnetref14_Join.j3 : Nat → Int → List Int → List Int → List Int → Int → Bool → Bool → Option (List Int × Int)
 | 0, _, _, _, _, _, _, _ => none
 | k + 1, x0, x1, x2, x8, x9, x10, x11 => if x10 = true then (if 1 ≤ (x1.length : Int) then (dragnetref14_Join.j4 k x0 (x1.drop 1) x2 x8 x9 x10 x11) else (none)) else (dragnetref14_Join.j4 k x0 x1 x2 x8 x9 x10 x11)
def dragnetref14_Join.j4 : Nat → Int → List Int → List Int → List Int → Int → Bool → Bool → Option (List Int × Int)
 | 0, _, _, _, _, _, _, _ => none
 | k + 1, x0, x1, x2, x8, x9, x10, x11 => if x11 = true then (if 1 ≤ (x2.length : Int) then ((some (x2.drop 1 : List Int)).bind fun y280 => (if x0 = 0 then (if x10 = true then (if x8.length < 17592186044416 then (dragnetref14_Join.l0 k x0 x1 y280 (x8 ++ [x9]) (wrap64 (x9 + 1))) else (none)) else (if x0 = 1 then (if x8.length < 17592186044416 then (dragnetref14_Join.l0 k x0 x1 y280 (x8 ++ [x9]) (wrap64 (x9 + 1))) else (none)) else (if x0 = 2 then (dragnetref14_Join.l0 k x0 x1 y280 x8 (wrap64 (x9 + 1))) else (dragnetref14_Join.l0 k x0 x1 y280 x8 (wrap64 (x9 + 1)))))) else (if x0 = 1 then (if x10 = true then (if x8.length < 17592186044416 then (dragnetref14_Join.l0 k x0 x1 y280 (x8 ++ [x9]) (wrap64 (x9 + 1))) else (none)) else (if x8.length < 17592186044416 then (dragnetref14_Join.l0 k x0 x1 y280 (x8 ++ [x9]) (wrap64 (x9 + 1))) else (none))) else (if x0 = 2 then (if x10 = true then (dragnetref14_Join.l0 k x0 x1 y280 x8 (wrap64 (x9 + 1))) else (dragnetref14_Join.l0 k x0 x1 y280 x8 (wrap64 (x9 + 1)))) else (dragnetref14_Join.l0 k x0 x1 y280 x8 (wrap64 (x9 + 1))))))) else (none)) else (if x0 = 0 then (if x10 = true then (if x0 = 1 then (if x8.length < 17592186044416 then (dragnetref14_Join.l0 k x0 x1 x2 (x8 ++ [x9]) (wrap64 (x9 + 1))) else (none)) else (if x0 = 2 then (if x8.length < 17592186044416 then (dragnetref14_Join.l0 k x0 x1 x2 (x8 ++ [x9]) (wrap64 (x9 + 1))) else (none)) else (dragnetref14_Join.l0 k x0 x1 x2 x8 (wrap64 (x9 + 1))))) else (if x0 = 1 then (if x0 = 2 then (dragnetref14_Join.l0 k x0 x1 x2 x8 (wrap64 (x9 + 1))) else (dragnetref14_Join.l0 k x0 x1 x2 x8 (wrap64 (x9 + 1)))) else (if x0 = 2 then (dragnetref14_Join.l0 k x0 x1 x2 x8 (wrap64 (x9 + 1))) else (dragnetref14_Join.l0 k x0 x1 x2 x8 (wrap64 (x9 + 1)))))) else (if x0 = 1 then (if x10 = true then (if x8.length < 17592186044416 then (dragnetref14_Join.l0 k x0 x1 x2 (x8 ++ [x9]) (wrap64 (x9 + 1))) else (none)) else (if x0 = 2 then (dragnetref14_Join.l0 k x0 x1 x2 x8 (wrap64 (x9 + 1))) else (dragnetref14_Join.l0 k x0 x1 x2 x8 (wrap64 (x9 + 1))))) else (if x0 = 2 then (if x10 = true then (if x8.length < 17592186044416 then (dragnetref14_Join.l0 k x0 x1 x2 (x8 ++ [x9]) (wrap64 (x9 + 1))) else (none)) else (dragnetref14_Join.l0 k x0 x1 x2 x8 (wrap64 (x9 + 1)))) else (dragnetref14_Join.l0 k x0 x1 x2 x8 (wrap64 (x9 + 1))))))
end
def dragnetref14_Join.f (k : Nat) (a0 : Int) (l1 : List Int) (l2 : List Int) : Option (List Int × Int) := (dragnetref14_Rises.f k l1).bind fun t270 => (if t270 = true then ((dragnetref14_Rises.f k l2).bind fun t271 => (dragnetref14_Join.j0 k a0 l1 l2 (!t271))) else (dragnetref14_Join.j0 k a0 l1 l2 true))
theorem dragnetref14_Join.mono_l : ∀ k, (∀ y0 y1 y2 y3, LeO (dragnetref14_Join.j0 k y0 y1 y2 y3) (dragnetref14_Join.j0 (k + 1) y0 y1 y2 y3)) ∧ (∀ y0 y1 y2 y3 y4, LeO (dragnetref14_Join.l0 k y0 y1 y2 y3 y4) (dragnetref14_Join.l0 (k + 1) y0 y1 y2 y3 y4)) ∧ (∀ y0 y1 y2 y3 y4 y5, LeO (dragnetref14_Join.j2 k y0 y1 y2 y3 y4 y5) (dragnetref14_Join.j2 (k + 1) y0 y1 y2 y3 y4 y5)) ∧ (∀ y0 y1 y2 y3 y4 y5 y6, LeO (dragnetref14_Join.j3 k y0 y1 y2 y3 y4 y5 y6) (dragnetref14_Join.j3 (k + 1) y0 y1 y2 y3 y4 y5 y6)) ∧ (∀ y0 y1 y2 y3 y4 y5 y6, LeO (dragnetref14_Join.j4 k y0 y1 y2 y3 y4 y5 y6) (dragnetref14_Join.j4 (k + 1) y0 y1 y2 y3 y4 y5 y6))
 | 0 => ⟨fun _ _ _ _ r h => by simp [dragnetref14_Join.j0] at h, fun _ _ _ _ _ r h => by simp [dragnetref14_Join.l0] at h, fun _ _ _ _ _ _ r h => by simp [dragnetref14_Join.j2] at h, fun _ _ _ _ _ _ _ r h => by simp [dragnetref14_Join.j3] at h, fun _ _ _ _ _ _ _ r h => by simp [dragnetref14_Join.j4] at h⟩
 | k + 1 => by
  obtain ⟨ih0, ih1, ih2, ih3, ih4⟩ := dragnetref14_Join.mono_l k
  refine ⟨?_, ?_, ?_, ?_, ?_⟩
  ·intro y0 y1 y2 y3
   unfold dragnetref14_Join.j0
   repeat' first
   | (with_reducible exact ih0 _ _ _ _)
   | (with_reducible exact ih1 _ _ _ _ _)
   | (with_reducible exact ih2 _ _ _ _ _ _)
   | (with_reducible exact ih3 _ _ _ _ _ _ _)
   | (with_reducible exact ih4 _ _ _ _ _ _ _)
   | (with_reducible exact dragnetref14_Rises.mono _ _)
   | (with_reducible exact LeO.refl _)
   | (with_reducible exact LeO.none _)
   | (with_reducible refine LeO.ite ?_ ?_)
   | (with_reducible refine LeO.bind ?_ (fun _ => ?_))
   | exact ih0 _ _ _ _
   | exact ih1 _ _ _ _ _
   | exact ih2 _ _ _ _ _ _
   | exact ih3 _ _ _ _ _ _ _
   | exact ih4 _ _ _ _ _ _ _
   | exact dragnetref14_Rises.mono _ _
   | exact LeO.none _
   | refine LeO.ite ?_ ?_
   | refine LeO.bind ?_ (fun _ => ?_)
  ·intro y0 y1 y2 y3 y4
   unfold dragnetref14_Join.l0
   repeat' first
   | (with_reducible exact ih0 _ _ _ _)
   | (with_reducible exact ih1 _ _ _ _ _)
   | (with_reducible exact ih2 _ _ _ _ _ _)
   | (with_reducible exact ih3 _ _ _ _ _ _ _)
   | (with_reducible exact ih4 _ _ _ _ _ _ _)
   | (with_reducible exact dragnetref14_Rises.mono _ _)
   | (with_reducible exact LeO.refl _)
   | (with_reducible exact LeO.none _)
   | (with_reducible refine LeO.ite ?_ ?_)
   | (with_reducible refine LeO.bind ?_ (fun _ => ?_))
   | exact ih0 _ _ _ _
   | exact ih1 _ _ _ _ _
   | exact ih2 _ _ _ _ _ _
   | exact ih3 _ _ _ _ _ _ _
   | exact ih4 _ _ _ _ _ _ _
   | exact dragnetref14_Rises.mono _ _
   | exact LeO.none _
   | refine LeO.ite ?_ ?_
   | refine LeO.bind ?_ (fun _ => ?_)
  ·intro y0 y1 y2 y3 y4 y5
   unfold dragnetref14_Join.j2
   repeat' first
   | (with_reducible exact ih0 _ _ _ _)
   | (with_reducible exact ih1 _ _ _ _ _)
   | (with_reducible exact ih2 _ _ _ _ _ _)
   | (with_reducible exact ih3 _ _ _ _ _ _ _)
   | (with_reducible exact ih4 _ _ _ _ _ _ _)
   | (with_reducible exact dragnetref14_Rises.mono _ _)
   | (with_reducible exact LeO.refl _)
   | (with_reducible exact LeO.none _)
   | (with_reducible refine LeO.ite ?_ ?_)
   | (with_reducible refine LeO.bind ?_ (fun _ => ?_))
   | exact ih0 _ _ _ _
   | exact ih1 _ _ _ _ _
   | exact ih2 _ _ _ _ _ _
   | exact ih3 _ _ _ _ _ _ _
   | exact ih4 _ _ _ _ _ _ _
   | exact dragnetref14_Rises.mono _ _
   | exact LeO.none _
   | refine LeO.ite ?_ ?_
   | refine LeO.bind ?_ (fun _ => ?_)
  ·intro y0 y1 y2 y3 y4 y5 y6
   unfold dragnetref14_Join.j3
   repeat' first
   | (with_reducible exact ih0 _ _ _ _)
   | (with_reducible exact ih1 _ _ _ _ _)
   | (with_reducible exact ih2 _ _ _ _ _ _)
   | (with_reducible exact ih3 _ _ _ _ _ _ _)
   | (with_reducible exact ih4 _ _ _ _ _ _ _)
   | (with_reducible exact dragnetref14_Rises.mono _ _)
   | (with_reducible exact LeO.refl _)
   | (with_reducible exact LeO.none _)
   | (with_reducible refine LeO.ite ?_ ?_)
   | (with_reducible refine LeO.bind ?_ (fun _ => ?_))
   | exact ih0 _ _ _ _
   | exact ih1 _ _ _ _ _
   | exact ih2 _ _ _ _ _ _
   | exact ih3 _ _ _ _ _ _ _
   | exact ih4 _ _ _ _ _ _ _
   | exact dragnetref14_Rises.mono _ _
   | exact LeO.none _
   | refine LeO.ite ?_ ?_
   | refine LeO.bind ?_ (fun _ => ?_)
  ·intro y0 y1 y2 y3 y4 y5 y6
   unfold dragnetref14_Join.j4
   repeat' first
   | (with_reducible exact ih0 _ _ _ _)
   | (with_reducible exact ih1 _ _ _ _ _)
   | (with_reducible exact ih2 _ _ _ _ _ _)
   | (with_reducible exact ih3 _ _ _ _ _ _ _)
   | (with_reducible exact ih4 _ _ _ _ _ _ _)
   | (with_reducible exact dragnetref14_Rises.mono _ _)
   | (with_reducible exact LeO.refl _)
   | (with_reducible exact LeO.none _)
   | (with_reducible refine LeO.ite ?_ ?_)
   | (with_reducible refine LeO.bind ?_ (fun _ => ?_))
   | exact ih0 _ _ _ _
   | exact ih1 _ _ _ _ _
   | exact ih2 _ _ _ _ _ _
   | exact ih3 _ _ _ _ _ _ _
   | exact ih4 _ _ _ _ _ _ _
   | exact dragnetref14_Rises.mono _ _
   | exact LeO.none _
   | refine LeO.ite ?_ ?_
   | refine LeO.bind ?_ (fun _ => ?_)
theorem dragnetref14_Join.mono : ∀ a0 a1 a2 k, LeO (dragnetref14_Join.f k a0 a1 a2) (dragnetref14_Join.f (k + 1) a0 a1 a2) := by
 intro a0 a1 a2 k
 obtain ⟨ih0, ih1, ih2, ih3, ih4⟩ := dragnetref14_Join.mono_l k
 unfold dragnetref14_Join.f
 repeat' first
   | (with_reducible exact ih0 _ _ _ _)
   | (with_reducible exact ih1 _ _ _ _ _)
   | (with_reducible exact ih2 _ _ _ _ _ _)
   | (with_reducible exact ih3 _ _ _ _ _ _ _)
   | (with_reducible exact ih4 _ _ _ _ _ _ _)
   | (with_reducible exact dragnetref14_Rises.mono _ _)
   | (with_reducible exact LeO.refl _)
   | (with_reducible exact LeO.none _)
   | (with_reducible refine LeO.ite ?_ ?_)
   | (with_reducible refine LeO.bind ?_ (fun _ => ?_))
   | exact ih0 _ _ _ _
   | exact ih1 _ _ _ _ _
   | exact ih2 _ _ _ _ _ _
   | exact ih3 _ _ _ _ _ _ _
   | exact ih4 _ _ _ _ _ _ _
   | exact dragnetref14_Rises.mono _ _
   | exact LeO.none _
   | refine LeO.ite ?_ ?_
   | refine LeO.bind ?_ (fun _ => ?_)
set_option maxHeartbeats 8000000 in
set_option maxRecDepth 100000 in
theorem dragnetref14_Join.calls (k : Nat) (a0 : Int) (P1_ : Nat → Prop) (A1 : Option Addr) (c1 : Nat) (l1 : List Int) (P2_ : Nat → Prop) (A2 : Option Addr) (c2 : Nat) (l2 : List Int) (r1 : List Int) (r2 : Int) (w : World) (hs1 : Kd.V (Kd.int .i64) 3 w w.heap.size (fun k_ => P1_ k_) (.slice A1 l1.length c1) l1) (hs2 : Kd.V (Kd.int .i64) 3 w w.heap.size (fun k_ => P2_ k_) (.slice A2 l2.length c2) l2) (h : dragnetref14_Join.f k a0 l1 l2 = some (r1, r2)) :
  Calls Try.prog 19 #[.int .i64 a0, .slice A1 l1.length c1, .slice A2 l2.length c2] w fun e w' => ∃ v0_ : Value, e = .returned (.tuple #[v0_, .int .i64 r2]) ∧ Kd.R (Kd.int .i64) 3 w' w.heap.size (fun k_ => (w.heap.size ≤ k_)) v0_ r1 ∧ Below w.heap.size w w' := by
 have HO1 := Aside0.mk (show Kd.V (Kd.int .i64) 3 w w.heap.size (fun k_ => ((P1_ k_ ∨ P2_ k_) ∨ w.heap.size ≤ k_)) (.slice A1 l1.length c1) l1 from Kd.V_mono hs1 (fun k_ hk => .inl (.inl hk)))
 have HO2 := Aside0.mk (show Kd.V (Kd.int .i64) 3 w w.heap.size (fun k_ => ((P1_ k_ ∨ P2_ k_) ∨ w.heap.size ≤ k_)) (.slice A2 l2.length c2) l2 from Kd.V_mono hs2 (fun k_ hk => .inl (.inr hk)))
 have HB := Aside0.mk (Below.refl w.heap.size w)
 have H : ((dragnetref14_Rises.f k l1).bind fun t270 => (if t270 = true then ((dragnetref14_Rises.f k l2).bind fun t271 => (dragnetref14_Join.j0 k a0 l1 l2 (!t271))) else (dragnetref14_Join.j0 k a0 l1 l2 true))) = some (r1, r2) := h
 clear h
 have HC4 := Aside0.mk H
 clear H
 go_enter Try.func19, Try.ntmps19
 go_upto_region 1 with (fail)
 repeat (go_quiet (fail); go_upto_region 1 with (fail))
 go_cut [19] (fun v19 wc => ∃ (kq : Nat) (x19_3 : Bool), v19 = .bool x19_3 ∧ Aside0 (dragnetref14_Join.j0 kq a0 l1 l2 x19_3 = some (r1, r2)) ∧ Aside0 (kq ≤ k) ∧ Aside0 (Kd.V (Kd.int .i64) 3 wc w.heap.size (fun k_ => ((P1_ k_ ∨ P2_ k_) ∨ w.heap.size ≤ k_)) (.slice A1 l1.length c1) l1) ∧ Aside0 (Kd.V (Kd.int .i64) 3 wc w.heap.size (fun k_ => ((P1_ k_ ∨ P2_ k_) ∨ w.heap.size ≤ k_)) (.slice A2 l2.length c2) l2) ∧ Aside0 (Below w.heap.size w wc))
 case first =>
  have H := HC4.out
  clear HC4
  replace H := Option.bind_eq_some_iff.mp H
  obtain ⟨t270, A50, H⟩ := H
  replace H : (if t270 = true then ((dragnetref14_Rises.f k l2).bind fun t271 => (dragnetref14_Join.j0 k a0 l1 l2 (!t271))) else (dragnetref14_Join.j0 k a0 l1 l2 true)) = some (r1, r2) := H
  have A5 := Aside0.mk A50
  clear A50
  by_cases c6 : t270 = true
  ·subst c6
   have H1 : ((dragnetref14_Rises.f k l2).bind fun t271 => (dragnetref14_Join.j0 k a0 l1 l2 (!t271))) = some (r1, r2) := by rw [if_pos rfl] at H; exact H
   clear H
   have H := H1
   clear H1
   replace H := Option.bind_eq_some_iff.mp H
   obtain ⟨t271, A70, H⟩ := H
   replace H : (dragnetref14_Join.j0 k a0 l1 l2 (!t271)) = some (r1, r2) := H
   have A7 := Aside0.mk A70
   clear A70
   have H' := Aside0.mk H
   clear H
   go_wp2_with (first | (go_at_call 21; (with_reducible refine (dragnetref14_Rises.calls k _ _ l1 true _ ?side1 ?side2 A5.out).mono ?_); (case side1 => repeat (first | exact (Kd.V_reads' HO1.out).2.2 | (with_reducible refine Kd.cA_ ?_ _) | (with_reducible refine Kd.cN_ ?_ _) | (with_reducible refine Kd.cD_ ?_))); (case side2 => exact (Kd.V_reads' HO1.out).2.1); rintro e w' ⟨rfl, ⟨nd, rfl⟩⟩; (try first | exact ⟨rfl, _, World.drewN_drewN _ _ _⟩ | exact ⟨rfl, _, Eq.trans (World.drewN_drewN _ _ _) (congrArg (World.drewN _) (Nat.add_assoc _ _ _))⟩)) | (go_at_call 21; (with_reducible refine (dragnetref14_Rises.calls k _ _ l2 t271 _ ?side1 ?side2 A7.out).mono ?_); (case side1 => repeat (first | exact (Kd.V_reads' HO2.out).2.2 | (with_reducible refine Kd.cA_ ?_ _) | (with_reducible refine Kd.cN_ ?_ _) | (with_reducible refine Kd.cD_ ?_))); (case side2 => exact (Kd.V_reads' HO2.out).2.1); rintro e w' ⟨rfl, ⟨nd, rfl⟩⟩; (try first | exact ⟨rfl, _, World.drewN_drewN _ _ _⟩ | exact ⟨rfl, _, Eq.trans (World.drewN_drewN _ _ _) (congrArg (World.drewN _) (Nat.add_assoc _ _ _))⟩)))
   repeat (go_quiet (first | (go_at_call 21; (with_reducible refine (dragnetref14_Rises.calls k _ _ l1 true _ ?side1 ?side2 A5.out).mono ?_); (case side1 => repeat (first | exact (Kd.V_reads' HO1.out).2.2 | (with_reducible refine Kd.cA_ ?_ _) | (with_reducible refine Kd.cN_ ?_ _) | (with_reducible refine Kd.cD_ ?_))); (case side2 => exact (Kd.V_reads' HO1.out).2.1); rintro e w' ⟨rfl, ⟨nd, rfl⟩⟩; (try first | exact ⟨rfl, _, World.drewN_drewN _ _ _⟩ | exact ⟨rfl, _, Eq.trans (World.drewN_drewN _ _ _) (congrArg (World.drewN _) (Nat.add_assoc _ _ _))⟩)) | (go_at_call 21; (with_reducible refine (dragnetref14_Rises.calls k _ _ l2 t271 _ ?side1 ?side2 A7.out).mono ?_); (case side1 => repeat (first | exact (Kd.V_reads' HO2.out).2.2 | (with_reducible refine Kd.cA_ ?_ _) | (with_reducible refine Kd.cN_ ?_ _) | (with_reducible refine Kd.cD_ ?_))); (case side2 => exact (Kd.V_reads' HO2.out).2.1); rintro e w' ⟨rfl, ⟨nd, rfl⟩⟩; (try first | exact ⟨rfl, _, World.drewN_drewN _ _ _⟩ | exact ⟨rfl, _, Eq.trans (World.drewN_drewN _ _ _) (congrArg (World.drewN _) (Nat.add_assoc _ _ _))⟩))); try go_wp2_with (first | (go_at_call 21; (with_reducible refine (dragnetref14_Rises.calls k _ _ l1 true _ ?side1 ?side2 A5.out).mono ?_); (case side1 => repeat (first | exact (Kd.V_reads' HO1.out).2.2 | (with_reducible refine Kd.cA_ ?_ _) | (with_reducible refine Kd.cN_ ?_ _) | (with_reducible refine Kd.cD_ ?_))); (case side2 => exact (Kd.V_reads' HO1.out).2.1); rintro e w' ⟨rfl, ⟨nd, rfl⟩⟩; (try first | exact ⟨rfl, _, World.drewN_drewN _ _ _⟩ | exact ⟨rfl, _, Eq.trans (World.drewN_drewN _ _ _) (congrArg (World.drewN _) (Nat.add_assoc _ _ _))⟩)) | (go_at_call 21; (with_reducible refine (dragnetref14_Rises.calls k _ _ l2 t271 _ ?side1 ?side2 A7.out).mono ?_); (case side1 => repeat (first | exact (Kd.V_reads' HO2.out).2.2 | (with_reducible refine Kd.cA_ ?_ _) | (with_reducible refine Kd.cN_ ?_ _) | (with_reducible refine Kd.cD_ ?_))); (case side2 => exact (Kd.V_reads' HO2.out).2.1); rintro e w' ⟨rfl, ⟨nd, rfl⟩⟩; (try first | exact ⟨rfl, _, World.drewN_drewN _ _ _⟩ | exact ⟨rfl, _, Eq.trans (World.drewN_drewN _ _ _) (congrArg (World.drewN _) (Nat.add_assoc _ _ _))⟩))))
   go_meet
   case rel => exact ⟨_, (!t271), (by first | rfl | (simp; done) | (simp [*]; done)), H', ⟨by first | omega | exact Nat.le_refl _⟩, ⟨by (with_reducible repeat (first | apply Kd.V_alloc | apply Kd.V_drewN | apply Kd.V_drew)); exact HO1.out⟩, ⟨by (with_reducible repeat (first | apply Kd.V_alloc | apply Kd.V_drewN | apply Kd.V_drew)); exact HO2.out⟩, ⟨by repeat (first | (with_reducible first | exact HB.out | apply pbA_ | apply pbN_ | apply pb1_) | exact HB.out)⟩⟩
  ·replace c6 := Bool.eq_false_iff.mpr c6
   subst c6
   have H1 : (dragnetref14_Join.j0 k a0 l1 l2 true) = some (r1, r2) := by rw [if_neg (show ¬ (false = true) by decide)] at H; exact H
   clear H
   have H := H1
   clear H1
   have H' := Aside0.mk H
   clear H
   go_wp2_with (first | (go_at_call 21; (with_reducible refine (dragnetref14_Rises.calls k _ _ l1 false _ ?side1 ?side2 A5.out).mono ?_); (case side1 => repeat (first | exact (Kd.V_reads' HO1.out).2.2 | (with_reducible refine Kd.cA_ ?_ _) | (with_reducible refine Kd.cN_ ?_ _) | (with_reducible refine Kd.cD_ ?_))); (case side2 => exact (Kd.V_reads' HO1.out).2.1); rintro e w' ⟨rfl, ⟨nd, rfl⟩⟩; (try first | exact ⟨rfl, _, World.drewN_drewN _ _ _⟩ | exact ⟨rfl, _, Eq.trans (World.drewN_drewN _ _ _) (congrArg (World.drewN _) (Nat.add_assoc _ _ _))⟩)))
   repeat (go_quiet (first | (go_at_call 21; (with_reducible refine (dragnetref14_Rises.calls k _ _ l1 false _ ?side1 ?side2 A5.out).mono ?_); (case side1 => repeat (first | exact (Kd.V_reads' HO1.out).2.2 | (with_reducible refine Kd.cA_ ?_ _) | (with_reducible refine Kd.cN_ ?_ _) | (with_reducible refine Kd.cD_ ?_))); (case side2 => exact (Kd.V_reads' HO1.out).2.1); rintro e w' ⟨rfl, ⟨nd, rfl⟩⟩; (try first | exact ⟨rfl, _, World.drewN_drewN _ _ _⟩ | exact ⟨rfl, _, Eq.trans (World.drewN_drewN _ _ _) (congrArg (World.drewN _) (Nat.add_assoc _ _ _))⟩))); try go_wp2_with (first | (go_at_call 21; (with_reducible refine (dragnetref14_Rises.calls k _ _ l1 false _ ?side1 ?side2 A5.out).mono ?_); (case side1 => repeat (first | exact (Kd.V_reads' HO1.out).2.2 | (with_reducible refine Kd.cA_ ?_ _) | (with_reducible refine Kd.cN_ ?_ _) | (with_reducible refine Kd.cD_ ?_))); (case side2 => exact (Kd.V_reads' HO1.out).2.1); rintro e w' ⟨rfl, ⟨nd, rfl⟩⟩; (try first | exact ⟨rfl, _, World.drewN_drewN _ _ _⟩ | exact ⟨rfl, _, Eq.trans (World.drewN_drewN _ _ _) (congrArg (World.drewN _) (Nat.add_assoc _ _ _))⟩))))
   go_meet
   case rel => exact ⟨_, (true), (by first | rfl | (simp; done) | (simp [*]; done)), H', ⟨by first | omega | exact Nat.le_refl _⟩, ⟨by (with_reducible repeat (first | apply Kd.V_alloc | apply Kd.V_drewN | apply Kd.V_drew)); exact HO1.out⟩, ⟨by (with_reducible repeat (first | apply Kd.V_alloc | apply Kd.V_drewN | apply Kd.V_drew)); exact HO2.out⟩, ⟨by repeat (first | (with_reducible first | exact HB.out | apply pbA_ | apply pbN_ | apply pb1_) | exact HB.out)⟩⟩
 case rest =>
  clear HC4
  try clear c1
  try clear c2
  try clear p2
  try clear c6
  obtain ⟨kq, x19_3, rfl, HA, HJ3, HO_1, HO_2, HB⟩ := hcut
  cases kq with
  | zero => exact absurd HA.out (by simp [dragnetref14_Join.j0])
  | succ kj3 =>
   have H := HA.out
   clear HA
   simp only [dragnetref14_Join.j0] at H
   by_cases c8 : x19_3 = true
   ·subst c8
    have H1 : (some (([] : List Int), 1)) = some (r1, r2) := by rw [if_pos rfl] at H; exact H
    clear H
    have H := H1
    clear H1
    simp only [Option.some.injEq, Prod.mk.injEq] at H
    obtain ⟨rfl, rfl⟩ := H
    go_wp2
    repeat (go_quiet (fail); try go_wp2)
    go_ret2
    exact ⟨_, by first | rfl | (simp [eWn_, eWs_] <;> rfl) | (simp [*, eWn_, eWs_] <;> rfl), by first | exact Kd.R_nil _ _ _ _ _ | exact Kd.N_nil _ _ _ _ _ | exact Kd.V_nil _ _ _ _ _ | exact Kd.Q_nil _ _ _ _ _ | exact Kd.S_nil _ _ _ _ _, by repeat (first | (with_reducible first | exact HB.out | apply pbA_ | apply pbN_ | apply pb1_) | exact HB.out)⟩
   ·replace c8 := Bool.eq_false_iff.mpr c8
    subst c8
    have H1 : (dragnetref14_Join.l0 kj3 a0 l1 l2 ([] : List Int) 0) = some (r1, r2) := by rw [if_neg (show ¬ (false = true) by decide)] at H; exact H
    clear H
    have H := H1
    clear H1
    have H' := Aside0.mk H
    clear H
    go_wp2
    repeat (go_quiet (fail); try go_wp2)
    go_loopg [1, 2, 8, 9] kj3 (fun kq v1 v2 v8 v9 w' => ∃ (x1_2 : List Int) (x2_2 : List Int) (x8_2 : List Int) (x9_2 : Int), v9 = .int .i64 x9_2 ∧ Aside0 (dragnetref14_Join.l0 kq a0 x1_2 x2_2 x8_2 x9_2 = some (r1, r2)) ∧ Aside0 (kq ≤ kj3) ∧ Aside0 (Kd.V (Kd.int .i64) 3 w' w.heap.size (fun k_ => ((P1_ k_ ∨ P2_ k_) ∨ w.heap.size ≤ k_) ∧ some k_ ≠ (v8 : Value).ownBlock) v1 x1_2) ∧ Aside0 (Kd.V (Kd.int .i64) 3 w' w.heap.size (fun k_ => ((P1_ k_ ∨ P2_ k_) ∨ w.heap.size ≤ k_) ∧ some k_ ≠ (v8 : Value).ownBlock) v2 x2_2) ∧ Aside0 (Kd.R (Kd.int .i64) 3 w' w.heap.size (fun k_ => (w.heap.size ≤ k_)) v8 x8_2) ∧ Aside0 (Below w.heap.size w w'))
    case atStart => exact ⟨(l1), (l2), (([] : List Int)), (0), (by first | rfl | (simp; done) | (simp [*]; done)), H', ⟨Nat.le_refl _⟩, ⟨by (with_reducible repeat (first | apply Kd.V_alloc | apply Kd.V_drewN | apply Kd.V_drew)); exact Kd.V_mono HO_1.out (fun _ hk => ⟨hk, (by simp [Value.ownBlock])⟩)⟩, ⟨by (with_reducible repeat (first | apply Kd.V_alloc | apply Kd.V_drewN | apply Kd.V_drew)); exact Kd.V_mono HO_2.out (fun _ hk => ⟨hk, (by simp [Value.ownBlock])⟩)⟩, ⟨by first | exact Kd.R_nil _ _ _ _ _ | exact Kd.N_nil _ _ _ _ _ | exact Kd.V_nil _ _ _ _ _ | exact Kd.Q_nil _ _ _ _ _ | exact Kd.S_nil _ _ _ _ _⟩, ⟨by repeat (first | (with_reducible first | exact HB.out | apply pbA_ | apply pbN_ | apply pb1_) | exact HB.out)⟩⟩
    case round =>
     clear H'
     try clear c1
     try clear c2
     try clear p2
     try clear c6
     try clear c8
     try clear p2
     obtain ⟨x1_2, x2_2, x8_2, x9_2, rfl, HA, HK2, HO_1, HO_2, HO_8, HB⟩ := hrel
     cases gk with
     | zero => exact absurd HA.out (by simp [dragnetref14_Join.l0])
     | succ k2 =>
      have H := HA.out
      clear HA
      simp only [dragnetref14_Join.l0] at H
      have HC9 := Aside0.mk H
      clear H
      go_upto_region 5 with (fail)
      repeat (go_quiet (fail); go_upto_region 5 with (fail))
      go_cut [29] (fun v29 wc => ∃ (kq : Nat) (x29_8 : Bool), v29 = .bool x29_8 ∧ Aside0 (dragnetref14_Join.j2 kq a0 x1_2 x2_2 x8_2 x9_2 x29_8 = some (r1, r2)) ∧ Aside0 (kq ≤ k2) ∧ Aside0 (Kd.V (Kd.int .i64) 3 wc w.heap.size (fun k_ => ((P1_ k_ ∨ P2_ k_) ∨ w.heap.size ≤ k_) ∧ some k_ ≠ (u8 : Value).ownBlock) u1 x1_2) ∧ Aside0 (Kd.V (Kd.int .i64) 3 wc w.heap.size (fun k_ => ((P1_ k_ ∨ P2_ k_) ∨ w.heap.size ≤ k_) ∧ some k_ ≠ (u8 : Value).ownBlock) u2 x2_2) ∧ Aside0 (Kd.R (Kd.int .i64) 3 wc w.heap.size (fun k_ => (w.heap.size ≤ k_)) u8 x8_2) ∧ Aside0 (Below w.heap.size w wc))
      case first =>
       have H := HC9.out
       clear HC9
       by_cases c10 : x9_2 ≤ 4095
       ·rw [if_pos c10] at H
        have c10b0 : decide (x9_2 ≤ 4095) = true := decide_eq_true c10
        clear c10
        (first | rw [c10b0] | (simp only [i64_w, i32_w]; rw [c10b0]) | skip)
        have H' := Aside0.mk H
        clear H
        obtain ⟨Ao11, co11, eo11⟩ := Kd.V_slice HO_1.out
        subst eo11
        obtain ⟨Ao12, co12, eo12⟩ := Kd.V_slice HO_2.out
        subst eo12
        go_wp2
        repeat (go_quiet (fail); try go_wp2)
        go_meet
        case rel => exact ⟨_, (decide ((wrap64 ((x1_2.length : Int) + (x2_2.length : Int))) > 0)), (by first | rfl | (simp; done) | (simp [*]; done)), H', ⟨by have := HJ3.out; have := HK2.out; first | omega | exact Nat.le_refl _⟩, ⟨by (with_reducible repeat (first | apply Kd.V_alloc | apply Kd.V_drewN | apply Kd.V_drew)); exact HO_1.out⟩, ⟨by (with_reducible repeat (first | apply Kd.V_alloc | apply Kd.V_drewN | apply Kd.V_drew)); exact HO_2.out⟩, ⟨by (with_reducible repeat (first | apply Kd.rA_ | apply Kd.rN_ | apply Kd.rD_)); exact HO_8.out⟩, ⟨by repeat (first | (with_reducible first | exact HB.out | apply pbA_ | apply pbN_ | apply pb1_) | exact HB.out)⟩⟩
       ·rw [if_neg c10] at H
        have c10b0 : decide (x9_2 ≤ 4095) = false := decide_eq_false c10
        clear c10
        (first | rw [c10b0] | (simp only [i64_w, i32_w]; rw [c10b0]) | skip)
        have H' := Aside0.mk H
        clear H
        go_wp2
        repeat (go_quiet (fail); try go_wp2)
        go_meet
        case rel => exact ⟨_, (false), (by first | rfl | (simp; done) | (simp [*]; done)), H', ⟨by have := HJ3.out; have := HK2.out; first | omega | exact Nat.le_refl _⟩, ⟨by (with_reducible repeat (first | apply Kd.V_alloc | apply Kd.V_drewN | apply Kd.V_drew)); exact HO_1.out⟩, ⟨by (with_reducible repeat (first | apply Kd.V_alloc | apply Kd.V_drewN | apply Kd.V_drew)); exact HO_2.out⟩, ⟨by (with_reducible repeat (first | apply Kd.rA_ | apply Kd.rN_ | apply Kd.rD_)); exact HO_8.out⟩, ⟨by repeat (first | (with_reducible first | exact HB.out | apply pbA_ | apply pbN_ | apply pb1_) | exact HB.out)⟩⟩
      case rest =>
       clear HC9
       try clear c1
       try clear c2
       try clear p2
       try clear c6
       try clear p6
       try clear c8
       try clear c10
       try clear c10b0
       try clear p2
       obtain ⟨kq, x29_8, rfl, HA, HJ8, HO_1, HO_2, HO_8, HB⟩ := hcut
       cases kq with
       | zero => exact absurd HA.out (by simp [dragnetref14_Join.j2])
       | succ kj8 =>
        have H := HA.out
        clear HA
        simp only [dragnetref14_Join.j2] at H
        by_cases c13 : x29_8 = true
        ·subst c13
         have H1 : (if (x1_2.length : Int) > 0 then (if 0 < (x1_2.length : Int) then (if (x2_2.length : Int) > 0 then (if 0 < (x2_2.length : Int) then (dragnetref14_Join.j3 kj8 a0 x1_2 x2_2 x8_2 x9_2 ((rd x1_2 0) == x9_2) ((rd x2_2 0) == x9_2)) else (none)) else (dragnetref14_Join.j3 kj8 a0 x1_2 x2_2 x8_2 x9_2 ((rd x1_2 0) == x9_2) false)) else (none)) else (if (x2_2.length : Int) > 0 then (if 0 < (x2_2.length : Int) then (dragnetref14_Join.j3 kj8 a0 x1_2 x2_2 x8_2 x9_2 false ((rd x2_2 0) == x9_2)) else (none)) else (dragnetref14_Join.j3 kj8 a0 x1_2 x2_2 x8_2 x9_2 false false))) = some (r1, r2) := by rw [if_pos rfl] at H; exact H
         clear H
         have H := H1
         clear H1
         have HC14 := Aside0.mk H
         clear H
         go_upto_region 7 with (fail)
         repeat (go_quiet (fail); go_upto_region 7 with (fail))
         go_cut [10, 11] (fun v10 v11 wc => ∃ (kq : Nat) (x10_13 : Bool) (x11_13 : Bool), v10 = .bool x10_13 ∧ v11 = .bool x11_13 ∧ Aside0 (dragnetref14_Join.j3 kq a0 x1_2 x2_2 x8_2 x9_2 x10_13 x11_13 = some (r1, r2)) ∧ Aside0 (kq ≤ kj8) ∧ Aside0 (Kd.V (Kd.int .i64) 3 wc w.heap.size (fun k_ => ((P1_ k_ ∨ P2_ k_) ∨ w.heap.size ≤ k_) ∧ some k_ ≠ (u8 : Value).ownBlock) u1 x1_2) ∧ Aside0 (Kd.V (Kd.int .i64) 3 wc w.heap.size (fun k_ => ((P1_ k_ ∨ P2_ k_) ∨ w.heap.size ≤ k_) ∧ some k_ ≠ (u8 : Value).ownBlock) u2 x2_2) ∧ Aside0 (Kd.R (Kd.int .i64) 3 wc w.heap.size (fun k_ => (w.heap.size ≤ k_)) u8 x8_2) ∧ Aside0 (Below w.heap.size w wc))
         case first =>
          have H := HC14.out
          clear HC14
          by_cases c15 : (x1_2.length : Int) > 0
          ·rw [if_pos c15] at H
           have c15b0 : decide (0 < (x1_2.length : Int)) = true := decide_eq_true c15
           have c15b1 : decide (0 < x1_2.length) = true := decide_eq_true (by omega)
           clear c15
           (first | rw [c15b0] | (simp only [i64_w, i32_w]; rw [c15b0]) | skip)
           by_cases c16 : 0 < (x1_2.length : Int)
           ·rw [if_pos c16] at H
            have c16b0 : decide (0 < (x1_2.length : Int)) = true := decide_eq_true c16
            have c16b1 : decide (0 < x1_2.length) = true := decide_eq_true (by omega)
            clear c16
            by_cases c17 : (x2_2.length : Int) > 0
            ·rw [if_pos c17] at H
             have c17b0 : decide (0 < (x2_2.length : Int)) = true := decide_eq_true c17
             have c17b1 : decide (0 < x2_2.length) = true := decide_eq_true (by omega)
             clear c17
             by_cases c18 : 0 < (x2_2.length : Int)
             ·rw [if_pos c18] at H
              have c18b0 : decide (0 < (x2_2.length : Int)) = true := decide_eq_true c18
              have c18b1 : decide (0 < x2_2.length) = true := decide_eq_true (by omega)
              clear c18
              have H' := Aside0.mk H
              clear H
              obtain ⟨Ao19, co19, eo19⟩ := Kd.V_slice HO_1.out
              subst eo19
              have p272 : 0 ≤ (0 : Int) := (by omega)
              have q272 : 0 < (x1_2.length : Int) := of_decide_eq_true (by first | (with_reducible assumption) | assumption)
              obtain ⟨ad272, e272, hx272_0⟩ := Kd.at_int (Kd.V_reads' HO_1.out).2.2 0 p272 q272
              cases e272
              have qi272 : (0 < x1_2.length) = True := eq_true (by omega)
              (try rw [show ((0 : Int)).toNat = 0 from rfl] at hx272_0)
              (try rw [Addr.add_zero'] at hx272_0)
              replace p272 := eq_true p272
              replace q272 := eq_true q272
              obtain ⟨Ao20, co20, eo20⟩ := Kd.V_slice HO_2.out
              subst eo20
              have p273 : 0 ≤ (0 : Int) := (by omega)
              have q273 : 0 < (x2_2.length : Int) := of_decide_eq_true (by first | (with_reducible assumption) | assumption)
              obtain ⟨ad273, e273, hx273_0⟩ := Kd.at_int (Kd.V_reads' HO_2.out).2.2 0 p273 q273
              cases e273
              have qi273 : (0 < x2_2.length) = True := eq_true (by omega)
              (try rw [show ((0 : Int)).toNat = 0 from rfl] at hx273_0)
              (try rw [Addr.add_zero'] at hx273_0)
              replace p273 := eq_true p273
              replace q273 := eq_true q273
              go_wp2
              repeat (go_quiet (fail); try go_wp2)
              go_meet
              case rel => exact ⟨_, (((rd x1_2 0) == x9_2)), (((rd x2_2 0) == x9_2)), (by first | rfl | (simp; done) | (simp [*]; done)), (by first | rfl | (simp; done) | (simp [*]; done)), H', ⟨by have := HJ3.out; have := HK2.out; have := HJ8.out; first | omega | exact Nat.le_refl _⟩, ⟨by (with_reducible repeat (first | apply Kd.V_alloc | apply Kd.V_drewN | apply Kd.V_drew)); exact HO_1.out⟩, ⟨by (with_reducible repeat (first | apply Kd.V_alloc | apply Kd.V_drewN | apply Kd.V_drew)); exact HO_2.out⟩, ⟨by (with_reducible repeat (first | apply Kd.rA_ | apply Kd.rN_ | apply Kd.rD_)); exact HO_8.out⟩, ⟨by repeat (first | (with_reducible first | exact HB.out | apply pbA_ | apply pbN_ | apply pb1_) | exact HB.out)⟩⟩
             ·rw [if_neg c18] at H
              exact absurd H (by simp)
            ·rw [if_neg c17] at H
             have c17b0 : decide (0 < (x2_2.length : Int)) = false := decide_eq_false c17
             have c17b1 : decide (0 < x2_2.length) = false := decide_eq_false (by omega)
             clear c17
             have H' := Aside0.mk H
             clear H
             obtain ⟨Ao21, co21, eo21⟩ := Kd.V_slice HO_1.out
             subst eo21
             have p272 : 0 ≤ (0 : Int) := (by omega)
             have q272 : 0 < (x1_2.length : Int) := of_decide_eq_true (by first | (with_reducible assumption) | assumption)
             obtain ⟨ad272, e272, hx272_0⟩ := Kd.at_int (Kd.V_reads' HO_1.out).2.2 0 p272 q272
             cases e272
             have qi272 : (0 < x1_2.length) = True := eq_true (by omega)
             (try rw [show ((0 : Int)).toNat = 0 from rfl] at hx272_0)
             (try rw [Addr.add_zero'] at hx272_0)
             replace p272 := eq_true p272
             replace q272 := eq_true q272
             obtain ⟨Ao22, co22, eo22⟩ := Kd.V_slice HO_2.out
             subst eo22
             go_wp2
             repeat (go_quiet (fail); try go_wp2)
             go_meet
             case rel => exact ⟨_, (((rd x1_2 0) == x9_2)), (false), (by first | rfl | (simp; done) | (simp [*]; done)), (by first | rfl | (simp; done) | (simp [*]; done)), H', ⟨by have := HJ3.out; have := HK2.out; have := HJ8.out; first | omega | exact Nat.le_refl _⟩, ⟨by (with_reducible repeat (first | apply Kd.V_alloc | apply Kd.V_drewN | apply Kd.V_drew)); exact HO_1.out⟩, ⟨by (with_reducible repeat (first | apply Kd.V_alloc | apply Kd.V_drewN | apply Kd.V_drew)); exact HO_2.out⟩, ⟨by (with_reducible repeat (first | apply Kd.rA_ | apply Kd.rN_ | apply Kd.rD_)); exact HO_8.out⟩, ⟨by repeat (first | (with_reducible first | exact HB.out | apply pbA_ | apply pbN_ | apply pb1_) | exact HB.out)⟩⟩
           ·rw [if_neg c16] at H
            exact absurd H (by simp)
          ·rw [if_neg c15] at H
           have c15b0 : decide (0 < (x1_2.length : Int)) = false := decide_eq_false c15
           have c15b1 : decide (0 < x1_2.length) = false := decide_eq_false (by omega)
           clear c15
           (first | rw [c15b0] | (simp only [i64_w, i32_w]; rw [c15b0]) | skip)
           by_cases c23 : (x2_2.length : Int) > 0
           ·rw [if_pos c23] at H
            have c23b0 : decide (0 < (x2_2.length : Int)) = true := decide_eq_true c23
            have c23b1 : decide (0 < x2_2.length) = true := decide_eq_true (by omega)
            clear c23
            by_cases c24 : 0 < (x2_2.length : Int)
            ·rw [if_pos c24] at H
             have c24b0 : decide (0 < (x2_2.length : Int)) = true := decide_eq_true c24
             have c24b1 : decide (0 < x2_2.length) = true := decide_eq_true (by omega)
             clear c24
             have H' := Aside0.mk H
             clear H
             obtain ⟨Ao25, co25, eo25⟩ := Kd.V_slice HO_1.out
             subst eo25
             obtain ⟨Ao26, co26, eo26⟩ := Kd.V_slice HO_2.out
             subst eo26
             have p274 : 0 ≤ (0 : Int) := (by omega)
             have q274 : 0 < (x2_2.length : Int) := of_decide_eq_true (by first | (with_reducible assumption) | assumption)
             obtain ⟨ad274, e274, hx274_0⟩ := Kd.at_int (Kd.V_reads' HO_2.out).2.2 0 p274 q274
             cases e274
             have qi274 : (0 < x2_2.length) = True := eq_true (by omega)
             (try rw [show ((0 : Int)).toNat = 0 from rfl] at hx274_0)
             (try rw [Addr.add_zero'] at hx274_0)
             replace p274 := eq_true p274
             replace q274 := eq_true q274
             go_wp2
             repeat (go_quiet (fail); try go_wp2)
             go_meet
             case rel => exact ⟨_, (false), (((rd x2_2 0) == x9_2)), (by first | rfl | (simp; done) | (simp [*]; done)), (by first | rfl | (simp; done) | (simp [*]; done)), H', ⟨by have := HJ3.out; have := HK2.out; have := HJ8.out; first | omega | exact Nat.le_refl _⟩, ⟨by (with_reducible repeat (first | apply Kd.V_alloc | apply Kd.V_drewN | apply Kd.V_drew)); exact HO_1.out⟩, ⟨by (with_reducible repeat (first | apply Kd.V_alloc | apply Kd.V_drewN | apply Kd.V_drew)); exact HO_2.out⟩, ⟨by (with_reducible repeat (first | apply Kd.rA_ | apply Kd.rN_ | apply Kd.rD_)); exact HO_8.out⟩, ⟨by repeat (first | (with_reducible first | exact HB.out | apply pbA_ | apply pbN_ | apply pb1_) | exact HB.out)⟩⟩
            ·rw [if_neg c24] at H
             exact absurd H (by simp)
           ·rw [if_neg c23] at H
            have c23b0 : decide (0 < (x2_2.length : Int)) = false := decide_eq_false c23
            have c23b1 : decide (0 < x2_2.length) = false := decide_eq_false (by omega)
            clear c23
            have H' := Aside0.mk H
            clear H
            obtain ⟨Ao27, co27, eo27⟩ := Kd.V_slice HO_1.out
            subst eo27
            obtain ⟨Ao28, co28, eo28⟩ := Kd.V_slice HO_2.out
            subst eo28
            go_wp2
            repeat (go_quiet (fail); try go_wp2)
            go_meet
            case rel => exact ⟨_, (false), (false), (by first | rfl | (simp; done) | (simp [*]; done)), (by first | rfl | (simp; done) | (simp [*]; done)), H', ⟨by have := HJ3.out; have := HK2.out; have := HJ8.out; first | omega | exact Nat.le_refl _⟩, ⟨by (with_reducible repeat (first | apply Kd.V_alloc | apply Kd.V_drewN | apply Kd.V_drew)); exact HO_1.out⟩, ⟨by (with_reducible repeat (first | apply Kd.V_alloc | apply Kd.V_drewN | apply Kd.V_drew)); exact HO_2.out⟩, ⟨by (with_reducible repeat (first | apply Kd.rA_ | apply Kd.rN_ | apply Kd.rD_)); exact HO_8.out⟩, ⟨by repeat (first | (with_reducible first | exact HB.out | apply pbA_ | apply pbN_ | apply pb1_) | exact HB.out)⟩⟩
         case rest =>
          clear HC14
          try clear c1
          try clear c2
          try clear p2
          try clear q2
          try clear hx2
          try clear qi2
          try clear c6
          try clear p6
          try clear c8
          try clear c10
          try clear c10b0
          try clear c13
          try clear c15
          try clear c15b0
          try clear c15b1
          try clear c16
          try clear c16b0
          try clear c16b1
          try clear c17
          try clear c17b0
          try clear c17b1
          try clear c18
          try clear c18b0
          try clear c18b1
          try clear c19
          try clear c23
          try clear c23b0
          try clear c23b1
          try clear c24
          try clear c24b0
          try clear c24b1
          try clear p27
          try clear q27
          try clear hx27
          try clear qi27
          try clear hx272_0
          try clear hx273_0
          try clear hx274_0
          try clear p2
          try clear p272
          try clear p273
          try clear p274
          try clear p6
          try clear q272
          try clear q273
          try clear q274
          obtain ⟨kq, x10_13, x11_13, rfl, rfl, HA, HJ13, HO_1, HO_2, HO_8, HB⟩ := hcut
          cases kq with
          | zero => exact absurd HA.out (by simp [dragnetref14_Join.j3])
          | succ kj13 =>
           have H := HA.out
           clear HA
           simp only [dragnetref14_Join.j3] at H
           have HC29 := Aside0.mk H
           clear H
           go_upto_if 52 with (fail)
           repeat (go_quiet (fail); go_upto_if 52 with (fail))
           go_cut [1] (fun v1 wc => ∃ (kq : Nat) (x1_28 : List Int), Aside0 (dragnetref14_Join.j4 kq a0 x1_28 x2_2 x8_2 x9_2 x10_13 x11_13 = some (r1, r2)) ∧ Aside0 (kq ≤ kj13) ∧ Aside0 (Kd.V (Kd.int .i64) 3 wc w.heap.size (fun k_ => ((P1_ k_ ∨ P2_ k_) ∨ w.heap.size ≤ k_) ∧ some k_ ≠ (u8 : Value).ownBlock) v1 x1_28) ∧ Aside0 (Kd.V (Kd.int .i64) 3 wc w.heap.size (fun k_ => ((P1_ k_ ∨ P2_ k_) ∨ w.heap.size ≤ k_) ∧ some k_ ≠ (u8 : Value).ownBlock) u2 x2_2) ∧ Aside0 (Kd.R (Kd.int .i64) 3 wc w.heap.size (fun k_ => (w.heap.size ≤ k_)) u8 x8_2) ∧ Aside0 (Below w.heap.size w wc))
           case first =>
            have H := HC29.out
            clear HC29
            by_cases c30 : x10_13 = true
            ·subst c30
             have H1 : (if 1 ≤ (x1_2.length : Int) then (dragnetref14_Join.j4 kj13 a0 (x1_2.drop 1) x2_2 x8_2 x9_2 true x11_13) else (none)) = some (r1, r2) := by rw [if_pos rfl] at H; exact H
             clear H
             have H := H1
             clear H1
             by_cases c31 : 1 ≤ (x1_2.length : Int)
             ·rw [if_pos c31] at H
              have c31b0 := eq_true c31
              have c31b1 : decide (1 ≤ (x1_2.length : Int)) = true := decide_eq_true c31
              clear c31
              obtain ⟨y275, hy275⟩ : ∃ y_ : List Int, y_ = (x1_2.drop 1) := ⟨_, rfl⟩
              replace H : (dragnetref14_Join.j4 kj13 a0 y275 x2_2 x8_2 x9_2 true x11_13) = some (r1, r2) := by first | (rw [hy275]; with_reducible exact H) | (have H2_ := (Option.bind_some _ _).symm.trans H; rw [hy275]; with_reducible exact H2_) | (have H2_ := (Option.bind_some _ _).symm.trans H; with_reducible exact H2_) | with_reducible exact H | (rw [hy275]; exact H) | exact H
              have Ny275 := Aside0.mk hy275
              clear hy275
              have H' := Aside0.mk H
              clear H
              obtain ⟨Ao33, co33, eo33⟩ := Kd.V_slice HO_1.out
              subst eo33
              have q32 : (1 : Int) ≤ ((x1_2.length : Int) : Int) := of_decide_eq_true (by first | (with_reducible assumption) | assumption)
              obtain ⟨i032, hi032, _, hsz32, _⟩ := info_parts info3
              have hroom32 : x1_2.length ≤ co33 := (Kd.V_reads' HO_1.out).2.1
              have hC32 : Kd.F (Kd.int .i64) _ _ Ao33 x1_2.length x1_2 := (Kd.V_at (base := w.heap.size) HO_1.out).2.2
              have hcut32 := cut_from (P := Try.prog) 33 3 .i64 Try.underlying33 hi032 1 hsz32 Ao33 x1_2.length co33 1 (by omega) q32
              have hr32 := Kd.F_cut (m := (1 : Int).toNat) (c := co33) hC32 (by omega) hroom32
              obtain ⟨A32, hA32⟩ : ∃ A1, A1 = (if co33 = (1 : Int).toNat then Ao33 else (Ao33 : Option Addr).map (·.add ((1 : Int).toNat * 1))) := ⟨_, rfl⟩
              obtain ⟨c32, hc32⟩ : ∃ c1, c1 = co33 - (1 : Int).toNat := ⟨_, rfl⟩
              have hy32 : y275.length = x1_2.length - (1 : Int).toNat := (by rw [Ny275.out, List.length_drop] <;> omega)
              rw [show (x1_2).drop (1 : Int).toNat = y275 from Ny275.out.symm] at hr32
              replace hr32 : Kd.F (Kd.int .i64) _ _ A32 y275.length y275 := (by rw [hA32]; exact hr32)
              rw [← hy32, ← hA32, ← hc32] at hcut32
              have HO279 := Aside0.mk (show Kd.V (Kd.int .i64) 3 _ w.heap.size _ (.slice A32 y275.length c32) y275 from Kd.V_mk (by rw [hy32, hc32]; exact Nat.sub_le_sub_right hroom32 _) hr32)
              have HC279 := Aside0.mk (show y275.length ≤ c32 from by rw [hy32, hc32]; exact Nat.sub_le_sub_right hroom32 _)
              clear hr32 hC32 hroom32 hi032 hsz32 hc32
              have KY32 := Aside0.mk hy32
              have KA32 := Aside0.mk hA32
              clear hy32 hA32
              replace q32 := eq_true q32
              go_wp2
              repeat (go_quiet (fail); try go_wp2)
              go_meet
              case rel => exact ⟨_, (y275), H', ⟨by have := HJ3.out; have := HK2.out; have := HJ8.out; have := HJ13.out; first | omega | exact Nat.le_refl _⟩, ⟨by (with_reducible repeat (first | apply Kd.V_alloc | apply Kd.V_drewN | apply Kd.V_drew)); exact HO279.out⟩, ⟨by (with_reducible repeat (first | apply Kd.V_alloc | apply Kd.V_drewN | apply Kd.V_drew)); exact HO_2.out⟩, ⟨by (with_reducible repeat (first | apply Kd.rA_ | apply Kd.rN_ | apply Kd.rD_)); exact HO_8.out⟩, ⟨by repeat (first | (with_reducible first | exact HB.out | apply pbA_ | apply pbN_ | apply pb1_) | exact HB.out)⟩⟩
             ·rw [if_neg c31] at H
              exact absurd H (by simp)
            ·replace c30 := Bool.eq_false_iff.mpr c30
             subst c30
             have H1 : (dragnetref14_Join.j4 kj13 a0 x1_2 x2_2 x8_2 x9_2 false x11_13) = some (r1, r2) := by rw [if_neg (show ¬ (false = true) by decide)] at H; exact H
             clear H
             have H := H1
             clear H1
             have H' := Aside0.mk H
             clear H
             go_wp2
             repeat (go_quiet (fail); try go_wp2)
             go_meet
             case rel => exact ⟨_, (x1_2), H', ⟨by have := HJ3.out; have := HK2.out; have := HJ8.out; have := HJ13.out; first | omega | exact Nat.le_refl _⟩, ⟨by (with_reducible repeat (first | apply Kd.V_alloc | apply Kd.V_drewN | apply Kd.V_drew)); exact HO_1.out⟩, ⟨by (with_reducible repeat (first | apply Kd.V_alloc | apply Kd.V_drewN | apply Kd.V_drew)); exact HO_2.out⟩, ⟨by (with_reducible repeat (first | apply Kd.rA_ | apply Kd.rN_ | apply Kd.rD_)); exact HO_8.out⟩, ⟨by repeat (first | (with_reducible first | exact HB.out | apply pbA_ | apply pbN_ | apply pb1_) | exact HB.out)⟩⟩
           case rest =>
            clear HC29
            try clear c1
            try clear c2
            try clear p2
            try clear q2
            try clear hx2
            try clear qi2
            try clear c3
            try clear q3
            try clear c6
            try clear p6
            try clear c8
            try clear c10
            try clear c10b0
            try clear c13
            try clear c15
            try clear c15b0
            try clear c15b1
            try clear c16
            try clear c16b0
            try clear c16b1
            try clear c17
            try clear c17b0
            try clear c17b1
            try clear c18
            try clear c18b0
            try clear c18b1
            try clear c19
            try clear c23
            try clear c23b0
            try clear c23b1
            try clear c24
            try clear c24b0
            try clear c24b1
            try clear p27
            try clear q27
            try clear hx27
            try clear qi27
            try clear c30
            try clear c31
            try clear c31b0
            try clear c31b1
            try clear c32
            try clear q32
            try clear hx272_0
            try clear hx273_0
            try clear hx274_0
            try clear p2
            try clear p27
            try clear p272
            try clear p273
            try clear p274
            try clear p6
            try clear q2
            try clear q27
            try clear q272
            try clear q273
            try clear q274
            try clear q32
            obtain ⟨kq, x1_28, HA, HJ28, HO_1, HO_2, HO_8, HB⟩ := hcut
            cases kq with
            | zero => exact absurd HA.out (by simp [dragnetref14_Join.j4])
            | succ kj28 =>
             have H := HA.out
             clear HA
             simp only [dragnetref14_Join.j4] at H
             by_cases c34 : x11_13 = true
             ·subst c34
              have H1 : (if 1 ≤ (x2_2.length : Int) then ((some (x2_2.drop 1 : List Int)).bind fun y280 => (if a0 = 0 then (if x10_13 = true then (if x8_2.length < 17592186044416 then (dragnetref14_Join.l0 kj28 a0 x1_28 y280 (x8_2 ++ [x9_2]) (wrap64 (x9_2 + 1))) else (none)) else (if a0 = 1 then (if x8_2.length < 17592186044416 then (dragnetref14_Join.l0 kj28 a0 x1_28 y280 (x8_2 ++ [x9_2]) (wrap64 (x9_2 + 1))) else (none)) else (if a0 = 2 then (dragnetref14_Join.l0 kj28 a0 x1_28 y280 x8_2 (wrap64 (x9_2 + 1))) else (dragnetref14_Join.l0 kj28 a0 x1_28 y280 x8_2 (wrap64 (x9_2 + 1)))))) else (if a0 = 1 then (if x10_13 = true then (if x8_2.length < 17592186044416 then (dragnetref14_Join.l0 kj28 a0 x1_28 y280 (x8_2 ++ [x9_2]) (wrap64 (x9_2 + 1))) else (none)) else (if x8_2.length < 17592186044416 then (dragnetref14_Join.l0 kj28 a0 x1_28 y280 (x8_2 ++ [x9_2]) (wrap64 (x9_2 + 1))) else (none))) else (if a0 = 2 then (if x10_13 = true then (dragnetref14_Join.l0 kj28 a0 x1_28 y280 x8_2 (wrap64 (x9_2 + 1))) else (dragnetref14_Join.l0 kj28 a0 x1_28 y280 x8_2 (wrap64 (x9_2 + 1)))) else (dragnetref14_Join.l0 kj28 a0 x1_28 y280 x8_2 (wrap64 (x9_2 + 1))))))) else (none)) = some (r1, r2) := by rw [if_pos rfl] at H; exact H
              clear H
              have H := H1
              clear H1
              by_cases c35 : 1 ≤ (x2_2.length : Int)
              ·rw [if_pos c35] at H
               have c35b0 := eq_true c35
               have c35b1 : decide (1 ≤ (x2_2.length : Int)) = true := decide_eq_true c35
               clear c35
               obtain ⟨y280, hy280⟩ : ∃ y_ : List Int, y_ = (x2_2.drop 1) := ⟨_, rfl⟩
               replace H : (if a0 = 0 then (if x10_13 = true then (if x8_2.length < 17592186044416 then (dragnetref14_Join.l0 kj28 a0 x1_28 y280 (x8_2 ++ [x9_2]) (wrap64 (x9_2 + 1))) else (none)) else (if a0 = 1 then (if x8_2.length < 17592186044416 then (dragnetref14_Join.l0 kj28 a0 x1_28 y280 (x8_2 ++ [x9_2]) (wrap64 (x9_2 + 1))) else (none)) else (if a0 = 2 then (dragnetref14_Join.l0 kj28 a0 x1_28 y280 x8_2 (wrap64 (x9_2 + 1))) else (dragnetref14_Join.l0 kj28 a0 x1_28 y280 x8_2 (wrap64 (x9_2 + 1)))))) else (if a0 = 1 then (if x10_13 = true then (if x8_2.length < 17592186044416 then (dragnetref14_Join.l0 kj28 a0 x1_28 y280 (x8_2 ++ [x9_2]) (wrap64 (x9_2 + 1))) else (none)) else (if x8_2.length < 17592186044416 then (dragnetref14_Join.l0 kj28 a0 x1_28 y280 (x8_2 ++ [x9_2]) (wrap64 (x9_2 + 1))) else (none))) else (if a0 = 2 then (if x10_13 = true then (dragnetref14_Join.l0 kj28 a0 x1_28 y280 x8_2 (wrap64 (x9_2 + 1))) else (dragnetref14_Join.l0 kj28 a0 x1_28 y280 x8_2 (wrap64 (x9_2 + 1)))) else (dragnetref14_Join.l0 kj28 a0 x1_28 y280 x8_2 (wrap64 (x9_2 + 1)))))) = some (r1, r2) := by first | (rw [hy280]; with_reducible exact H) | (have H2_ := (Option.bind_some _ _).symm.trans H; rw [hy280]; with_reducible exact H2_) | (have H2_ := (Option.bind_some _ _).symm.trans H; with_reducible exact H2_) | with_reducible exact H | (rw [hy280]; exact H) | exact H
               have Ny280 := Aside0.mk hy280
               clear hy280
               by_cases c36 : a0 = 0
               ·rw [if_pos c36] at H
                have c36b0 : (a0 == 0) = true := beq_iff_eq.mpr c36
                have c36b1 : (a0 != 0) = false := bne_eq_false_iff_eq.mpr c36
                clear c36
                by_cases c37 : x10_13 = true
                ·subst c37
                 have H1 : (if x8_2.length < 17592186044416 then (dragnetref14_Join.l0 kj28 a0 x1_28 y280 (x8_2 ++ [x9_2]) (wrap64 (x9_2 + 1))) else (none)) = some (r1, r2) := by rw [if_pos rfl] at H; exact H
                 clear H
                 have H := H1
                 clear H1
                 by_cases c38 : x8_2.length < 17592186044416
                 ·rw [if_pos c38] at H
                  have LMc38 := Aside0.mk c38
                  clear c38
                  obtain ⟨y285, hy285⟩ : ∃ y_ : List Int, y_ = (x8_2 ++ [x9_2]) := ⟨_, rfl⟩
                  replace H : (dragnetref14_Join.l0 kj28 a0 x1_28 y280 y285 (wrap64 (x9_2 + 1))) = some (r1, r2) := by first | (rw [hy285]; with_reducible exact H) | (have H2_ := (Option.bind_some _ _).symm.trans H; rw [hy285]; with_reducible exact H2_) | (have H2_ := (Option.bind_some _ _).symm.trans H; with_reducible exact H2_) | with_reducible exact H | (rw [hy285]; exact H) | exact H
                  have Ny285 := Aside0.mk hy285
                  clear hy285
                  have H' := Aside0.mk H
                  clear H
                  obtain ⟨Ao40, co40, eo40⟩ := Kd.V_slice HO_2.out
                  subst eo40
                  have q39 : (1 : Int) ≤ ((x2_2.length : Int) : Int) := of_decide_eq_true (by first | (with_reducible assumption) | assumption)
                  obtain ⟨i039, hi039, _, hsz39, _⟩ := info_parts info3
                  have hroom39 : x2_2.length ≤ co40 := (Kd.V_reads' HO_2.out).2.1
                  have hC39 : Kd.F (Kd.int .i64) _ _ Ao40 x2_2.length x2_2 := (Kd.V_at (base := w.heap.size) HO_2.out).2.2
                  have hcut39 := cut_from (P := Try.prog) 33 3 .i64 Try.underlying33 hi039 1 hsz39 Ao40 x2_2.length co40 1 (by omega) q39
                  have hr39 := Kd.F_cut (m := (1 : Int).toNat) (c := co40) hC39 (by omega) hroom39
                  obtain ⟨A39, hA39⟩ : ∃ A1, A1 = (if co40 = (1 : Int).toNat then Ao40 else (Ao40 : Option Addr).map (·.add ((1 : Int).toNat * 1))) := ⟨_, rfl⟩
                  obtain ⟨c39, hc39⟩ : ∃ c1, c1 = co40 - (1 : Int).toNat := ⟨_, rfl⟩
                  have hy39 : y280.length = x2_2.length - (1 : Int).toNat := (by rw [Ny280.out, List.length_drop] <;> omega)
                  rw [show (x2_2).drop (1 : Int).toNat = y280 from Ny280.out.symm] at hr39
                  replace hr39 : Kd.F (Kd.int .i64) _ _ A39 y280.length y280 := (by rw [hA39]; exact hr39)
                  rw [← hy39, ← hA39, ← hc39] at hcut39
                  have HO284 := Aside0.mk (show Kd.V (Kd.int .i64) 3 _ w.heap.size _ (.slice A39 y280.length c39) y280 from Kd.V_mk (by rw [hy39, hc39]; exact Nat.sub_le_sub_right hroom39 _) hr39)
                  have HC284 := Aside0.mk (show y280.length ≤ c39 from by rw [hy39, hc39]; exact Nat.sub_le_sub_right hroom39 _)
                  clear hr39 hC39 hroom39 hi039 hsz39 hc39
                  have KY39 := Aside0.mk hy39
                  have KA39 := Aside0.mk hA39
                  clear hy39 hA39
                  replace q39 := eq_true q39
                  go_wp2_with (first | ((with_reducible refine gate_builtin (b := .append) (xs := #[.tmp 87, .tmp 89]) rfl ?_); (try (refine gate_guard (by rfl) ?_; dsimp only)); at_builtin; refine Kd.R_append (Kd.int .i64) (w0 := w) w.heap.size rfl (.tmp 87) (.tmp 89) 33 3 (.int .i64 0) 8 rfl Try.underlying33 info3 rfl (by decide) (by omega) u8 x8_2 x9_2 [.int .i64 x9_2] (fun k_ => (w.heap.size ≤ k_)) (fun _ => False) rfl rfl ?aP (fun _ hk => hk.elim) ?aF ?aO ?aB ?aS ?aL ?_; (case aP => exact rfl); (case aB => exact (by repeat (first | (with_reducible first | exact HB.out | apply pbA_ | apply pbN_ | apply pb1_) | exact HB.out))); (case aF => exact (fun k_ hk => (Nat.le_trans (pbS_ (by repeat (first | (with_reducible first | exact HB.out | apply pbA_ | apply pbN_ | apply pb1_) | exact HB.out))) hk))); (case aO => exact (by (with_reducible repeat (first | apply Kd.rA_ | apply Kd.rN_ | apply Kd.rD_)); exact HO_8.out)); (case aS => exact (pbS_ (by repeat (first | (with_reducible first | exact HB.out | apply pbA_ | apply pbN_ | apply pb1_) | exact HB.out)))); (case aL => have := LMc38.out; omega); intro v286 w41 ho hb hg hat; rw [← Ny285.out] at ho; have n0_ := Aside0.mk (Kd.V_afterv (ok := (fun k_ => ((P1_ k_ ∨ P2_ k_) ∨ w.heap.size ≤ k_))) (by (with_reducible repeat (first | apply Kd.V_alloc | apply Kd.V_drewN | apply Kd.V_drew)); exact HO_1.out) hg hat); have n1_ := Aside0.mk (Kd.V_afterv (ok := (fun k_ => ((P1_ k_ ∨ P2_ k_) ∨ w.heap.size ≤ k_))) (by (with_reducible repeat (first | apply Kd.V_alloc | apply Kd.V_drewN | apply Kd.V_drew)); exact HO_2.out) hg hat); have n2_ := Aside0.mk (Kd.V_afterv (ok := (fun k_ => ((P1_ k_ ∨ P2_ k_) ∨ w.heap.size ≤ k_))) (by (with_reducible repeat (first | apply Kd.V_alloc | apply Kd.V_drewN | apply Kd.V_drew)); exact HO284.out) hg hat); have n3_ := Aside0.mk (hb); have n4_ := Aside0.mk (ho); clear HO_1; clear HO_2; clear HO284; clear HB; clear HO_8; have HO_1 := n0_; have HO_2 := n1_; have HO284 := n2_; have HB := n3_; have HO287 := n4_; clear n0_ n1_ n2_ n3_ n4_; clear ho hb hg hat))
                  repeat (go_quiet (first | ((with_reducible refine gate_builtin (b := .append) (xs := #[.tmp 87, .tmp 89]) rfl ?_); (try (refine gate_guard (by rfl) ?_; dsimp only)); at_builtin; refine Kd.R_append (Kd.int .i64) (w0 := w) w.heap.size rfl (.tmp 87) (.tmp 89) 33 3 (.int .i64 0) 8 rfl Try.underlying33 info3 rfl (by decide) (by omega) u8 x8_2 x9_2 [.int .i64 x9_2] (fun k_ => (w.heap.size ≤ k_)) (fun _ => False) rfl rfl ?aP (fun _ hk => hk.elim) ?aF ?aO ?aB ?aS ?aL ?_; (case aP => exact rfl); (case aB => exact (by repeat (first | (with_reducible first | exact HB.out | apply pbA_ | apply pbN_ | apply pb1_) | exact HB.out))); (case aF => exact (fun k_ hk => (Nat.le_trans (pbS_ (by repeat (first | (with_reducible first | exact HB.out | apply pbA_ | apply pbN_ | apply pb1_) | exact HB.out))) hk))); (case aO => exact (by (with_reducible repeat (first | apply Kd.rA_ | apply Kd.rN_ | apply Kd.rD_)); exact HO_8.out)); (case aS => exact (pbS_ (by repeat (first | (with_reducible first | exact HB.out | apply pbA_ | apply pbN_ | apply pb1_) | exact HB.out)))); (case aL => have := LMc38.out; omega); intro v286 w41 ho hb hg hat; rw [← Ny285.out] at ho; have n0_ := Aside0.mk (Kd.V_afterv (ok := (fun k_ => ((P1_ k_ ∨ P2_ k_) ∨ w.heap.size ≤ k_))) (by (with_reducible repeat (first | apply Kd.V_alloc | apply Kd.V_drewN | apply Kd.V_drew)); exact HO_1.out) hg hat); have n1_ := Aside0.mk (Kd.V_afterv (ok := (fun k_ => ((P1_ k_ ∨ P2_ k_) ∨ w.heap.size ≤ k_))) (by (with_reducible repeat (first | apply Kd.V_alloc | apply Kd.V_drewN | apply Kd.V_drew)); exact HO_2.out) hg hat); have n2_ := Aside0.mk (Kd.V_afterv (ok := (fun k_ => ((P1_ k_ ∨ P2_ k_) ∨ w.heap.size ≤ k_))) (by (with_reducible repeat (first | apply Kd.V_alloc | apply Kd.V_drewN | apply Kd.V_drew)); exact HO284.out) hg hat); have n3_ := Aside0.mk (hb); have n4_ := Aside0.mk (ho); clear HO_1; clear HO_2; clear HO284; clear HB; clear HO_8; have HO_1 := n0_; have HO_2 := n1_; have HO284 := n2_; have HB := n3_; have HO287 := n4_; clear n0_ n1_ n2_ n3_ n4_; clear ho hb hg hat)); try go_wp2_with (first | ((with_reducible refine gate_builtin (b := .append) (xs := #[.tmp 87, .tmp 89]) rfl ?_); (try (refine gate_guard (by rfl) ?_; dsimp only)); at_builtin; refine Kd.R_append (Kd.int .i64) (w0 := w) w.heap.size rfl (.tmp 87) (.tmp 89) 33 3 (.int .i64 0) 8 rfl Try.underlying33 info3 rfl (by decide) (by omega) u8 x8_2 x9_2 [.int .i64 x9_2] (fun k_ => (w.heap.size ≤ k_)) (fun _ => False) rfl rfl ?aP (fun _ hk => hk.elim) ?aF ?aO ?aB ?aS ?aL ?_; (case aP => exact rfl); (case aB => exact (by repeat (first | (with_reducible first | exact HB.out | apply pbA_ | apply pbN_ | apply pb1_) | exact HB.out))); (case aF => exact (fun k_ hk => (Nat.le_trans (pbS_ (by repeat (first | (with_reducible first | exact HB.out | apply pbA_ | apply pbN_ | apply pb1_) | exact HB.out))) hk))); (case aO => exact (by (with_reducible repeat (first | apply Kd.rA_ | apply Kd.rN_ | apply Kd.rD_)); exact HO_8.out)); (case aS => exact (pbS_ (by repeat (first | (with_reducible first | exact HB.out | apply pbA_ | apply pbN_ | apply pb1_) | exact HB.out)))); (case aL => have := LMc38.out; omega); intro v286 w41 ho hb hg hat; rw [← Ny285.out] at ho; have n0_ := Aside0.mk (Kd.V_afterv (ok := (fun k_ => ((P1_ k_ ∨ P2_ k_) ∨ w.heap.size ≤ k_))) (by (with_reducible repeat (first | apply Kd.V_alloc | apply Kd.V_drewN | apply Kd.V_drew)); exact HO_1.out) hg hat); have n1_ := Aside0.mk (Kd.V_afterv (ok := (fun k_ => ((P1_ k_ ∨ P2_ k_) ∨ w.heap.size ≤ k_))) (by (with_reducible repeat (first | apply Kd.V_alloc | apply Kd.V_drewN | apply Kd.V_drew)); exact HO_2.out) hg hat); have n2_ := Aside0.mk (Kd.V_afterv (ok := (fun k_ => ((P1_ k_ ∨ P2_ k_) ∨ w.heap.size ≤ k_))) (by (with_reducible repeat (first | apply Kd.V_alloc | apply Kd.V_drewN | apply Kd.V_drew)); exact HO284.out) hg hat); have n3_ := Aside0.mk (hb); have n4_ := Aside0.mk (ho); clear HO_1; clear HO_2; clear HO284; clear HB; clear HO_8; have HO_1 := n0_; have HO_2 := n1_; have HO284 := n2_; have HB := n3_; have HO287 := n4_; clear n0_ n1_ n2_ n3_ n4_; clear ho hb hg hat)))
                  go_roundg kj28
                  case measure => have := HJ3.out; have := HK2.out; have := HJ8.out; have := HJ13.out; have := HJ28.out; omega
                  case rel => exact ⟨(x1_28), (y280), (y285), (wrap64 (x9_2 + 1)), (by first | rfl | (simp; done) | (simp [*]; done)), H', ⟨by have := HJ3.out; have := HK2.out; have := HJ8.out; have := HJ13.out; have := HJ28.out; omega⟩, ⟨by (with_reducible repeat (first | apply Kd.V_alloc | apply Kd.V_drewN | apply Kd.V_drew)); exact HO_1.out⟩, ⟨by (with_reducible repeat (first | apply Kd.V_alloc | apply Kd.V_drewN | apply Kd.V_drew)); exact HO284.out⟩, ⟨by (with_reducible repeat (first | apply Kd.rA_ | apply Kd.rN_ | apply Kd.rD_)); exact HO287.out⟩, ⟨by repeat (first | (with_reducible first | exact HB.out | apply pbA_ | apply pbN_ | apply pb1_) | exact HB.out)⟩⟩
                 ·rw [if_neg c38] at H
                  exact absurd H (by simp)
                ·replace c37 := Bool.eq_false_iff.mpr c37
                 subst c37
                 have H1 : (if a0 = 1 then (if x8_2.length < 17592186044416 then (dragnetref14_Join.l0 kj28 a0 x1_28 y280 (x8_2 ++ [x9_2]) (wrap64 (x9_2 + 1))) else (none)) else (if a0 = 2 then (dragnetref14_Join.l0 kj28 a0 x1_28 y280 x8_2 (wrap64 (x9_2 + 1))) else (dragnetref14_Join.l0 kj28 a0 x1_28 y280 x8_2 (wrap64 (x9_2 + 1))))) = some (r1, r2) := by rw [if_neg (show ¬ (false = true) by decide)] at H; exact H
                 clear H
                 have H := H1
                 clear H1
                 by_cases c42 : a0 = 1
                 ·rw [if_pos c42] at H
                  have c42b0 : (a0 == 1) = true := beq_iff_eq.mpr c42
                  have c42b1 : (a0 != 1) = false := bne_eq_false_iff_eq.mpr c42
                  clear c42
                  by_cases c43 : x8_2.length < 17592186044416
                  ·rw [if_pos c43] at H
                   have LMc43 := Aside0.mk c43
                   clear c43
                   obtain ⟨y288, hy288⟩ : ∃ y_ : List Int, y_ = (x8_2 ++ [x9_2]) := ⟨_, rfl⟩
                   replace H : (dragnetref14_Join.l0 kj28 a0 x1_28 y280 y288 (wrap64 (x9_2 + 1))) = some (r1, r2) := by first | (rw [hy288]; with_reducible exact H) | (have H2_ := (Option.bind_some _ _).symm.trans H; rw [hy288]; with_reducible exact H2_) | (have H2_ := (Option.bind_some _ _).symm.trans H; with_reducible exact H2_) | with_reducible exact H | (rw [hy288]; exact H) | exact H
                   have Ny288 := Aside0.mk hy288
                   clear hy288
                   have H' := Aside0.mk H
                   clear H
                   obtain ⟨Ao45, co45, eo45⟩ := Kd.V_slice HO_2.out
                   subst eo45
                   have q44 : (1 : Int) ≤ ((x2_2.length : Int) : Int) := of_decide_eq_true (by first | (with_reducible assumption) | assumption)
                   obtain ⟨i044, hi044, _, hsz44, _⟩ := info_parts info3
                   have hroom44 : x2_2.length ≤ co45 := (Kd.V_reads' HO_2.out).2.1
                   have hC44 : Kd.F (Kd.int .i64) _ _ Ao45 x2_2.length x2_2 := (Kd.V_at (base := w.heap.size) HO_2.out).2.2
                   have hcut44 := cut_from (P := Try.prog) 33 3 .i64 Try.underlying33 hi044 1 hsz44 Ao45 x2_2.length co45 1 (by omega) q44
                   have hr44 := Kd.F_cut (m := (1 : Int).toNat) (c := co45) hC44 (by omega) hroom44
                   obtain ⟨A44, hA44⟩ : ∃ A1, A1 = (if co45 = (1 : Int).toNat then Ao45 else (Ao45 : Option Addr).map (·.add ((1 : Int).toNat * 1))) := ⟨_, rfl⟩
                   obtain ⟨c44, hc44⟩ : ∃ c1, c1 = co45 - (1 : Int).toNat := ⟨_, rfl⟩
                   have hy44 : y280.length = x2_2.length - (1 : Int).toNat := (by rw [Ny280.out, List.length_drop] <;> omega)
                   rw [show (x2_2).drop (1 : Int).toNat = y280 from Ny280.out.symm] at hr44
                   replace hr44 : Kd.F (Kd.int .i64) _ _ A44 y280.length y280 := (by rw [hA44]; exact hr44)
                   rw [← hy44, ← hA44, ← hc44] at hcut44
                   have HO284 := Aside0.mk (show Kd.V (Kd.int .i64) 3 _ w.heap.size _ (.slice A44 y280.length c44) y280 from Kd.V_mk (by rw [hy44, hc44]; exact Nat.sub_le_sub_right hroom44 _) hr44)
                   have HC284 := Aside0.mk (show y280.length ≤ c44 from by rw [hy44, hc44]; exact Nat.sub_le_sub_right hroom44 _)
                   clear hr44 hC44 hroom44 hi044 hsz44 hc44
                   have KY44 := Aside0.mk hy44
                   have KA44 := Aside0.mk hA44
                   clear hy44 hA44
                   replace q44 := eq_true q44
                   go_wp2_with (first | ((with_reducible refine gate_builtin (b := .append) (xs := #[.tmp 87, .tmp 89]) rfl ?_); (try (refine gate_guard (by rfl) ?_; dsimp only)); at_builtin; refine Kd.R_append (Kd.int .i64) (w0 := w) w.heap.size rfl (.tmp 87) (.tmp 89) 33 3 (.int .i64 0) 8 rfl Try.underlying33 info3 rfl (by decide) (by omega) u8 x8_2 x9_2 [.int .i64 x9_2] (fun k_ => (w.heap.size ≤ k_)) (fun _ => False) rfl rfl ?aP (fun _ hk => hk.elim) ?aF ?aO ?aB ?aS ?aL ?_; (case aP => exact rfl); (case aB => exact (by repeat (first | (with_reducible first | exact HB.out | apply pbA_ | apply pbN_ | apply pb1_) | exact HB.out))); (case aF => exact (fun k_ hk => (Nat.le_trans (pbS_ (by repeat (first | (with_reducible first | exact HB.out | apply pbA_ | apply pbN_ | apply pb1_) | exact HB.out))) hk))); (case aO => exact (by (with_reducible repeat (first | apply Kd.rA_ | apply Kd.rN_ | apply Kd.rD_)); exact HO_8.out)); (case aS => exact (pbS_ (by repeat (first | (with_reducible first | exact HB.out | apply pbA_ | apply pbN_ | apply pb1_) | exact HB.out)))); (case aL => have := LMc43.out; omega); intro v289 w46 ho hb hg hat; rw [← Ny288.out] at ho; have n0_ := Aside0.mk (Kd.V_afterv (ok := (fun k_ => ((P1_ k_ ∨ P2_ k_) ∨ w.heap.size ≤ k_))) (by (with_reducible repeat (first | apply Kd.V_alloc | apply Kd.V_drewN | apply Kd.V_drew)); exact HO_1.out) hg hat); have n1_ := Aside0.mk (Kd.V_afterv (ok := (fun k_ => ((P1_ k_ ∨ P2_ k_) ∨ w.heap.size ≤ k_))) (by (with_reducible repeat (first | apply Kd.V_alloc | apply Kd.V_drewN | apply Kd.V_drew)); exact HO_2.out) hg hat); have n2_ := Aside0.mk (Kd.V_afterv (ok := (fun k_ => ((P1_ k_ ∨ P2_ k_) ∨ w.heap.size ≤ k_))) (by (with_reducible repeat (first | apply Kd.V_alloc | apply Kd.V_drewN | apply Kd.V_drew)); exact HO284.out) hg hat); have n3_ := Aside0.mk (hb); have n4_ := Aside0.mk (ho); clear HO_1; clear HO_2; clear HO284; clear HB; clear HO_8; have HO_1 := n0_; have HO_2 := n1_; have HO284 := n2_; have HB := n3_; have HO290 := n4_; clear n0_ n1_ n2_ n3_ n4_; clear ho hb hg hat))
                   repeat (go_quiet (first | ((with_reducible refine gate_builtin (b := .append) (xs := #[.tmp 87, .tmp 89]) rfl ?_); (try (refine gate_guard (by rfl) ?_; dsimp only)); at_builtin; refine Kd.R_append (Kd.int .i64) (w0 := w) w.heap.size rfl (.tmp 87) (.tmp 89) 33 3 (.int .i64 0) 8 rfl Try.underlying33 info3 rfl (by decide) (by omega) u8 x8_2 x9_2 [.int .i64 x9_2] (fun k_ => (w.heap.size ≤ k_)) (fun _ => False) rfl rfl ?aP (fun _ hk => hk.elim) ?aF ?aO ?aB ?aS ?aL ?_; (case aP => exact rfl); (case aB => exact (by repeat (first | (with_reducible first | exact HB.out | apply pbA_ | apply pbN_ | apply pb1_) | exact HB.out))); (case aF => exact (fun k_ hk => (Nat.le_trans (pbS_ (by repeat (first | (with_reducible first | exact HB.out | apply pbA_ | apply pbN_ | apply pb1_) | exact HB.out))) hk))); (case aO => exact (by (with_reducible repeat (first | apply Kd.rA_ | apply Kd.rN_ | apply Kd.rD_)); exact HO_8.out)); (case aS => exact (pbS_ (by repeat (first | (with_reducible first | exact HB.out | apply pbA_ | apply pbN_ | apply pb1_) | exact HB.out)))); (case aL => have := LMc43.out; omega); intro v289 w46 ho hb hg hat; rw [← Ny288.out] at ho; have n0_ := Aside0.mk (Kd.V_afterv (ok := (fun k_ => ((P1_ k_ ∨ P2_ k_) ∨ w.heap.size ≤ k_))) (by (with_reducible repeat (first | apply Kd.V_alloc | apply Kd.V_drewN | apply Kd.V_drew)); exact HO_1.out) hg hat); have n1_ := Aside0.mk (Kd.V_afterv (ok := (fun k_ => ((P1_ k_ ∨ P2_ k_) ∨ w.heap.size ≤ k_))) (by (with_reducible repeat (first | apply Kd.V_alloc | apply Kd.V_drewN | apply Kd.V_drew)); exact HO_2.out) hg hat); have n2_ := Aside0.mk (Kd.V_afterv (ok := (fun k_ => ((P1_ k_ ∨ P2_ k_) ∨ w.heap.size ≤ k_))) (by (with_reducible repeat (first | apply Kd.V_alloc | apply Kd.V_drewN | apply Kd.V_drew)); exact HO284.out) hg hat); have n3_ := Aside0.mk (hb); have n4_ := Aside0.mk (ho); clear HO_1; clear HO_2; clear HO284; clear HB; clear HO_8; have HO_1 := n0_; have HO_2 := n1_; have HO284 := n2_; have HB := n3_; have HO290 := n4_; clear n0_ n1_ n2_ n3_ n4_; clear ho hb hg hat)); try go_wp2_with (first | ((with_reducible refine gate_builtin (b := .append) (xs := #[.tmp 87, .tmp 89]) rfl ?_); (try (refine gate_guard (by rfl) ?_; dsimp only)); at_builtin; refine Kd.R_append (Kd.int .i64) (w0 := w) w.heap.size rfl (.tmp 87) (.tmp 89) 33 3 (.int .i64 0) 8 rfl Try.underlying33 info3 rfl (by decide) (by omega) u8 x8_2 x9_2 [.int .i64 x9_2] (fun k_ => (w.heap.size ≤ k_)) (fun _ => False) rfl rfl ?aP (fun _ hk => hk.elim) ?aF ?aO ?aB ?aS ?aL ?_; (case aP => exact rfl); (case aB => exact (by repeat (first | (with_reducible first | exact HB.out | apply pbA_ | apply pbN_ | apply pb1_) | exact HB.out))); (case aF => exact (fun k_ hk => (Nat.le_trans (pbS_ (by repeat (first | (with_reducible first | exact HB.out | apply pbA_ | apply pbN_ | apply pb1_) | exact HB.out))) hk))); (case aO => exact (by (with_reducible repeat (first | apply Kd.rA_ | apply Kd.rN_ | apply Kd.rD_)); exact HO_8.out)); (case aS => exact (pbS_ (by repeat (first | (with_reducible first | exact HB.out | apply pbA_ | apply pbN_ | apply pb1_) | exact HB.out)))); (case aL => have := LMc43.out; omega); intro v289 w46 ho hb hg hat; rw [← Ny288.out] at ho; have n0_ := Aside0.mk (Kd.V_afterv (ok := (fun k_ => ((P1_ k_ ∨ P2_ k_) ∨ w.heap.size ≤ k_))) (by (with_reducible repeat (first | apply Kd.V_alloc | apply Kd.V_drewN | apply Kd.V_drew)); exact HO_1.out) hg hat); have n1_ := Aside0.mk (Kd.V_afterv (ok := (fun k_ => ((P1_ k_ ∨ P2_ k_) ∨ w.heap.size ≤ k_))) (by (with_reducible repeat (first | apply Kd.V_alloc | apply Kd.V_drewN | apply Kd.V_drew)); exact HO_2.out) hg hat); have n2_ := Aside0.mk (Kd.V_afterv (ok := (fun k_ => ((P1_ k_ ∨ P2_ k_) ∨ w.heap.size ≤ k_))) (by (with_reducible repeat (first | apply Kd.V_alloc | apply Kd.V_drewN | apply Kd.V_drew)); exact HO284.out) hg hat); have n3_ := Aside0.mk (hb); have n4_ := Aside0.mk (ho); clear HO_1; clear HO_2; clear HO284; clear HB; clear HO_8; have HO_1 := n0_; have HO_2 := n1_; have HO284 := n2_; have HB := n3_; have HO290 := n4_; clear n0_ n1_ n2_ n3_ n4_; clear ho hb hg hat)))
                   go_roundg kj28
                   case measure => have := HJ3.out; have := HK2.out; have := HJ8.out; have := HJ13.out; have := HJ28.out; omega
                   case rel => exact ⟨(x1_28), (y280), (y288), (wrap64 (x9_2 + 1)), (by first | rfl | (simp; done) | (simp [*]; done)), H', ⟨by have := HJ3.out; have := HK2.out; have := HJ8.out; have := HJ13.out; have := HJ28.out; omega⟩, ⟨by (with_reducible repeat (first | apply Kd.V_alloc | apply Kd.V_drewN | apply Kd.V_drew)); exact HO_1.out⟩, ⟨by (with_reducible repeat (first | apply Kd.V_alloc | apply Kd.V_drewN | apply Kd.V_drew)); exact HO284.out⟩, ⟨by (with_reducible repeat (first | apply Kd.rA_ | apply Kd.rN_ | apply Kd.rD_)); exact HO290.out⟩, ⟨by repeat (first | (with_reducible first | exact HB.out | apply pbA_ | apply pbN_ | apply pb1_) | exact HB.out)⟩⟩
                  ·rw [if_neg c43] at H
                   exact absurd H (by simp)
                 ·rw [if_neg c42] at H
                  have c42b0 : (a0 == 1) = false := beq_eq_false_iff_ne.mpr c42
                  have c42b1 : (a0 != 1) = true := bne_iff_ne.mpr c42
                  by_cases c47 : a0 = 2
                  ·rw [if_pos c47] at H
                   have c47b0 : (a0 == 2) = true := beq_iff_eq.mpr c47
                   have c47b1 : (a0 != 2) = false := bne_eq_false_iff_eq.mpr c47
                   clear c47
                   have H' := Aside0.mk H
                   clear H
                   obtain ⟨Ao49, co49, eo49⟩ := Kd.V_slice HO_2.out
                   subst eo49
                   have q48 : (1 : Int) ≤ ((x2_2.length : Int) : Int) := of_decide_eq_true (by first | (with_reducible assumption) | assumption)
                   obtain ⟨i048, hi048, _, hsz48, _⟩ := info_parts info3
                   have hroom48 : x2_2.length ≤ co49 := (Kd.V_reads' HO_2.out).2.1
                   have hC48 : Kd.F (Kd.int .i64) _ _ Ao49 x2_2.length x2_2 := (Kd.V_at (base := w.heap.size) HO_2.out).2.2
                   have hcut48 := cut_from (P := Try.prog) 33 3 .i64 Try.underlying33 hi048 1 hsz48 Ao49 x2_2.length co49 1 (by omega) q48
                   have hr48 := Kd.F_cut (m := (1 : Int).toNat) (c := co49) hC48 (by omega) hroom48
                   obtain ⟨A48, hA48⟩ : ∃ A1, A1 = (if co49 = (1 : Int).toNat then Ao49 else (Ao49 : Option Addr).map (·.add ((1 : Int).toNat * 1))) := ⟨_, rfl⟩
                   obtain ⟨c48, hc48⟩ : ∃ c1, c1 = co49 - (1 : Int).toNat := ⟨_, rfl⟩
                   have hy48 : y280.length = x2_2.length - (1 : Int).toNat := (by rw [Ny280.out, List.length_drop] <;> omega)
                   rw [show (x2_2).drop (1 : Int).toNat = y280 from Ny280.out.symm] at hr48
                   replace hr48 : Kd.F (Kd.int .i64) _ _ A48 y280.length y280 := (by rw [hA48]; exact hr48)
                   rw [← hy48, ← hA48, ← hc48] at hcut48
                   have HO284 := Aside0.mk (show Kd.V (Kd.int .i64) 3 _ w.heap.size _ (.slice A48 y280.length c48) y280 from Kd.V_mk (by rw [hy48, hc48]; exact Nat.sub_le_sub_right hroom48 _) hr48)
                   have HC284 := Aside0.mk (show y280.length ≤ c48 from by rw [hy48, hc48]; exact Nat.sub_le_sub_right hroom48 _)
                   clear hr48 hC48 hroom48 hi048 hsz48 hc48
                   have KY48 := Aside0.mk hy48
                   have KA48 := Aside0.mk hA48
                   clear hy48 hA48
                   replace q48 := eq_true q48
                   go_wp2
                   repeat (go_quiet (fail); try go_wp2)
                   go_roundg kj28
                   case measure => have := HJ3.out; have := HK2.out; have := HJ8.out; have := HJ13.out; have := HJ28.out; omega
                   case rel => exact ⟨(x1_28), (y280), (x8_2), (wrap64 (x9_2 + 1)), (by first | rfl | (simp; done) | (simp [*]; done)), H', ⟨by have := HJ3.out; have := HK2.out; have := HJ8.out; have := HJ13.out; have := HJ28.out; omega⟩, ⟨by (with_reducible repeat (first | apply Kd.V_alloc | apply Kd.V_drewN | apply Kd.V_drew)); exact HO_1.out⟩, ⟨by (with_reducible repeat (first | apply Kd.V_alloc | apply Kd.V_drewN | apply Kd.V_drew)); exact HO284.out⟩, ⟨by (with_reducible repeat (first | apply Kd.rA_ | apply Kd.rN_ | apply Kd.rD_)); exact HO_8.out⟩, ⟨by repeat (first | (with_reducible first | exact HB.out | apply pbA_ | apply pbN_ | apply pb1_) | exact HB.out)⟩⟩
                  ·rw [if_neg c47] at H
                   have c47b0 : (a0 == 2) = false := beq_eq_false_iff_ne.mpr c47
                   have c47b1 : (a0 != 2) = true := bne_iff_ne.mpr c47
                   have H' := Aside0.mk H
                   clear H
                   obtain ⟨Ao51, co51, eo51⟩ := Kd.V_slice HO_2.out
                   subst eo51
                   have q50 : (1 : Int) ≤ ((x2_2.length : Int) : Int) := of_decide_eq_true (by first | (with_reducible assumption) | assumption)
                   obtain ⟨i050, hi050, _, hsz50, _⟩ := info_parts info3
                   have hroom50 : x2_2.length ≤ co51 := (Kd.V_reads' HO_2.out).2.1
                   have hC50 : Kd.F (Kd.int .i64) _ _ Ao51 x2_2.length x2_2 := (Kd.V_at (base := w.heap.size) HO_2.out).2.2
                   have hcut50 := cut_from (P := Try.prog) 33 3 .i64 Try.underlying33 hi050 1 hsz50 Ao51 x2_2.length co51 1 (by omega) q50
                   have hr50 := Kd.F_cut (m := (1 : Int).toNat) (c := co51) hC50 (by omega) hroom50
                   obtain ⟨A50, hA50⟩ : ∃ A1, A1 = (if co51 = (1 : Int).toNat then Ao51 else (Ao51 : Option Addr).map (·.add ((1 : Int).toNat * 1))) := ⟨_, rfl⟩
                   obtain ⟨c50, hc50⟩ : ∃ c1, c1 = co51 - (1 : Int).toNat := ⟨_, rfl⟩
                   have hy50 : y280.length = x2_2.length - (1 : Int).toNat := (by rw [Ny280.out, List.length_drop] <;> omega)
                   rw [show (x2_2).drop (1 : Int).toNat = y280 from Ny280.out.symm] at hr50
                   replace hr50 : Kd.F (Kd.int .i64) _ _ A50 y280.length y280 := (by rw [hA50]; exact hr50)
                   rw [← hy50, ← hA50, ← hc50] at hcut50
                   have HO284 := Aside0.mk (show Kd.V (Kd.int .i64) 3 _ w.heap.size _ (.slice A50 y280.length c50) y280 from Kd.V_mk (by rw [hy50, hc50]; exact Nat.sub_le_sub_right hroom50 _) hr50)
                   have HC284 := Aside0.mk (show y280.length ≤ c50 from by rw [hy50, hc50]; exact Nat.sub_le_sub_right hroom50 _)
                   clear hr50 hC50 hroom50 hi050 hsz50 hc50
                   have KY50 := Aside0.mk hy50
                   have KA50 := Aside0.mk hA50
                   clear hy50 hA50
                   replace q50 := eq_true q50
                   go_wp2
                   repeat (go_quiet (fail); try go_wp2)
                   go_roundg kj28
                   case measure => have := HJ3.out; have := HK2.out; have := HJ8.out; have := HJ13.out; have := HJ28.out; omega
                   case rel => exact ⟨(x1_28), (y280), (x8_2), (wrap64 (x9_2 + 1)), (by first | rfl | (simp; done) | (simp [*]; done)), H', ⟨by have := HJ3.out; have := HK2.out; have := HJ8.out; have := HJ13.out; have := HJ28.out; omega⟩, ⟨by (with_reducible repeat (first | apply Kd.V_alloc | apply Kd.V_drewN | apply Kd.V_drew)); exact HO_1.out⟩, ⟨by (with_reducible repeat (first | apply Kd.V_alloc | apply Kd.V_drewN | apply Kd.V_drew)); exact HO284.out⟩, ⟨by (with_reducible repeat (first | apply Kd.rA_ | apply Kd.rN_ | apply Kd.rD_)); exact HO_8.out⟩, ⟨by repeat (first | (with_reducible first | exact HB.out | apply pbA_ | apply pbN_ | apply pb1_) | exact HB.out)⟩⟩
               ·rw [if_neg c36] at H
                have c36b0 : (a0 == 0) = false := beq_eq_false_iff_ne.mpr c36
                have c36b1 : (a0 != 0) = true := bne_iff_ne.mpr c36
                by_cases c52 : a0 = 1
                ·rw [if_pos c52] at H
                 have c52b0 : (a0 == 1) = true := beq_iff_eq.mpr c52
                 have c52b1 : (a0 != 1) = false := bne_eq_false_iff_eq.mpr c52
                 clear c52
                 by_cases c53 : x10_13 = true
                 ·subst c53
                  have H1 : (if x8_2.length < 17592186044416 then (dragnetref14_Join.l0 kj28 a0 x1_28 y280 (x8_2 ++ [x9_2]) (wrap64 (x9_2 + 1))) else (none)) = some (r1, r2) := by rw [if_pos rfl] at H; exact H
                  clear H
                  have H := H1
                  clear H1
                  by_cases c54 : x8_2.length < 17592186044416
                  ·rw [if_pos c54] at H
                   have LMc54 := Aside0.mk c54
                   clear c54
                   obtain ⟨y291, hy291⟩ : ∃ y_ : List Int, y_ = (x8_2 ++ [x9_2]) := ⟨_, rfl⟩
                   replace H : (dragnetref14_Join.l0 kj28 a0 x1_28 y280 y291 (wrap64 (x9_2 + 1))) = some (r1, r2) := by first | (rw [hy291]; with_reducible exact H) | (have H2_ := (Option.bind_some _ _).symm.trans H; rw [hy291]; with_reducible exact H2_) | (have H2_ := (Option.bind_some _ _).symm.trans H; with_reducible exact H2_) | with_reducible exact H | (rw [hy291]; exact H) | exact H
                   have Ny291 := Aside0.mk hy291
                   clear hy291
                   have H' := Aside0.mk H
                   clear H
                   obtain ⟨Ao56, co56, eo56⟩ := Kd.V_slice HO_2.out
                   subst eo56
                   have q55 : (1 : Int) ≤ ((x2_2.length : Int) : Int) := of_decide_eq_true (by first | (with_reducible assumption) | assumption)
                   obtain ⟨i055, hi055, _, hsz55, _⟩ := info_parts info3
                   have hroom55 : x2_2.length ≤ co56 := (Kd.V_reads' HO_2.out).2.1
                   have hC55 : Kd.F (Kd.int .i64) _ _ Ao56 x2_2.length x2_2 := (Kd.V_at (base := w.heap.size) HO_2.out).2.2
                   have hcut55 := cut_from (P := Try.prog) 33 3 .i64 Try.underlying33 hi055 1 hsz55 Ao56 x2_2.length co56 1 (by omega) q55
                   have hr55 := Kd.F_cut (m := (1 : Int).toNat) (c := co56) hC55 (by omega) hroom55
                   obtain ⟨A55, hA55⟩ : ∃ A1, A1 = (if co56 = (1 : Int).toNat then Ao56 else (Ao56 : Option Addr).map (·.add ((1 : Int).toNat * 1))) := ⟨_, rfl⟩
                   obtain ⟨c55, hc55⟩ : ∃ c1, c1 = co56 - (1 : Int).toNat := ⟨_, rfl⟩
                   have hy55 : y280.length = x2_2.length - (1 : Int).toNat := (by rw [Ny280.out, List.length_drop] <;> omega)
                   rw [show (x2_2).drop (1 : Int).toNat = y280 from Ny280.out.symm] at hr55
                   replace hr55 : Kd.F (Kd.int .i64) _ _ A55 y280.length y280 := (by rw [hA55]; exact hr55)
                   rw [← hy55, ← hA55, ← hc55] at hcut55
                   have HO284 := Aside0.mk (show Kd.V (Kd.int .i64) 3 _ w.heap.size _ (.slice A55 y280.length c55) y280 from Kd.V_mk (by rw [hy55, hc55]; exact Nat.sub_le_sub_right hroom55 _) hr55)
                   have HC284 := Aside0.mk (show y280.length ≤ c55 from by rw [hy55, hc55]; exact Nat.sub_le_sub_right hroom55 _)
                   clear hr55 hC55 hroom55 hi055 hsz55 hc55
                   have KY55 := Aside0.mk hy55
                   have KA55 := Aside0.mk hA55
                   clear hy55 hA55
                   replace q55 := eq_true q55
                   go_wp2_with (first | ((with_reducible refine gate_builtin (b := .append) (xs := #[.tmp 87, .tmp 89]) rfl ?_); (try (refine gate_guard (by rfl) ?_; dsimp only)); at_builtin; refine Kd.R_append (Kd.int .i64) (w0 := w) w.heap.size rfl (.tmp 87) (.tmp 89) 33 3 (.int .i64 0) 8 rfl Try.underlying33 info3 rfl (by decide) (by omega) u8 x8_2 x9_2 [.int .i64 x9_2] (fun k_ => (w.heap.size ≤ k_)) (fun _ => False) rfl rfl ?aP (fun _ hk => hk.elim) ?aF ?aO ?aB ?aS ?aL ?_; (case aP => exact rfl); (case aB => exact (by repeat (first | (with_reducible first | exact HB.out | apply pbA_ | apply pbN_ | apply pb1_) | exact HB.out))); (case aF => exact (fun k_ hk => (Nat.le_trans (pbS_ (by repeat (first | (with_reducible first | exact HB.out | apply pbA_ | apply pbN_ | apply pb1_) | exact HB.out))) hk))); (case aO => exact (by (with_reducible repeat (first | apply Kd.rA_ | apply Kd.rN_ | apply Kd.rD_)); exact HO_8.out)); (case aS => exact (pbS_ (by repeat (first | (with_reducible first | exact HB.out | apply pbA_ | apply pbN_ | apply pb1_) | exact HB.out)))); (case aL => have := LMc54.out; omega); intro v292 w57 ho hb hg hat; rw [← Ny291.out] at ho; have n0_ := Aside0.mk (Kd.V_afterv (ok := (fun k_ => ((P1_ k_ ∨ P2_ k_) ∨ w.heap.size ≤ k_))) (by (with_reducible repeat (first | apply Kd.V_alloc | apply Kd.V_drewN | apply Kd.V_drew)); exact HO_1.out) hg hat); have n1_ := Aside0.mk (Kd.V_afterv (ok := (fun k_ => ((P1_ k_ ∨ P2_ k_) ∨ w.heap.size ≤ k_))) (by (with_reducible repeat (first | apply Kd.V_alloc | apply Kd.V_drewN | apply Kd.V_drew)); exact HO_2.out) hg hat); have n2_ := Aside0.mk (Kd.V_afterv (ok := (fun k_ => ((P1_ k_ ∨ P2_ k_) ∨ w.heap.size ≤ k_))) (by (with_reducible repeat (first | apply Kd.V_alloc | apply Kd.V_drewN | apply Kd.V_drew)); exact HO284.out) hg hat); have n3_ := Aside0.mk (hb); have n4_ := Aside0.mk (ho); clear HO_1; clear HO_2; clear HO284; clear HB; clear HO_8; have HO_1 := n0_; have HO_2 := n1_; have HO284 := n2_; have HB := n3_; have HO293 := n4_; clear n0_ n1_ n2_ n3_ n4_; clear ho hb hg hat))
                   repeat (go_quiet (first | ((with_reducible refine gate_builtin (b := .append) (xs := #[.tmp 87, .tmp 89]) rfl ?_); (try (refine gate_guard (by rfl) ?_; dsimp only)); at_builtin; refine Kd.R_append (Kd.int .i64) (w0 := w) w.heap.size rfl (.tmp 87) (.tmp 89) 33 3 (.int .i64 0) 8 rfl Try.underlying33 info3 rfl (by decide) (by omega) u8 x8_2 x9_2 [.int .i64 x9_2] (fun k_ => (w.heap.size ≤ k_)) (fun _ => False) rfl rfl ?aP (fun _ hk => hk.elim) ?aF ?aO ?aB ?aS ?aL ?_; (case aP => exact rfl); (case aB => exact (by repeat (first | (with_reducible first | exact HB.out | apply pbA_ | apply pbN_ | apply pb1_) | exact HB.out))); (case aF => exact (fun k_ hk => (Nat.le_trans (pbS_ (by repeat (first | (with_reducible first | exact HB.out | apply pbA_ | apply pbN_ | apply pb1_) | exact HB.out))) hk))); (case aO => exact (by (with_reducible repeat (first | apply Kd.rA_ | apply Kd.rN_ | apply Kd.rD_)); exact HO_8.out)); (case aS => exact (pbS_ (by repeat (first | (with_reducible first | exact HB.out | apply pbA_ | apply pbN_ | apply pb1_) | exact HB.out)))); (case aL => have := LMc54.out; omega); intro v292 w57 ho hb hg hat; rw [← Ny291.out] at ho; have n0_ := Aside0.mk (Kd.V_afterv (ok := (fun k_ => ((P1_ k_ ∨ P2_ k_) ∨ w.heap.size ≤ k_))) (by (with_reducible repeat (first | apply Kd.V_alloc | apply Kd.V_drewN | apply Kd.V_drew)); exact HO_1.out) hg hat); have n1_ := Aside0.mk (Kd.V_afterv (ok := (fun k_ => ((P1_ k_ ∨ P2_ k_) ∨ w.heap.size ≤ k_))) (by (with_reducible repeat (first | apply Kd.V_alloc | apply Kd.V_drewN | apply Kd.V_drew)); exact HO_2.out) hg hat); have n2_ := Aside0.mk (Kd.V_afterv (ok := (fun k_ => ((P1_ k_ ∨ P2_ k_) ∨ w.heap.size ≤ k_))) (by (with_reducible repeat (first | apply Kd.V_alloc | apply Kd.V_drewN | apply Kd.V_drew)); exact HO284.out) hg hat); have n3_ := Aside0.mk (hb); have n4_ := Aside0.mk (ho); clear HO_1; clear HO_2; clear HO284; clear HB; clear HO_8; have HO_1 := n0_; have HO_2 := n1_; have HO284 := n2_; have HB := n3_; have HO293 := n4_; clear n0_ n1_ n2_ n3_ n4_; clear ho hb hg hat)); try go_wp2_with (first | ((with_reducible refine gate_builtin (b := .append) (xs := #[.tmp 87, .tmp 89]) rfl ?_); (try (refine gate_guard (by rfl) ?_; dsimp only)); at_builtin; refine Kd.R_append (Kd.int .i64) (w0 := w) w.heap.size rfl (.tmp 87) (.tmp 89) 33 3 (.int .i64 0) 8 rfl Try.underlying33 info3 rfl (by decide) (by omega) u8 x8_2 x9_2 [.int .i64 x9_2] (fun k_ => (w.heap.size ≤ k_)) (fun _ => False) rfl rfl ?aP (fun _ hk => hk.elim) ?aF ?aO ?aB ?aS ?aL ?_; (case aP => exact rfl); (case aB => exact (by repeat (first | (with_reducible first | exact HB.out | apply pbA_ | apply pbN_ | apply pb1_) | exact HB.out))); (case aF => exact (fun k_ hk => (Nat.le_trans (pbS_ (by repeat (first | (with_reducible first | exact HB.out | apply pbA_ | apply pbN_ | apply pb1_) | exact HB.out))) hk))); (case aO => exact (by (with_reducible repeat (first | apply Kd.rA_ | apply Kd.rN_ | apply Kd.rD_)); exact HO_8.out)); (case aS => exact (pbS_ (by repeat (first | (with_reducible first | exact HB.out | apply pbA_ | apply pbN_ | apply pb1_) | exact HB.out)))); (case aL => have := LMc54.out; omega); intro v292 w57 ho hb hg hat; rw [← Ny291.out] at ho; have n0_ := Aside0.mk (Kd.V_afterv (ok := (fun k_ => ((P1_ k_ ∨ P2_ k_) ∨ w.heap.size ≤ k_))) (by (with_reducible repeat (first | apply Kd.V_alloc | apply Kd.V_drewN | apply Kd.V_drew)); exact HO_1.out) hg hat); have n1_ := Aside0.mk (Kd.V_afterv (ok := (fun k_ => ((P1_ k_ ∨ P2_ k_) ∨ w.heap.size ≤ k_))) (by (with_reducible repeat (first | apply Kd.V_alloc | apply Kd.V_drewN | apply Kd.V_drew)); exact HO_2.out) hg hat); have n2_ := Aside0.mk (Kd.V_afterv (ok := (fun k_ => ((P1_ k_ ∨ P2_ k_) ∨ w.heap.size ≤ k_))) (by (with_reducible repeat (first | apply Kd.V_alloc | apply Kd.V_drewN | apply Kd.V_drew)); exact HO284.out) hg hat); have n3_ := Aside0.mk (hb); have n4_ := Aside0.mk (ho); clear HO_1; clear HO_2; clear HO284; clear HB; clear HO_8; have HO_1 := n0_; have HO_2 := n1_; have HO284 := n2_; have HB := n3_; have HO293 := n4_; clear n0_ n1_ n2_ n3_ n4_; clear ho hb hg hat)))
                   go_roundg kj28
                   case measure => have := HJ3.out; have := HK2.out; have := HJ8.out; have := HJ13.out; have := HJ28.out; omega
                   case rel => exact ⟨(x1_28), (y280), (y291), (wrap64 (x9_2 + 1)), (by first | rfl | (simp; done) | (simp [*]; done)), H', ⟨by have := HJ3.out; have := HK2.out; have := HJ8.out; have := HJ13.out; have := HJ28.out; omega⟩, ⟨by (with_reducible repeat (first | apply Kd.V_alloc | apply Kd.V_drewN | apply Kd.V_drew)); exact HO_1.out⟩, ⟨by (with_reducible repeat (first | apply Kd.V_alloc | apply Kd.V_drewN | apply Kd.V_drew)); exact HO284.out⟩, ⟨by (with_reducible repeat (first | apply Kd.rA_ | apply Kd.rN_ | apply Kd.rD_)); exact HO293.out⟩, ⟨by repeat (first | (with_reducible first | exact HB.out | apply pbA_ | apply pbN_ | apply pb1_) | exact HB.out)⟩⟩
                  ·rw [if_neg c54] at H
                   exact absurd H (by simp)
                 ·replace c53 := Bool.eq_false_iff.mpr c53
                  subst c53
                  have H1 : (if x8_2.length < 17592186044416 then (dragnetref14_Join.l0 kj28 a0 x1_28 y280 (x8_2 ++ [x9_2]) (wrap64 (x9_2 + 1))) else (none)) = some (r1, r2) := by rw [if_neg (show ¬ (false = true) by decide)] at H; exact H
                  clear H
                  have H := H1
                  clear H1
                  by_cases c58 : x8_2.length < 17592186044416
                  ·rw [if_pos c58] at H
                   have LMc58 := Aside0.mk c58
                   clear c58
                   obtain ⟨y294, hy294⟩ : ∃ y_ : List Int, y_ = (x8_2 ++ [x9_2]) := ⟨_, rfl⟩
                   replace H : (dragnetref14_Join.l0 kj28 a0 x1_28 y280 y294 (wrap64 (x9_2 + 1))) = some (r1, r2) := by first | (rw [hy294]; with_reducible exact H) | (have H2_ := (Option.bind_some _ _).symm.trans H; rw [hy294]; with_reducible exact H2_) | (have H2_ := (Option.bind_some _ _).symm.trans H; with_reducible exact H2_) | with_reducible exact H | (rw [hy294]; exact H) | exact H
                   have Ny294 := Aside0.mk hy294
                   clear hy294
                   have H' := Aside0.mk H
                   clear H
                   obtain ⟨Ao60, co60, eo60⟩ := Kd.V_slice HO_2.out
                   subst eo60
                   have q59 : (1 : Int) ≤ ((x2_2.length : Int) : Int) := of_decide_eq_true (by first | (with_reducible assumption) | assumption)
                   obtain ⟨i059, hi059, _, hsz59, _⟩ := info_parts info3
                   have hroom59 : x2_2.length ≤ co60 := (Kd.V_reads' HO_2.out).2.1
                   have hC59 : Kd.F (Kd.int .i64) _ _ Ao60 x2_2.length x2_2 := (Kd.V_at (base := w.heap.size) HO_2.out).2.2
                   have hcut59 := cut_from (P := Try.prog) 33 3 .i64 Try.underlying33 hi059 1 hsz59 Ao60 x2_2.length co60 1 (by omega) q59
                   have hr59 := Kd.F_cut (m := (1 : Int).toNat) (c := co60) hC59 (by omega) hroom59
                   obtain ⟨A59, hA59⟩ : ∃ A1, A1 = (if co60 = (1 : Int).toNat then Ao60 else (Ao60 : Option Addr).map (·.add ((1 : Int).toNat * 1))) := ⟨_, rfl⟩
                   obtain ⟨c59, hc59⟩ : ∃ c1, c1 = co60 - (1 : Int).toNat := ⟨_, rfl⟩
                   have hy59 : y280.length = x2_2.length - (1 : Int).toNat := (by rw [Ny280.out, List.length_drop] <;> omega)
                   rw [show (x2_2).drop (1 : Int).toNat = y280 from Ny280.out.symm] at hr59
                   replace hr59 : Kd.F (Kd.int .i64) _ _ A59 y280.length y280 := (by rw [hA59]; exact hr59)
                   rw [← hy59, ← hA59, ← hc59] at hcut59
                   have HO284 := Aside0.mk (show Kd.V (Kd.int .i64) 3 _ w.heap.size _ (.slice A59 y280.length c59) y280 from Kd.V_mk (by rw [hy59, hc59]; exact Nat.sub_le_sub_right hroom59 _) hr59)
                   have HC284 := Aside0.mk (show y280.length ≤ c59 from by rw [hy59, hc59]; exact Nat.sub_le_sub_right hroom59 _)
                   clear hr59 hC59 hroom59 hi059 hsz59 hc59
                   have KY59 := Aside0.mk hy59
                   have KA59 := Aside0.mk hA59
                   clear hy59 hA59
                   replace q59 := eq_true q59
                   go_wp2_with (first | ((with_reducible refine gate_builtin (b := .append) (xs := #[.tmp 87, .tmp 89]) rfl ?_); (try (refine gate_guard (by rfl) ?_; dsimp only)); at_builtin; refine Kd.R_append (Kd.int .i64) (w0 := w) w.heap.size rfl (.tmp 87) (.tmp 89) 33 3 (.int .i64 0) 8 rfl Try.underlying33 info3 rfl (by decide) (by omega) u8 x8_2 x9_2 [.int .i64 x9_2] (fun k_ => (w.heap.size ≤ k_)) (fun _ => False) rfl rfl ?aP (fun _ hk => hk.elim) ?aF ?aO ?aB ?aS ?aL ?_; (case aP => exact rfl); (case aB => exact (by repeat (first | (with_reducible first | exact HB.out | apply pbA_ | apply pbN_ | apply pb1_) | exact HB.out))); (case aF => exact (fun k_ hk => (Nat.le_trans (pbS_ (by repeat (first | (with_reducible first | exact HB.out | apply pbA_ | apply pbN_ | apply pb1_) | exact HB.out))) hk))); (case aO => exact (by (with_reducible repeat (first | apply Kd.rA_ | apply Kd.rN_ | apply Kd.rD_)); exact HO_8.out)); (case aS => exact (pbS_ (by repeat (first | (with_reducible first | exact HB.out | apply pbA_ | apply pbN_ | apply pb1_) | exact HB.out)))); (case aL => have := LMc58.out; omega); intro v295 w61 ho hb hg hat; rw [← Ny294.out] at ho; have n0_ := Aside0.mk (Kd.V_afterv (ok := (fun k_ => ((P1_ k_ ∨ P2_ k_) ∨ w.heap.size ≤ k_))) (by (with_reducible repeat (first | apply Kd.V_alloc | apply Kd.V_drewN | apply Kd.V_drew)); exact HO_1.out) hg hat); have n1_ := Aside0.mk (Kd.V_afterv (ok := (fun k_ => ((P1_ k_ ∨ P2_ k_) ∨ w.heap.size ≤ k_))) (by (with_reducible repeat (first | apply Kd.V_alloc | apply Kd.V_drewN | apply Kd.V_drew)); exact HO_2.out) hg hat); have n2_ := Aside0.mk (Kd.V_afterv (ok := (fun k_ => ((P1_ k_ ∨ P2_ k_) ∨ w.heap.size ≤ k_))) (by (with_reducible repeat (first | apply Kd.V_alloc | apply Kd.V_drewN | apply Kd.V_drew)); exact HO284.out) hg hat); have n3_ := Aside0.mk (hb); have n4_ := Aside0.mk (ho); clear HO_1; clear HO_2; clear HO284; clear HB; clear HO_8; have HO_1 := n0_; have HO_2 := n1_; have HO284 := n2_; have HB := n3_; have HO296 := n4_; clear n0_ n1_ n2_ n3_ n4_; clear ho hb hg hat))
                   repeat (go_quiet (first | ((with_reducible refine gate_builtin (b := .append) (xs := #[.tmp 87, .tmp 89]) rfl ?_); (try (refine gate_guard (by rfl) ?_; dsimp only)); at_builtin; refine Kd.R_append (Kd.int .i64) (w0 := w) w.heap.size rfl (.tmp 87) (.tmp 89) 33 3 (.int .i64 0) 8 rfl Try.underlying33 info3 rfl (by decide) (by omega) u8 x8_2 x9_2 [.int .i64 x9_2] (fun k_ => (w.heap.size ≤ k_)) (fun _ => False) rfl rfl ?aP (fun _ hk => hk.elim) ?aF ?aO ?aB ?aS ?aL ?_; (case aP => exact rfl); (case aB => exact (by repeat (first | (with_reducible first | exact HB.out | apply pbA_ | apply pbN_ | apply pb1_) | exact HB.out))); (case aF => exact (fun k_ hk => (Nat.le_trans (pbS_ (by repeat (first | (with_reducible first | exact HB.out | apply pbA_ | apply pbN_ | apply pb1_) | exact HB.out))) hk))); (case aO => exact (by (with_reducible repeat (first | apply Kd.rA_ | apply Kd.rN_ | apply Kd.rD_)); exact HO_8.out)); (case aS => exact (pbS_ (by repeat (first | (with_reducible first | exact HB.out | apply pbA_ | apply pbN_ | apply pb1_) | exact HB.out)))); (case aL => have := LMc58.out; omega); intro v295 w61 ho hb hg hat; rw [← Ny294.out] at ho; have n0_ := Aside0.mk (Kd.V_afterv (ok := (fun k_ => ((P1_ k_ ∨ P2_ k_) ∨ w.heap.size ≤ k_))) (by (with_reducible repeat (first | apply Kd.V_alloc | apply Kd.V_drewN | apply Kd.V_drew)); exact HO_1.out) hg hat); have n1_ := Aside0.mk (Kd.V_afterv (ok := (fun k_ => ((P1_ k_ ∨ P2_ k_) ∨ w.heap.size ≤ k_))) (by (with_reducible repeat (first | apply Kd.V_alloc | apply Kd.V_drewN | apply Kd.V_drew)); exact HO_2.out) hg hat); have n2_ := Aside0.mk (Kd.V_afterv (ok := (fun k_ => ((P1_ k_ ∨ P2_ k_) ∨ w.heap.size ≤ k_))) (by (with_reducible repeat (first | apply Kd.V_alloc | apply Kd.V_drewN | apply Kd.V_drew)); exact HO284.out) hg hat); have n3_ := Aside0.mk (hb); have n4_ := Aside0.mk (ho); clear HO_1; clear HO_2; clear HO284; clear HB; clear HO_8; have HO_1 := n0_; have HO_2 := n1_; have HO284 := n2_; have HB := n3_; have HO296 := n4_; clear n0_ n1_ n2_ n3_ n4_; clear ho hb hg hat)); try go_wp2_with (first | ((with_reducible refine gate_builtin (b := .append) (xs := #[.tmp 87, .tmp 89]) rfl ?_); (try (refine gate_guard (by rfl) ?_; dsimp only)); at_builtin; refine Kd.R_append (Kd.int .i64) (w0 := w) w.heap.size rfl (.tmp 87) (.tmp 89) 33 3 (.int .i64 0) 8 rfl Try.underlying33 info3 rfl (by decide) (by omega) u8 x8_2 x9_2 [.int .i64 x9_2] (fun k_ => (w.heap.size ≤ k_)) (fun _ => False) rfl rfl ?aP (fun _ hk => hk.elim) ?aF ?aO ?aB ?aS ?aL ?_; (case aP => exact rfl); (case aB => exact (by repeat (first | (with_reducible first | exact HB.out | apply pbA_ | apply pbN_ | apply pb1_) | exact HB.out))); (case aF => exact (fun k_ hk => (Nat.le_trans (pbS_ (by repeat (first | (with_reducible first | exact HB.out | apply pbA_ | apply pbN_ | apply pb1_) | exact HB.out))) hk))); (case aO => exact (by (with_reducible repeat (first | apply Kd.rA_ | apply Kd.rN_ | apply Kd.rD_)); exact HO_8.out)); (case aS => exact (pbS_ (by repeat (first | (with_reducible first | exact HB.out | apply pbA_ | apply pbN_ | apply pb1_) | exact HB.out)))); (case aL => have := LMc58.out; omega); intro v295 w61 ho hb hg hat; rw [← Ny294.out] at ho; have n0_ := Aside0.mk (Kd.V_afterv (ok := (fun k_ => ((P1_ k_ ∨ P2_ k_) ∨ w.heap.size ≤ k_))) (by (with_reducible repeat (first | apply Kd.V_alloc | apply Kd.V_drewN | apply Kd.V_drew)); exact HO_1.out) hg hat); have n1_ := Aside0.mk (Kd.V_afterv (ok := (fun k_ => ((P1_ k_ ∨ P2_ k_) ∨ w.heap.size ≤ k_))) (by (with_reducible repeat (first | apply Kd.V_alloc | apply Kd.V_drewN | apply Kd.V_drew)); exact HO_2.out) hg hat); have n2_ := Aside0.mk (Kd.V_afterv (ok := (fun k_ => ((P1_ k_ ∨ P2_ k_) ∨ w.heap.size ≤ k_))) (by (with_reducible repeat (first | apply Kd.V_alloc | apply Kd.V_drewN | apply Kd.V_drew)); exact HO284.out) hg hat); have n3_ := Aside0.mk (hb); have n4_ := Aside0.mk (ho); clear HO_1; clear HO_2; clear HO284; clear HB; clear HO_8; have HO_1 := n0_; have HO_2 := n1_; have HO284 := n2_; have HB := n3_; have HO296 := n4_; clear n0_ n1_ n2_ n3_ n4_; clear ho hb hg hat)))
                   go_roundg kj28
                   case measure => have := HJ3.out; have := HK2.out; have := HJ8.out; have := HJ13.out; have := HJ28.out; omega
                   case rel => exact ⟨(x1_28), (y280), (y294), (wrap64 (x9_2 + 1)), (by first | rfl | (simp; done) | (simp [*]; done)), H', ⟨by have := HJ3.out; have := HK2.out; have := HJ8.out; have := HJ13.out; have := HJ28.out; omega⟩, ⟨by (with_reducible repeat (first | apply Kd.V_alloc | apply Kd.V_drewN | apply Kd.V_drew)); exact HO_1.out⟩, ⟨by (with_reducible repeat (first | apply Kd.V_alloc | apply Kd.V_drewN | apply Kd.V_drew)); exact HO284.out⟩, ⟨by (with_reducible repeat (first | apply Kd.rA_ | apply Kd.rN_ | apply Kd.rD_)); exact HO296.out⟩, ⟨by repeat (first | (with_reducible first | exact HB.out | apply pbA_ | apply pbN_ | apply pb1_) | exact HB.out)⟩⟩
                  ·rw [if_neg c58] at H
                   exact absurd H (by simp)
                ·rw [if_neg c52] at H
                 have c52b0 : (a0 == 1) = false := beq_eq_false_iff_ne.mpr c52
                 have c52b1 : (a0 != 1) = true := bne_iff_ne.mpr c52
                 by_cases c62 : a0 = 2
                 ·rw [if_pos c62] at H
                  have c62b0 : (a0 == 2) = true := beq_iff_eq.mpr c62
                  have c62b1 : (a0 != 2) = false := bne_eq_false_iff_eq.mpr c62
                  clear c62
                  by_cases c63 : x10_13 = true
                  ·subst c63
                   have H1 : (dragnetref14_Join.l0 kj28 a0 x1_28 y280 x8_2 (wrap64 (x9_2 + 1))) = some (r1, r2) := by rw [if_pos rfl] at H; exact H
                   clear H
                   have H := H1
                   clear H1
                   have H' := Aside0.mk H
                   clear H
                   obtain ⟨Ao65, co65, eo65⟩ := Kd.V_slice HO_2.out
                   subst eo65
                   have q64 : (1 : Int) ≤ ((x2_2.length : Int) : Int) := of_decide_eq_true (by first | (with_reducible assumption) | assumption)
                   obtain ⟨i064, hi064, _, hsz64, _⟩ := info_parts info3
                   have hroom64 : x2_2.length ≤ co65 := (Kd.V_reads' HO_2.out).2.1
                   have hC64 : Kd.F (Kd.int .i64) _ _ Ao65 x2_2.length x2_2 := (Kd.V_at (base := w.heap.size) HO_2.out).2.2
                   have hcut64 := cut_from (P := Try.prog) 33 3 .i64 Try.underlying33 hi064 1 hsz64 Ao65 x2_2.length co65 1 (by omega) q64
                   have hr64 := Kd.F_cut (m := (1 : Int).toNat) (c := co65) hC64 (by omega) hroom64
                   obtain ⟨A64, hA64⟩ : ∃ A1, A1 = (if co65 = (1 : Int).toNat then Ao65 else (Ao65 : Option Addr).map (·.add ((1 : Int).toNat * 1))) := ⟨_, rfl⟩
                   obtain ⟨c64, hc64⟩ : ∃ c1, c1 = co65 - (1 : Int).toNat := ⟨_, rfl⟩
                   have hy64 : y280.length = x2_2.length - (1 : Int).toNat := (by rw [Ny280.out, List.length_drop] <;> omega)
                   rw [show (x2_2).drop (1 : Int).toNat = y280 from Ny280.out.symm] at hr64
                   replace hr64 : Kd.F (Kd.int .i64) _ _ A64 y280.length y280 := (by rw [hA64]; exact hr64)
                   rw [← hy64, ← hA64, ← hc64] at hcut64
                   have HO284 := Aside0.mk (show Kd.V (Kd.int .i64) 3 _ w.heap.size _ (.slice A64 y280.length c64) y280 from Kd.V_mk (by rw [hy64, hc64]; exact Nat.sub_le_sub_right hroom64 _) hr64)
                   have HC284 := Aside0.mk (show y280.length ≤ c64 from by rw [hy64, hc64]; exact Nat.sub_le_sub_right hroom64 _)
                   clear hr64 hC64 hroom64 hi064 hsz64 hc64
                   have KY64 := Aside0.mk hy64
                   have KA64 := Aside0.mk hA64
                   clear hy64 hA64
                   replace q64 := eq_true q64
                   go_wp2
                   repeat (go_quiet (fail); try go_wp2)
                   go_roundg kj28
                   case measure => have := HJ3.out; have := HK2.out; have := HJ8.out; have := HJ13.out; have := HJ28.out; omega
                   case rel => exact ⟨(x1_28), (y280), (x8_2), (wrap64 (x9_2 + 1)), (by first | rfl | (simp; done) | (simp [*]; done)), H', ⟨by have := HJ3.out; have := HK2.out; have := HJ8.out; have := HJ13.out; have := HJ28.out; omega⟩, ⟨by (with_reducible repeat (first | apply Kd.V_alloc | apply Kd.V_drewN | apply Kd.V_drew)); exact HO_1.out⟩, ⟨by (with_reducible repeat (first | apply Kd.V_alloc | apply Kd.V_drewN | apply Kd.V_drew)); exact HO284.out⟩, ⟨by (with_reducible repeat (first | apply Kd.rA_ | apply Kd.rN_ | apply Kd.rD_)); exact HO_8.out⟩, ⟨by repeat (first | (with_reducible first | exact HB.out | apply pbA_ | apply pbN_ | apply pb1_) | exact HB.out)⟩⟩
                  ·replace c63 := Bool.eq_false_iff.mpr c63
                   subst c63
                   have H1 : (dragnetref14_Join.l0 kj28 a0 x1_28 y280 x8_2 (wrap64 (x9_2 + 1))) = some (r1, r2) := by rw [if_neg (show ¬ (false = true) by decide)] at H; exact H
                   clear H
                   have H := H1
                   clear H1
                   have H' := Aside0.mk H
                   clear H
                   obtain ⟨Ao67, co67, eo67⟩ := Kd.V_slice HO_2.out
                   subst eo67
                   have q66 : (1 : Int) ≤ ((x2_2.length : Int) : Int) := of_decide_eq_true (by first | (with_reducible assumption) | assumption)
                   obtain ⟨i066, hi066, _, hsz66, _⟩ := info_parts info3
                   have hroom66 : x2_2.length ≤ co67 := (Kd.V_reads' HO_2.out).2.1
                   have hC66 : Kd.F (Kd.int .i64) _ _ Ao67 x2_2.length x2_2 := (Kd.V_at (base := w.heap.size) HO_2.out).2.2
                   have hcut66 := cut_from (P := Try.prog) 33 3 .i64 Try.underlying33 hi066 1 hsz66 Ao67 x2_2.length co67 1 (by omega) q66
                   have hr66 := Kd.F_cut (m := (1 : Int).toNat) (c := co67) hC66 (by omega) hroom66
                   obtain ⟨A66, hA66⟩ : ∃ A1, A1 = (if co67 = (1 : Int).toNat then Ao67 else (Ao67 : Option Addr).map (·.add ((1 : Int).toNat * 1))) := ⟨_, rfl⟩
                   obtain ⟨c66, hc66⟩ : ∃ c1, c1 = co67 - (1 : Int).toNat := ⟨_, rfl⟩
                   have hy66 : y280.length = x2_2.length - (1 : Int).toNat := (by rw [Ny280.out, List.length_drop] <;> omega)
                   rw [show (x2_2).drop (1 : Int).toNat = y280 from Ny280.out.symm] at hr66
                   replace hr66 : Kd.F (Kd.int .i64) _ _ A66 y280.length y280 := (by rw [hA66]; exact hr66)
                   rw [← hy66, ← hA66, ← hc66] at hcut66
                   have HO284 := Aside0.mk (show Kd.V (Kd.int .i64) 3 _ w.heap.size _ (.slice A66 y280.length c66) y280 from Kd.V_mk (by rw [hy66, hc66]; exact Nat.sub_le_sub_right hroom66 _) hr66)
                   have HC284 := Aside0.mk (show y280.length ≤ c66 from by rw [hy66, hc66]; exact Nat.sub_le_sub_right hroom66 _)
                   clear hr66 hC66 hroom66 hi066 hsz66 hc66
                   have KY66 := Aside0.mk hy66
                   have KA66 := Aside0.mk hA66
                   clear hy66 hA66
                   replace q66 := eq_true q66
                   go_wp2
                   repeat (go_quiet (fail); try go_wp2)
                   go_roundg kj28
                   case measure => have := HJ3.out; have := HK2.out; have := HJ8.out; have := HJ13.out; have := HJ28.out; omega
                   case rel => exact ⟨(x1_28), (y280), (x8_2), (wrap64 (x9_2 + 1)), (by first | rfl | (simp; done) | (simp [*]; done)), H', ⟨by have := HJ3.out; have := HK2.out; have := HJ8.out; have := HJ13.out; have := HJ28.out; omega⟩, ⟨by (with_reducible repeat (first | apply Kd.V_alloc | apply Kd.V_drewN | apply Kd.V_drew)); exact HO_1.out⟩, ⟨by (with_reducible repeat (first | apply Kd.V_alloc | apply Kd.V_drewN | apply Kd.V_drew)); exact HO284.out⟩, ⟨by (with_reducible repeat (first | apply Kd.rA_ | apply Kd.rN_ | apply Kd.rD_)); exact HO_8.out⟩, ⟨by repeat (first | (with_reducible first | exact HB.out | apply pbA_ | apply pbN_ | apply pb1_) | exact HB.out)⟩⟩
                 ·rw [if_neg c62] at H
                  have c62b0 : (a0 == 2) = false := beq_eq_false_iff_ne.mpr c62
                  have c62b1 : (a0 != 2) = true := bne_iff_ne.mpr c62
                  have H' := Aside0.mk H
                  clear H
                  obtain ⟨Ao69, co69, eo69⟩ := Kd.V_slice HO_2.out
                  subst eo69
                  have q68 : (1 : Int) ≤ ((x2_2.length : Int) : Int) := of_decide_eq_true (by first | (with_reducible assumption) | assumption)
                  obtain ⟨i068, hi068, _, hsz68, _⟩ := info_parts info3
                  have hroom68 : x2_2.length ≤ co69 := (Kd.V_reads' HO_2.out).2.1
                  have hC68 : Kd.F (Kd.int .i64) _ _ Ao69 x2_2.length x2_2 := (Kd.V_at (base := w.heap.size) HO_2.out).2.2
                  have hcut68 := cut_from (P := Try.prog) 33 3 .i64 Try.underlying33 hi068 1 hsz68 Ao69 x2_2.length co69 1 (by omega) q68
                  have hr68 := Kd.F_cut (m := (1 : Int).toNat) (c := co69) hC68 (by omega) hroom68
                  obtain ⟨A68, hA68⟩ : ∃ A1, A1 = (if co69 = (1 : Int).toNat then Ao69 else (Ao69 : Option Addr).map (·.add ((1 : Int).toNat * 1))) := ⟨_, rfl⟩
                  obtain ⟨c68, hc68⟩ : ∃ c1, c1 = co69 - (1 : Int).toNat := ⟨_, rfl⟩
                  have hy68 : y280.length = x2_2.length - (1 : Int).toNat := (by rw [Ny280.out, List.length_drop] <;> omega)
                  rw [show (x2_2).drop (1 : Int).toNat = y280 from Ny280.out.symm] at hr68
                  replace hr68 : Kd.F (Kd.int .i64) _ _ A68 y280.length y280 := (by rw [hA68]; exact hr68)
                  rw [← hy68, ← hA68, ← hc68] at hcut68
                  have HO284 := Aside0.mk (show Kd.V (Kd.int .i64) 3 _ w.heap.size _ (.slice A68 y280.length c68) y280 from Kd.V_mk (by rw [hy68, hc68]; exact Nat.sub_le_sub_right hroom68 _) hr68)
                  have HC284 := Aside0.mk (show y280.length ≤ c68 from by rw [hy68, hc68]; exact Nat.sub_le_sub_right hroom68 _)
                  clear hr68 hC68 hroom68 hi068 hsz68 hc68
                  have KY68 := Aside0.mk hy68
                  have KA68 := Aside0.mk hA68
                  clear hy68 hA68
                  replace q68 := eq_true q68
                  go_wp2
                  repeat (go_quiet (fail); try go_wp2)
                  go_roundg kj28
                  case measure => have := HJ3.out; have := HK2.out; have := HJ8.out; have := HJ13.out; have := HJ28.out; omega
                  case rel => exact ⟨(x1_28), (y280), (x8_2), (wrap64 (x9_2 + 1)), (by first | rfl | (simp; done) | (simp [*]; done)), H', ⟨by have := HJ3.out; have := HK2.out; have := HJ8.out; have := HJ13.out; have := HJ28.out; omega⟩, ⟨by (with_reducible repeat (first | apply Kd.V_alloc | apply Kd.V_drewN | apply Kd.V_drew)); exact HO_1.out⟩, ⟨by (with_reducible repeat (first | apply Kd.V_alloc | apply Kd.V_drewN | apply Kd.V_drew)); exact HO284.out⟩, ⟨by (with_reducible repeat (first | apply Kd.rA_ | apply Kd.rN_ | apply Kd.rD_)); exact HO_8.out⟩, ⟨by repeat (first | (with_reducible first | exact HB.out | apply pbA_ | apply pbN_ | apply pb1_) | exact HB.out)⟩⟩
              ·rw [if_neg c35] at H
               exact absurd H (by simp)
             ·replace c34 := Bool.eq_false_iff.mpr c34
              subst c34
              have H1 : (if a0 = 0 then (if x10_13 = true then (if a0 = 1 then (if x8_2.length < 17592186044416 then (dragnetref14_Join.l0 kj28 a0 x1_28 x2_2 (x8_2 ++ [x9_2]) (wrap64 (x9_2 + 1))) else (none)) else (if a0 = 2 then (if x8_2.length < 17592186044416 then (dragnetref14_Join.l0 kj28 a0 x1_28 x2_2 (x8_2 ++ [x9_2]) (wrap64 (x9_2 + 1))) else (none)) else (dragnetref14_Join.l0 kj28 a0 x1_28 x2_2 x8_2 (wrap64 (x9_2 + 1))))) else (if a0 = 1 then (if a0 = 2 then (dragnetref14_Join.l0 kj28 a0 x1_28 x2_2 x8_2 (wrap64 (x9_2 + 1))) else (dragnetref14_Join.l0 kj28 a0 x1_28 x2_2 x8_2 (wrap64 (x9_2 + 1)))) else (if a0 = 2 then (dragnetref14_Join.l0 kj28 a0 x1_28 x2_2 x8_2 (wrap64 (x9_2 + 1))) else (dragnetref14_Join.l0 kj28 a0 x1_28 x2_2 x8_2 (wrap64 (x9_2 + 1)))))) else (if a0 = 1 then (if x10_13 = true then (if x8_2.length < 17592186044416 then (dragnetref14_Join.l0 kj28 a0 x1_28 x2_2 (x8_2 ++ [x9_2]) (wrap64 (x9_2 + 1))) else (none)) else (if a0 = 2 then (dragnetref14_Join.l0 kj28 a0 x1_28 x2_2 x8_2 (wrap64 (x9_2 + 1))) else (dragnetref14_Join.l0 kj28 a0 x1_28 x2_2 x8_2 (wrap64 (x9_2 + 1))))) else (if a0 = 2 then (if x10_13 = true then (if x8_2.length < 17592186044416 then (dragnetref14_Join.l0 kj28 a0 x1_28 x2_2 (x8_2 ++ [x9_2]) (wrap64 (x9_2 + 1))) else (none)) else (dragnetref14_Join.l0 kj28 a0 x1_28 x2_2 x8_2 (wrap64 (x9_2 + 1)))) else (dragnetref14_Join.l0 kj28 a0 x1_28 x2_2 x8_2 (wrap64 (x9_2 + 1)))))) = some (r1, r2) := by rw [if_neg (show ¬ (false = true) by decide)] at H; exact H
              clear H
              have H := H1
              clear H1
              by_cases c70 : a0 = 0
              ·rw [if_pos c70] at H
               have c70b0 : (a0 == 0) = true := beq_iff_eq.mpr c70
               have c70b1 : (a0 != 0) = false := bne_eq_false_iff_eq.mpr c70
               clear c70
               by_cases c71 : x10_13 = true
               ·subst c71
                have H1 : (if a0 = 1 then (if x8_2.length < 17592186044416 then (dragnetref14_Join.l0 kj28 a0 x1_28 x2_2 (x8_2 ++ [x9_2]) (wrap64 (x9_2 + 1))) else (none)) else (if a0 = 2 then (if x8_2.length < 17592186044416 then (dragnetref14_Join.l0 kj28 a0 x1_28 x2_2 (x8_2 ++ [x9_2]) (wrap64 (x9_2 + 1))) else (none)) else (dragnetref14_Join.l0 kj28 a0 x1_28 x2_2 x8_2 (wrap64 (x9_2 + 1))))) = some (r1, r2) := by rw [if_pos rfl] at H; exact H
                clear H
                have H := H1
                clear H1
                by_cases c72 : a0 = 1
                ·rw [if_pos c72] at H
                 have c72b0 : (a0 == 1) = true := beq_iff_eq.mpr c72
                 have c72b1 : (a0 != 1) = false := bne_eq_false_iff_eq.mpr c72
                 clear c72
                 by_cases c73 : x8_2.length < 17592186044416
                 ·rw [if_pos c73] at H
                  have LMc73 := Aside0.mk c73
                  clear c73
                  obtain ⟨y297, hy297⟩ : ∃ y_ : List Int, y_ = (x8_2 ++ [x9_2]) := ⟨_, rfl⟩
                  replace H : (dragnetref14_Join.l0 kj28 a0 x1_28 x2_2 y297 (wrap64 (x9_2 + 1))) = some (r1, r2) := by first | (rw [hy297]; with_reducible exact H) | (have H2_ := (Option.bind_some _ _).symm.trans H; rw [hy297]; with_reducible exact H2_) | (have H2_ := (Option.bind_some _ _).symm.trans H; with_reducible exact H2_) | with_reducible exact H | (rw [hy297]; exact H) | exact H
                  have Ny297 := Aside0.mk hy297
                  clear hy297
                  have H' := Aside0.mk H
                  clear H
                  go_wp2_with (first | ((with_reducible refine gate_builtin (b := .append) (xs := #[.tmp 87, .tmp 89]) rfl ?_); (try (refine gate_guard (by rfl) ?_; dsimp only)); at_builtin; refine Kd.R_append (Kd.int .i64) (w0 := w) w.heap.size rfl (.tmp 87) (.tmp 89) 33 3 (.int .i64 0) 8 rfl Try.underlying33 info3 rfl (by decide) (by omega) u8 x8_2 x9_2 [.int .i64 x9_2] (fun k_ => (w.heap.size ≤ k_)) (fun _ => False) rfl rfl ?aP (fun _ hk => hk.elim) ?aF ?aO ?aB ?aS ?aL ?_; (case aP => exact rfl); (case aB => exact (by repeat (first | (with_reducible first | exact HB.out | apply pbA_ | apply pbN_ | apply pb1_) | exact HB.out))); (case aF => exact (fun k_ hk => (Nat.le_trans (pbS_ (by repeat (first | (with_reducible first | exact HB.out | apply pbA_ | apply pbN_ | apply pb1_) | exact HB.out))) hk))); (case aO => exact (by (with_reducible repeat (first | apply Kd.rA_ | apply Kd.rN_ | apply Kd.rD_)); exact HO_8.out)); (case aS => exact (pbS_ (by repeat (first | (with_reducible first | exact HB.out | apply pbA_ | apply pbN_ | apply pb1_) | exact HB.out)))); (case aL => have := LMc73.out; omega); intro v298 w74 ho hb hg hat; rw [← Ny297.out] at ho; have n0_ := Aside0.mk (Kd.V_afterv (ok := (fun k_ => ((P1_ k_ ∨ P2_ k_) ∨ w.heap.size ≤ k_))) (by (with_reducible repeat (first | apply Kd.V_alloc | apply Kd.V_drewN | apply Kd.V_drew)); exact HO_1.out) hg hat); have n1_ := Aside0.mk (Kd.V_afterv (ok := (fun k_ => ((P1_ k_ ∨ P2_ k_) ∨ w.heap.size ≤ k_))) (by (with_reducible repeat (first | apply Kd.V_alloc | apply Kd.V_drewN | apply Kd.V_drew)); exact HO_2.out) hg hat); have n2_ := Aside0.mk (hb); have n3_ := Aside0.mk (ho); clear HO_1; clear HO_2; clear HB; clear HO_8; have HO_1 := n0_; have HO_2 := n1_; have HB := n2_; have HO299 := n3_; clear n0_ n1_ n2_ n3_; clear ho hb hg hat))
                  repeat (go_quiet (first | ((with_reducible refine gate_builtin (b := .append) (xs := #[.tmp 87, .tmp 89]) rfl ?_); (try (refine gate_guard (by rfl) ?_; dsimp only)); at_builtin; refine Kd.R_append (Kd.int .i64) (w0 := w) w.heap.size rfl (.tmp 87) (.tmp 89) 33 3 (.int .i64 0) 8 rfl Try.underlying33 info3 rfl (by decide) (by omega) u8 x8_2 x9_2 [.int .i64 x9_2] (fun k_ => (w.heap.size ≤ k_)) (fun _ => False) rfl rfl ?aP (fun _ hk => hk.elim) ?aF ?aO ?aB ?aS ?aL ?_; (case aP => exact rfl); (case aB => exact (by repeat (first | (with_reducible first | exact HB.out | apply pbA_ | apply pbN_ | apply pb1_) | exact HB.out))); (case aF => exact (fun k_ hk => (Nat.le_trans (pbS_ (by repeat (first | (with_reducible first | exact HB.out | apply pbA_ | apply pbN_ | apply pb1_) | exact HB.out))) hk))); (case aO => exact (by (with_reducible repeat (first | apply Kd.rA_ | apply Kd.rN_ | apply Kd.rD_)); exact HO_8.out)); (case aS => exact (pbS_ (by repeat (first | (with_reducible first | exact HB.out | apply pbA_ | apply pbN_ | apply pb1_) | exact HB.out)))); (case aL => have := LMc73.out; omega); intro v298 w74 ho hb hg hat; rw [← Ny297.out] at ho; have n0_ := Aside0.mk (Kd.V_afterv (ok := (fun k_ => ((P1_ k_ ∨ P2_ k_) ∨ w.heap.size ≤ k_))) (by (with_reducible repeat (first | apply Kd.V_alloc | apply Kd.V_drewN | apply Kd.V_drew)); exact HO_1.out) hg hat); have n1_ := Aside0.mk (Kd.V_afterv (ok := (fun k_ => ((P1_ k_ ∨ P2_ k_) ∨ w.heap.size ≤ k_))) (by (with_reducible repeat (first | apply Kd.V_alloc | apply Kd.V_drewN | apply Kd.V_drew)); exact HO_2.out) hg hat); have n2_ := Aside0.mk (hb); have n3_ := Aside0.mk (ho); clear HO_1; clear HO_2; clear HB; clear HO_8; have HO_1 := n0_; have HO_2 := n1_; have HB := n2_; have HO299 := n3_; clear n0_ n1_ n2_ n3_; clear ho hb hg hat)); try go_wp2_with (first | ((with_reducible refine gate_builtin (b := .append) (xs := #[.tmp 87, .tmp 89]) rfl ?_); (try (refine gate_guard (by rfl) ?_; dsimp only)); at_builtin; refine Kd.R_append (Kd.int .i64) (w0 := w) w.heap.size rfl (.tmp 87) (.tmp 89) 33 3 (.int .i64 0) 8 rfl Try.underlying33 info3 rfl (by decide) (by omega) u8 x8_2 x9_2 [.int .i64 x9_2] (fun k_ => (w.heap.size ≤ k_)) (fun _ => False) rfl rfl ?aP (fun _ hk => hk.elim) ?aF ?aO ?aB ?aS ?aL ?_; (case aP => exact rfl); (case aB => exact (by repeat (first | (with_reducible first | exact HB.out | apply pbA_ | apply pbN_ | apply pb1_) | exact HB.out))); (case aF => exact (fun k_ hk => (Nat.le_trans (pbS_ (by repeat (first | (with_reducible first | exact HB.out | apply pbA_ | apply pbN_ | apply pb1_) | exact HB.out))) hk))); (case aO => exact (by (with_reducible repeat (first | apply Kd.rA_ | apply Kd.rN_ | apply Kd.rD_)); exact HO_8.out)); (case aS => exact (pbS_ (by repeat (first | (with_reducible first | exact HB.out | apply pbA_ | apply pbN_ | apply pb1_) | exact HB.out)))); (case aL => have := LMc73.out; omega); intro v298 w74 ho hb hg hat; rw [← Ny297.out] at ho; have n0_ := Aside0.mk (Kd.V_afterv (ok := (fun k_ => ((P1_ k_ ∨ P2_ k_) ∨ w.heap.size ≤ k_))) (by (with_reducible repeat (first | apply Kd.V_alloc | apply Kd.V_drewN | apply Kd.V_drew)); exact HO_1.out) hg hat); have n1_ := Aside0.mk (Kd.V_afterv (ok := (fun k_ => ((P1_ k_ ∨ P2_ k_) ∨ w.heap.size ≤ k_))) (by (with_reducible repeat (first | apply Kd.V_alloc | apply Kd.V_drewN | apply Kd.V_drew)); exact HO_2.out) hg hat); have n2_ := Aside0.mk (hb); have n3_ := Aside0.mk (ho); clear HO_1; clear HO_2; clear HB; clear HO_8; have HO_1 := n0_; have HO_2 := n1_; have HB := n2_; have HO299 := n3_; clear n0_ n1_ n2_ n3_; clear ho hb hg hat)))
                  go_roundg kj28
                  case measure => have := HJ3.out; have := HK2.out; have := HJ8.out; have := HJ13.out; have := HJ28.out; omega
                  case rel => exact ⟨(x1_28), (x2_2), (y297), (wrap64 (x9_2 + 1)), (by first | rfl | (simp; done) | (simp [*]; done)), H', ⟨by have := HJ3.out; have := HK2.out; have := HJ8.out; have := HJ13.out; have := HJ28.out; omega⟩, ⟨by (with_reducible repeat (first | apply Kd.V_alloc | apply Kd.V_drewN | apply Kd.V_drew)); exact HO_1.out⟩, ⟨by (with_reducible repeat (first | apply Kd.V_alloc | apply Kd.V_drewN | apply Kd.V_drew)); exact HO_2.out⟩, ⟨by (with_reducible repeat (first | apply Kd.rA_ | apply Kd.rN_ | apply Kd.rD_)); exact HO299.out⟩, ⟨by repeat (first | (with_reducible first | exact HB.out | apply pbA_ | apply pbN_ | apply pb1_) | exact HB.out)⟩⟩
                 ·rw [if_neg c73] at H
                  exact absurd H (by simp)
                ·rw [if_neg c72] at H
                 have c72b0 : (a0 == 1) = false := beq_eq_false_iff_ne.mpr c72
                 have c72b1 : (a0 != 1) = true := bne_iff_ne.mpr c72
                 by_cases c75 : a0 = 2
                 ·rw [if_pos c75] at H
                  have c75b0 : (a0 == 2) = true := beq_iff_eq.mpr c75
                  have c75b1 : (a0 != 2) = false := bne_eq_false_iff_eq.mpr c75
                  clear c75
                  by_cases c76 : x8_2.length < 17592186044416
                  ·rw [if_pos c76] at H
                   have LMc76 := Aside0.mk c76
                   clear c76
                   obtain ⟨y300, hy300⟩ : ∃ y_ : List Int, y_ = (x8_2 ++ [x9_2]) := ⟨_, rfl⟩
                   replace H : (dragnetref14_Join.l0 kj28 a0 x1_28 x2_2 y300 (wrap64 (x9_2 + 1))) = some (r1, r2) := by first | (rw [hy300]; with_reducible exact H) | (have H2_ := (Option.bind_some _ _).symm.trans H; rw [hy300]; with_reducible exact H2_) | (have H2_ := (Option.bind_some _ _).symm.trans H; with_reducible exact H2_) | with_reducible exact H | (rw [hy300]; exact H) | exact H
                   have Ny300 := Aside0.mk hy300
                   clear hy300
                   have H' := Aside0.mk H
                   clear H
                   go_wp2_with (first | ((with_reducible refine gate_builtin (b := .append) (xs := #[.tmp 87, .tmp 89]) rfl ?_); (try (refine gate_guard (by rfl) ?_; dsimp only)); at_builtin; refine Kd.R_append (Kd.int .i64) (w0 := w) w.heap.size rfl (.tmp 87) (.tmp 89) 33 3 (.int .i64 0) 8 rfl Try.underlying33 info3 rfl (by decide) (by omega) u8 x8_2 x9_2 [.int .i64 x9_2] (fun k_ => (w.heap.size ≤ k_)) (fun _ => False) rfl rfl ?aP (fun _ hk => hk.elim) ?aF ?aO ?aB ?aS ?aL ?_; (case aP => exact rfl); (case aB => exact (by repeat (first | (with_reducible first | exact HB.out | apply pbA_ | apply pbN_ | apply pb1_) | exact HB.out))); (case aF => exact (fun k_ hk => (Nat.le_trans (pbS_ (by repeat (first | (with_reducible first | exact HB.out | apply pbA_ | apply pbN_ | apply pb1_) | exact HB.out))) hk))); (case aO => exact (by (with_reducible repeat (first | apply Kd.rA_ | apply Kd.rN_ | apply Kd.rD_)); exact HO_8.out)); (case aS => exact (pbS_ (by repeat (first | (with_reducible first | exact HB.out | apply pbA_ | apply pbN_ | apply pb1_) | exact HB.out)))); (case aL => have := LMc76.out; omega); intro v301 w77 ho hb hg hat; rw [← Ny300.out] at ho; have n0_ := Aside0.mk (Kd.V_afterv (ok := (fun k_ => ((P1_ k_ ∨ P2_ k_) ∨ w.heap.size ≤ k_))) (by (with_reducible repeat (first | apply Kd.V_alloc | apply Kd.V_drewN | apply Kd.V_drew)); exact HO_1.out) hg hat); have n1_ := Aside0.mk (Kd.V_afterv (ok := (fun k_ => ((P1_ k_ ∨ P2_ k_) ∨ w.heap.size ≤ k_))) (by (with_reducible repeat (first | apply Kd.V_alloc | apply Kd.V_drewN | apply Kd.V_drew)); exact HO_2.out) hg hat); have n2_ := Aside0.mk (hb); have n3_ := Aside0.mk (ho); clear HO_1; clear HO_2; clear HB; clear HO_8; have HO_1 := n0_; have HO_2 := n1_; have HB := n2_; have HO302 := n3_; clear n0_ n1_ n2_ n3_; clear ho hb hg hat))
                   repeat (go_quiet (first | ((with_reducible refine gate_builtin (b := .append) (xs := #[.tmp 87, .tmp 89]) rfl ?_); (try (refine gate_guard (by rfl) ?_; dsimp only)); at_builtin; refine Kd.R_append (Kd.int .i64) (w0 := w) w.heap.size rfl (.tmp 87) (.tmp 89) 33 3 (.int .i64 0) 8 rfl Try.underlying33 info3 rfl (by decide) (by omega) u8 x8_2 x9_2 [.int .i64 x9_2] (fun k_ => (w.heap.size ≤ k_)) (fun _ => False) rfl rfl ?aP (fun _ hk => hk.elim) ?aF ?aO ?aB ?aS ?aL ?_; (case aP => exact rfl); (case aB => exact (by repeat (first | (with_reducible first | exact HB.out | apply pbA_ | apply pbN_ | apply pb1_) | exact HB.out))); (case aF => exact (fun k_ hk => (Nat.le_trans (pbS_ (by repeat (first | (with_reducible first | exact HB.out | apply pbA_ | apply pbN_ | apply pb1_) | exact HB.out))) hk))); (case aO => exact (by (with_reducible repeat (first | apply Kd.rA_ | apply Kd.rN_ | apply Kd.rD_)); exact HO_8.out)); (case aS => exact (pbS_ (by repeat (first | (with_reducible first | exact HB.out | apply pbA_ | apply pbN_ | apply pb1_) | exact HB.out)))); (case aL => have := LMc76.out; omega); intro v301 w77 ho hb hg hat; rw [← Ny300.out] at ho; have n0_ := Aside0.mk (Kd.V_afterv (ok := (fun k_ => ((P1_ k_ ∨ P2_ k_) ∨ w.heap.size ≤ k_))) (by (with_reducible repeat (first | apply Kd.V_alloc | apply Kd.V_drewN | apply Kd.V_drew)); exact HO_1.out) hg hat); have n1_ := Aside0.mk (Kd.V_afterv (ok := (fun k_ => ((P1_ k_ ∨ P2_ k_) ∨ w.heap.size ≤ k_))) (by (with_reducible repeat (first | apply Kd.V_alloc | apply Kd.V_drewN | apply Kd.V_drew)); exact HO_2.out) hg hat); have n2_ := Aside0.mk (hb); have n3_ := Aside0.mk (ho); clear HO_1; clear HO_2; clear HB; clear HO_8; have HO_1 := n0_; have HO_2 := n1_; have HB := n2_; have HO302 := n3_; clear n0_ n1_ n2_ n3_; clear ho hb hg hat)); try go_wp2_with (first | ((with_reducible refine gate_builtin (b := .append) (xs := #[.tmp 87, .tmp 89]) rfl ?_); (try (refine gate_guard (by rfl) ?_; dsimp only)); at_builtin; refine Kd.R_append (Kd.int .i64) (w0 := w) w.heap.size rfl (.tmp 87) (.tmp 89) 33 3 (.int .i64 0) 8 rfl Try.underlying33 info3 rfl (by decide) (by omega) u8 x8_2 x9_2 [.int .i64 x9_2] (fun k_ => (w.heap.size ≤ k_)) (fun _ => False) rfl rfl ?aP (fun _ hk => hk.elim) ?aF ?aO ?aB ?aS ?aL ?_; (case aP => exact rfl); (case aB => exact (by repeat (first | (with_reducible first | exact HB.out | apply pbA_ | apply pbN_ | apply pb1_) | exact HB.out))); (case aF => exact (fun k_ hk => (Nat.le_trans (pbS_ (by repeat (first | (with_reducible first | exact HB.out | apply pbA_ | apply pbN_ | apply pb1_) | exact HB.out))) hk))); (case aO => exact (by (with_reducible repeat (first | apply Kd.rA_ | apply Kd.rN_ | apply Kd.rD_)); exact HO_8.out)); (case aS => exact (pbS_ (by repeat (first | (with_reducible first | exact HB.out | apply pbA_ | apply pbN_ | apply pb1_) | exact HB.out)))); (case aL => have := LMc76.out; omega); intro v301 w77 ho hb hg hat; rw [← Ny300.out] at ho; have n0_ := Aside0.mk (Kd.V_afterv (ok := (fun k_ => ((P1_ k_ ∨ P2_ k_) ∨ w.heap.size ≤ k_))) (by (with_reducible repeat (first | apply Kd.V_alloc | apply Kd.V_drewN | apply Kd.V_drew)); exact HO_1.out) hg hat); have n1_ := Aside0.mk (Kd.V_afterv (ok := (fun k_ => ((P1_ k_ ∨ P2_ k_) ∨ w.heap.size ≤ k_))) (by (with_reducible repeat (first | apply Kd.V_alloc | apply Kd.V_drewN | apply Kd.V_drew)); exact HO_2.out) hg hat); have n2_ := Aside0.mk (hb); have n3_ := Aside0.mk (ho); clear HO_1; clear HO_2; clear HB; clear HO_8; have HO_1 := n0_; have HO_2 := n1_; have HB := n2_; have HO302 := n3_; clear n0_ n1_ n2_ n3_; clear ho hb hg hat)))
                   go_roundg kj28
                   case measure => have := HJ3.out; have := HK2.out; have := HJ8.out; have := HJ13.out; have := HJ28.out; omega
                   case rel => exact ⟨(x1_28), (x2_2), (y300), (wrap64 (x9_2 + 1)), (by first | rfl | (simp; done) | (simp [*]; done)), H', ⟨by have := HJ3.out; have := HK2.out; have := HJ8.out; have := HJ13.out; have := HJ28.out; omega⟩, ⟨by (with_reducible repeat (first | apply Kd.V_alloc | apply Kd.V_drewN | apply Kd.V_drew)); exact HO_1.out⟩, ⟨by (with_reducible repeat (first | apply Kd.V_alloc | apply Kd.V_drewN | apply Kd.V_drew)); exact HO_2.out⟩, ⟨by (with_reducible repeat (first | apply Kd.rA_ | apply Kd.rN_ | apply Kd.rD_)); exact HO302.out⟩, ⟨by repeat (first | (with_reducible first | exact HB.out | apply pbA_ | apply pbN_ | apply pb1_) | exact HB.out)⟩⟩
                  ·rw [if_neg c76] at H
                   exact absurd H (by simp)
                 ·rw [if_neg c75] at H
                  have c75b0 : (a0 == 2) = false := beq_eq_false_iff_ne.mpr c75
                  have c75b1 : (a0 != 2) = true := bne_iff_ne.mpr c75
                  have H' := Aside0.mk H
                  clear H
                  go_wp2
                  repeat (go_quiet (fail); try go_wp2)
                  go_roundg kj28
                  case measure => have := HJ3.out; have := HK2.out; have := HJ8.out; have := HJ13.out; have := HJ28.out; omega
                  case rel => exact ⟨(x1_28), (x2_2), (x8_2), (wrap64 (x9_2 + 1)), (by first | rfl | (simp; done) | (simp [*]; done)), H', ⟨by have := HJ3.out; have := HK2.out; have := HJ8.out; have := HJ13.out; have := HJ28.out; omega⟩, ⟨by (with_reducible repeat (first | apply Kd.V_alloc | apply Kd.V_drewN | apply Kd.V_drew)); exact HO_1.out⟩, ⟨by (with_reducible repeat (first | apply Kd.V_alloc | apply Kd.V_drewN | apply Kd.V_drew)); exact HO_2.out⟩, ⟨by (with_reducible repeat (first | apply Kd.rA_ | apply Kd.rN_ | apply Kd.rD_)); exact HO_8.out⟩, ⟨by repeat (first | (with_reducible first | exact HB.out | apply pbA_ | apply pbN_ | apply pb1_) | exact HB.out)⟩⟩
               ·replace c71 := Bool.eq_false_iff.mpr c71
                subst c71
                have H1 : (if a0 = 1 then (if a0 = 2 then (dragnetref14_Join.l0 kj28 a0 x1_28 x2_2 x8_2 (wrap64 (x9_2 + 1))) else (dragnetref14_Join.l0 kj28 a0 x1_28 x2_2 x8_2 (wrap64 (x9_2 + 1)))) else (if a0 = 2 then (dragnetref14_Join.l0 kj28 a0 x1_28 x2_2 x8_2 (wrap64 (x9_2 + 1))) else (dragnetref14_Join.l0 kj28 a0 x1_28 x2_2 x8_2 (wrap64 (x9_2 + 1))))) = some (r1, r2) := by rw [if_neg (show ¬ (false = true) by decide)] at H; exact H
                clear H
                have H := H1
                clear H1
                by_cases c78 : a0 = 1
                ·rw [if_pos c78] at H
                 have c78b0 : (a0 == 1) = true := beq_iff_eq.mpr c78
                 have c78b1 : (a0 != 1) = false := bne_eq_false_iff_eq.mpr c78
                 clear c78
                 by_cases c79 : a0 = 2
                 ·rw [if_pos c79] at H
                  have c79b0 : (a0 == 2) = true := beq_iff_eq.mpr c79
                  have c79b1 : (a0 != 2) = false := bne_eq_false_iff_eq.mpr c79
                  clear c79
                  have H' := Aside0.mk H
                  clear H
                  go_wp2
                  repeat (go_quiet (fail); try go_wp2)
                  go_roundg kj28
                  case measure => have := HJ3.out; have := HK2.out; have := HJ8.out; have := HJ13.out; have := HJ28.out; omega
                  case rel => exact ⟨(x1_28), (x2_2), (x8_2), (wrap64 (x9_2 + 1)), (by first | rfl | (simp; done) | (simp [*]; done)), H', ⟨by have := HJ3.out; have := HK2.out; have := HJ8.out; have := HJ13.out; have := HJ28.out; omega⟩, ⟨by (with_reducible repeat (first | apply Kd.V_alloc | apply Kd.V_drewN | apply Kd.V_drew)); exact HO_1.out⟩, ⟨by (with_reducible repeat (first | apply Kd.V_alloc | apply Kd.V_drewN | apply Kd.V_drew)); exact HO_2.out⟩, ⟨by (with_reducible repeat (first | apply Kd.rA_ | apply Kd.rN_ | apply Kd.rD_)); exact HO_8.out⟩, ⟨by repeat (first | (with_reducible first | exact HB.out | apply pbA_ | apply pbN_ | apply pb1_) | exact HB.out)⟩⟩
                 ·rw [if_neg c79] at H
                  have c79b0 : (a0 == 2) = false := beq_eq_false_iff_ne.mpr c79
                  have c79b1 : (a0 != 2) = true := bne_iff_ne.mpr c79
                  have H' := Aside0.mk H
                  clear H
                  go_wp2
                  repeat (go_quiet (fail); try go_wp2)
                  go_roundg kj28
                  case measure => have := HJ3.out; have := HK2.out; have := HJ8.out; have := HJ13.out; have := HJ28.out; omega
                  case rel => exact ⟨(x1_28), (x2_2), (x8_2), (wrap64 (x9_2 + 1)), (by first | rfl | (simp; done) | (simp [*]; done)), H', ⟨by have := HJ3.out; have := HK2.out; have := HJ8.out; have := HJ13.out; have := HJ28.out; omega⟩, ⟨by (with_reducible repeat (first | apply Kd.V_alloc | apply Kd.V_drewN | apply Kd.V_drew)); exact HO_1.out⟩, ⟨by (with_reducible repeat (first | apply Kd.V_alloc | apply Kd.V_drewN | apply Kd.V_drew)); exact HO_2.out⟩, ⟨by (with_reducible repeat (first | apply Kd.rA_ | apply Kd.rN_ | apply Kd.rD_)); exact HO_8.out⟩, ⟨by repeat (first | (with_reducible first | exact HB.out | apply pbA_ | apply pbN_ | apply pb1_) | exact HB.out)⟩⟩
                ·rw [if_neg c78] at H
                 have c78b0 : (a0 == 1) = false := beq_eq_false_iff_ne.mpr c78
                 have c78b1 : (a0 != 1) = true := bne_iff_ne.mpr c78
                 by_cases c80 : a0 = 2
                 ·rw [if_pos c80] at H
                  have c80b0 : (a0 == 2) = true := beq_iff_eq.mpr c80
                  have c80b1 : (a0 != 2) = false := bne_eq_false_iff_eq.mpr c80
                  clear c80
                  have H' := Aside0.mk H
                  clear H
                  go_wp2
                  repeat (go_quiet (fail); try go_wp2)
                  go_roundg kj28
                  case measure => have := HJ3.out; have := HK2.out; have := HJ8.out; have := HJ13.out; have := HJ28.out; omega
                  case rel => exact ⟨(x1_28), (x2_2), (x8_2), (wrap64 (x9_2 + 1)), (by first | rfl | (simp; done) | (simp [*]; done)), H', ⟨by have := HJ3.out; have := HK2.out; have := HJ8.out; have := HJ13.out; have := HJ28.out; omega⟩, ⟨by (with_reducible repeat (first | apply Kd.V_alloc | apply Kd.V_drewN | apply Kd.V_drew)); exact HO_1.out⟩, ⟨by (with_reducible repeat (first | apply Kd.V_alloc | apply Kd.V_drewN | apply Kd.V_drew)); exact HO_2.out⟩, ⟨by (with_reducible repeat (first | apply Kd.rA_ | apply Kd.rN_ | apply Kd.rD_)); exact HO_8.out⟩, ⟨by repeat (first | (with_reducible first | exact HB.out | apply pbA_ | apply pbN_ | apply pb1_) | exact HB.out)⟩⟩
                 ·rw [if_neg c80] at H
                  have c80b0 : (a0 == 2) = false := beq_eq_false_iff_ne.mpr c80
                  have c80b1 : (a0 != 2) = true := bne_iff_ne.mpr c80
                  have H' := Aside0.mk H
                  clear H
                  go_wp2
                  repeat (go_quiet (fail); try go_wp2)
                  go_roundg kj28
                  case measure => have := HJ3.out; have := HK2.out; have := HJ8.out; have := HJ13.out; have := HJ28.out; omega
                  case rel => exact ⟨(x1_28), (x2_2), (x8_2), (wrap64 (x9_2 + 1)), (by first | rfl | (simp; done) | (simp [*]; done)), H', ⟨by have := HJ3.out; have := HK2.out; have := HJ8.out; have := HJ13.out; have := HJ28.out; omega⟩, ⟨by (with_reducible repeat (first | apply Kd.V_alloc | apply Kd.V_drewN | apply Kd.V_drew)); exact HO_1.out⟩, ⟨by (with_reducible repeat (first | apply Kd.V_alloc | apply Kd.V_drewN | apply Kd.V_drew)); exact HO_2.out⟩, ⟨by (with_reducible repeat (first | apply Kd.rA_ | apply Kd.rN_ | apply Kd.rD_)); exact HO_8.out⟩, ⟨by repeat (first | (with_reducible first | exact HB.out | apply pbA_ | apply pbN_ | apply pb1_) | exact HB.out)⟩⟩
              ·rw [if_neg c70] at H
               have c70b0 : (a0 == 0) = false := beq_eq_false_iff_ne.mpr c70
               have c70b1 : (a0 != 0) = true := bne_iff_ne.mpr c70
               by_cases c81 : a0 = 1
               ·rw [if_pos c81] at H
                have c81b0 : (a0 == 1) = true := beq_iff_eq.mpr c81
                have c81b1 : (a0 != 1) = false := bne_eq_false_iff_eq.mpr c81
                clear c81
                by_cases c82 : x10_13 = true
                ·subst c82
                 have H1 : (if x8_2.length < 17592186044416 then (dragnetref14_Join.l0 kj28 a0 x1_28 x2_2 (x8_2 ++ [x9_2]) (wrap64 (x9_2 + 1))) else (none)) = some (r1, r2) := by rw [if_pos rfl] at H; exact H
                 clear H
                 have H := H1
                 clear H1
                 by_cases c83 : x8_2.length < 17592186044416
                 ·rw [if_pos c83] at H
                  have LMc83 := Aside0.mk c83
                  clear c83
                  obtain ⟨y303, hy303⟩ : ∃ y_ : List Int, y_ = (x8_2 ++ [x9_2]) := ⟨_, rfl⟩
                  replace H : (dragnetref14_Join.l0 kj28 a0 x1_28 x2_2 y303 (wrap64 (x9_2 + 1))) = some (r1, r2) := by first | (rw [hy303]; with_reducible exact H) | (have H2_ := (Option.bind_some _ _).symm.trans H; rw [hy303]; with_reducible exact H2_) | (have H2_ := (Option.bind_some _ _).symm.trans H; with_reducible exact H2_) | with_reducible exact H | (rw [hy303]; exact H) | exact H
                  have Ny303 := Aside0.mk hy303
                  clear hy303
                  have H' := Aside0.mk H
                  clear H
                  go_wp2_with (first | ((with_reducible refine gate_builtin (b := .append) (xs := #[.tmp 87, .tmp 89]) rfl ?_); (try (refine gate_guard (by rfl) ?_; dsimp only)); at_builtin; refine Kd.R_append (Kd.int .i64) (w0 := w) w.heap.size rfl (.tmp 87) (.tmp 89) 33 3 (.int .i64 0) 8 rfl Try.underlying33 info3 rfl (by decide) (by omega) u8 x8_2 x9_2 [.int .i64 x9_2] (fun k_ => (w.heap.size ≤ k_)) (fun _ => False) rfl rfl ?aP (fun _ hk => hk.elim) ?aF ?aO ?aB ?aS ?aL ?_; (case aP => exact rfl); (case aB => exact (by repeat (first | (with_reducible first | exact HB.out | apply pbA_ | apply pbN_ | apply pb1_) | exact HB.out))); (case aF => exact (fun k_ hk => (Nat.le_trans (pbS_ (by repeat (first | (with_reducible first | exact HB.out | apply pbA_ | apply pbN_ | apply pb1_) | exact HB.out))) hk))); (case aO => exact (by (with_reducible repeat (first | apply Kd.rA_ | apply Kd.rN_ | apply Kd.rD_)); exact HO_8.out)); (case aS => exact (pbS_ (by repeat (first | (with_reducible first | exact HB.out | apply pbA_ | apply pbN_ | apply pb1_) | exact HB.out)))); (case aL => have := LMc83.out; omega); intro v304 w84 ho hb hg hat; rw [← Ny303.out] at ho; have n0_ := Aside0.mk (Kd.V_afterv (ok := (fun k_ => ((P1_ k_ ∨ P2_ k_) ∨ w.heap.size ≤ k_))) (by (with_reducible repeat (first | apply Kd.V_alloc | apply Kd.V_drewN | apply Kd.V_drew)); exact HO_1.out) hg hat); have n1_ := Aside0.mk (Kd.V_afterv (ok := (fun k_ => ((P1_ k_ ∨ P2_ k_) ∨ w.heap.size ≤ k_))) (by (with_reducible repeat (first | apply Kd.V_alloc | apply Kd.V_drewN | apply Kd.V_drew)); exact HO_2.out) hg hat); have n2_ := Aside0.mk (hb); have n3_ := Aside0.mk (ho); clear HO_1; clear HO_2; clear HB; clear HO_8; have HO_1 := n0_; have HO_2 := n1_; have HB := n2_; have HO305 := n3_; clear n0_ n1_ n2_ n3_; clear ho hb hg hat))
                  repeat (go_quiet (first | ((with_reducible refine gate_builtin (b := .append) (xs := #[.tmp 87, .tmp 89]) rfl ?_); (try (refine gate_guard (by rfl) ?_; dsimp only)); at_builtin; refine Kd.R_append (Kd.int .i64) (w0 := w) w.heap.size rfl (.tmp 87) (.tmp 89) 33 3 (.int .i64 0) 8 rfl Try.underlying33 info3 rfl (by decide) (by omega) u8 x8_2 x9_2 [.int .i64 x9_2] (fun k_ => (w.heap.size ≤ k_)) (fun _ => False) rfl rfl ?aP (fun _ hk => hk.elim) ?aF ?aO ?aB ?aS ?aL ?_; (case aP => exact rfl); (case aB => exact (by repeat (first | (with_reducible first | exact HB.out | apply pbA_ | apply pbN_ | apply pb1_) | exact HB.out))); (case aF => exact (fun k_ hk => (Nat.le_trans (pbS_ (by repeat (first | (with_reducible first | exact HB.out | apply pbA_ | apply pbN_ | apply pb1_) | exact HB.out))) hk))); (case aO => exact (by (with_reducible repeat (first | apply Kd.rA_ | apply Kd.rN_ | apply Kd.rD_)); exact HO_8.out)); (case aS => exact (pbS_ (by repeat (first | (with_reducible first | exact HB.out | apply pbA_ | apply pbN_ | apply pb1_) | exact HB.out)))); (case aL => have := LMc83.out; omega); intro v304 w84 ho hb hg hat; rw [← Ny303.out] at ho; have n0_ := Aside0.mk (Kd.V_afterv (ok := (fun k_ => ((P1_ k_ ∨ P2_ k_) ∨ w.heap.size ≤ k_))) (by (with_reducible repeat (first | apply Kd.V_alloc | apply Kd.V_drewN | apply Kd.V_drew)); exact HO_1.out) hg hat); have n1_ := Aside0.mk (Kd.V_afterv (ok := (fun k_ => ((P1_ k_ ∨ P2_ k_) ∨ w.heap.size ≤ k_))) (by (with_reducible repeat (first | apply Kd.V_alloc | apply Kd.V_drewN | apply Kd.V_drew)); exact HO_2.out) hg hat); have n2_ := Aside0.mk (hb); have n3_ := Aside0.mk (ho); clear HO_1; clear HO_2; clear HB; clear HO_8; have HO_1 := n0_; have HO_2 := n1_; have HB := n2_; have HO305 := n3_; clear n0_ n1_ n2_ n3_; clear ho hb hg hat)); try go_wp2_with (first | ((with_reducible refine gate_builtin (b := .append) (xs := #[.tmp 87, .tmp 89]) rfl ?_); (try (refine gate_guard (by rfl) ?_; dsimp only)); at_builtin; refine Kd.R_append (Kd.int .i64) (w0 := w) w.heap.size rfl (.tmp 87) (.tmp 89) 33 3 (.int .i64 0) 8 rfl Try.underlying33 info3 rfl (by decide) (by omega) u8 x8_2 x9_2 [.int .i64 x9_2] (fun k_ => (w.heap.size ≤ k_)) (fun _ => False) rfl rfl ?aP (fun _ hk => hk.elim) ?aF ?aO ?aB ?aS ?aL ?_; (case aP => exact rfl); (case aB => exact (by repeat (first | (with_reducible first | exact HB.out | apply pbA_ | apply pbN_ | apply pb1_) | exact HB.out))); (case aF => exact (fun k_ hk => (Nat.le_trans (pbS_ (by repeat (first | (with_reducible first | exact HB.out | apply pbA_ | apply pbN_ | apply pb1_) | exact HB.out))) hk))); (case aO => exact (by (with_reducible repeat (first | apply Kd.rA_ | apply Kd.rN_ | apply Kd.rD_)); exact HO_8.out)); (case aS => exact (pbS_ (by repeat (first | (with_reducible first | exact HB.out | apply pbA_ | apply pbN_ | apply pb1_) | exact HB.out)))); (case aL => have := LMc83.out; omega); intro v304 w84 ho hb hg hat; rw [← Ny303.out] at ho; have n0_ := Aside0.mk (Kd.V_afterv (ok := (fun k_ => ((P1_ k_ ∨ P2_ k_) ∨ w.heap.size ≤ k_))) (by (with_reducible repeat (first | apply Kd.V_alloc | apply Kd.V_drewN | apply Kd.V_drew)); exact HO_1.out) hg hat); have n1_ := Aside0.mk (Kd.V_afterv (ok := (fun k_ => ((P1_ k_ ∨ P2_ k_) ∨ w.heap.size ≤ k_))) (by (with_reducible repeat (first | apply Kd.V_alloc | apply Kd.V_drewN | apply Kd.V_drew)); exact HO_2.out) hg hat); have n2_ := Aside0.mk (hb); have n3_ := Aside0.mk (ho); clear HO_1; clear HO_2; clear HB; clear HO_8; have HO_1 := n0_; have HO_2 := n1_; have HB := n2_; have HO305 := n3_; clear n0_ n1_ n2_ n3_; clear ho hb hg hat)))
                  go_roundg kj28
                  case measure => have := HJ3.out; have := HK2.out; have := HJ8.out; have := HJ13.out; have := HJ28.out; omega
                  case rel => exact ⟨(x1_28), (x2_2), (y303), (wrap64 (x9_2 + 1)), (by first | rfl | (simp; done) | (simp [*]; done)), H', ⟨by have := HJ3.out; have := HK2.out; have := HJ8.out; have := HJ13.out; have := HJ28.out; omega⟩, ⟨by (with_reducible repeat (first | apply Kd.V_alloc | apply Kd.V_drewN | apply Kd.V_drew)); exact HO_1.out⟩, ⟨by (with_reducible repeat (first | apply Kd.V_alloc | apply Kd.V_drewN | apply Kd.V_drew)); exact HO_2.out⟩, ⟨by (with_reducible repeat (first | apply Kd.rA_ | apply Kd.rN_ | apply Kd.rD_)); exact HO305.out⟩, ⟨by repeat (first | (with_reducible first | exact HB.out | apply pbA_ | apply pbN_ | apply pb1_) | exact HB.out)⟩⟩
                 ·rw [if_neg c83] at H
                  exact absurd H (by simp)
                ·replace c82 := Bool.eq_false_iff.mpr c82
                 subst c82
                 have H1 : (if a0 = 2 then (dragnetref14_Join.l0 kj28 a0 x1_28 x2_2 x8_2 (wrap64 (x9_2 + 1))) else (dragnetref14_Join.l0 kj28 a0 x1_28 x2_2 x8_2 (wrap64 (x9_2 + 1)))) = some (r1, r2) := by rw [if_neg (show ¬ (false = true) by decide)] at H; exact H
                 clear H
                 have H := H1
                 clear H1
                 by_cases c85 : a0 = 2
                 ·rw [if_pos c85] at H
                  have c85b0 : (a0 == 2) = true := beq_iff_eq.mpr c85
                  have c85b1 : (a0 != 2) = false := bne_eq_false_iff_eq.mpr c85
                  clear c85
                  have H' := Aside0.mk H
                  clear H
                  go_wp2
                  repeat (go_quiet (fail); try go_wp2)
                  go_roundg kj28
                  case measure => have := HJ3.out; have := HK2.out; have := HJ8.out; have := HJ13.out; have := HJ28.out; omega
                  case rel => exact ⟨(x1_28), (x2_2), (x8_2), (wrap64 (x9_2 + 1)), (by first | rfl | (simp; done) | (simp [*]; done)), H', ⟨by have := HJ3.out; have := HK2.out; have := HJ8.out; have := HJ13.out; have := HJ28.out; omega⟩, ⟨by (with_reducible repeat (first | apply Kd.V_alloc | apply Kd.V_drewN | apply Kd.V_drew)); exact HO_1.out⟩, ⟨by (with_reducible repeat (first | apply Kd.V_alloc | apply Kd.V_drewN | apply Kd.V_drew)); exact HO_2.out⟩, ⟨by (with_reducible repeat (first | apply Kd.rA_ | apply Kd.rN_ | apply Kd.rD_)); exact HO_8.out⟩, ⟨by repeat (first | (with_reducible first | exact HB.out | apply pbA_ | apply pbN_ | apply pb1_) | exact HB.out)⟩⟩
                 ·rw [if_neg c85] at H
                  have c85b0 : (a0 == 2) = false := beq_eq_false_iff_ne.mpr c85
                  have c85b1 : (a0 != 2) = true := bne_iff_ne.mpr c85
                  have H' := Aside0.mk H
                  clear H
                  go_wp2
                  repeat (go_quiet (fail); try go_wp2)
                  go_roundg kj28
                  case measure => have := HJ3.out; have := HK2.out; have := HJ8.out; have := HJ13.out; have := HJ28.out; omega
                  case rel => exact ⟨(x1_28), (x2_2), (x8_2), (wrap64 (x9_2 + 1)), (by first | rfl | (simp; done) | (simp [*]; done)), H', ⟨by have := HJ3.out; have := HK2.out; have := HJ8.out; have := HJ13.out; have := HJ28.out; omega⟩, ⟨by (with_reducible repeat (first | apply Kd.V_alloc | apply Kd.V_drewN | apply Kd.V_drew)); exact HO_1.out⟩, ⟨by (with_reducible repeat (first | apply Kd.V_alloc | apply Kd.V_drewN | apply Kd.V_drew)); exact HO_2.out⟩, ⟨by (with_reducible repeat (first | apply Kd.rA_ | apply Kd.rN_ | apply Kd.rD_)); exact HO_8.out⟩, ⟨by repeat (first | (with_reducible first | exact HB.out | apply pbA_ | apply pbN_ | apply pb1_) | exact HB.out)⟩⟩
               ·rw [if_neg c81] at H
                have c81b0 : (a0 == 1) = false := beq_eq_false_iff_ne.mpr c81
                have c81b1 : (a0 != 1) = true := bne_iff_ne.mpr c81
                by_cases c86 : a0 = 2
                ·rw [if_pos c86] at H
                 have c86b0 : (a0 == 2) = true := beq_iff_eq.mpr c86
                 have c86b1 : (a0 != 2) = false := bne_eq_false_iff_eq.mpr c86
                 clear c86
                 by_cases c87 : x10_13 = true
                 ·subst c87
                  have H1 : (if x8_2.length < 17592186044416 then (dragnetref14_Join.l0 kj28 a0 x1_28 x2_2 (x8_2 ++ [x9_2]) (wrap64 (x9_2 + 1))) else (none)) = some (r1, r2) := by rw [if_pos rfl] at H; exact H
                  clear H
                  have H := H1
                  clear H1
                  by_cases c88 : x8_2.length < 17592186044416
                  ·rw [if_pos c88] at H
                   have LMc88 := Aside0.mk c88
                   clear c88
                   obtain ⟨y306, hy306⟩ : ∃ y_ : List Int, y_ = (x8_2 ++ [x9_2]) := ⟨_, rfl⟩
                   replace H : (dragnetref14_Join.l0 kj28 a0 x1_28 x2_2 y306 (wrap64 (x9_2 + 1))) = some (r1, r2) := by first | (rw [hy306]; with_reducible exact H) | (have H2_ := (Option.bind_some _ _).symm.trans H; rw [hy306]; with_reducible exact H2_) | (have H2_ := (Option.bind_some _ _).symm.trans H; with_reducible exact H2_) | with_reducible exact H | (rw [hy306]; exact H) | exact H
                   have Ny306 := Aside0.mk hy306
                   clear hy306
                   have H' := Aside0.mk H
                   clear H
                   go_wp2_with (first | ((with_reducible refine gate_builtin (b := .append) (xs := #[.tmp 87, .tmp 89]) rfl ?_); (try (refine gate_guard (by rfl) ?_; dsimp only)); at_builtin; refine Kd.R_append (Kd.int .i64) (w0 := w) w.heap.size rfl (.tmp 87) (.tmp 89) 33 3 (.int .i64 0) 8 rfl Try.underlying33 info3 rfl (by decide) (by omega) u8 x8_2 x9_2 [.int .i64 x9_2] (fun k_ => (w.heap.size ≤ k_)) (fun _ => False) rfl rfl ?aP (fun _ hk => hk.elim) ?aF ?aO ?aB ?aS ?aL ?_; (case aP => exact rfl); (case aB => exact (by repeat (first | (with_reducible first | exact HB.out | apply pbA_ | apply pbN_ | apply pb1_) | exact HB.out))); (case aF => exact (fun k_ hk => (Nat.le_trans (pbS_ (by repeat (first | (with_reducible first | exact HB.out | apply pbA_ | apply pbN_ | apply pb1_) | exact HB.out))) hk))); (case aO => exact (by (with_reducible repeat (first | apply Kd.rA_ | apply Kd.rN_ | apply Kd.rD_)); exact HO_8.out)); (case aS => exact (pbS_ (by repeat (first | (with_reducible first | exact HB.out | apply pbA_ | apply pbN_ | apply pb1_) | exact HB.out)))); (case aL => have := LMc88.out; omega); intro v307 w89 ho hb hg hat; rw [← Ny306.out] at ho; have n0_ := Aside0.mk (Kd.V_afterv (ok := (fun k_ => ((P1_ k_ ∨ P2_ k_) ∨ w.heap.size ≤ k_))) (by (with_reducible repeat (first | apply Kd.V_alloc | apply Kd.V_drewN | apply Kd.V_drew)); exact HO_1.out) hg hat); have n1_ := Aside0.mk (Kd.V_afterv (ok := (fun k_ => ((P1_ k_ ∨ P2_ k_) ∨ w.heap.size ≤ k_))) (by (with_reducible repeat (first | apply Kd.V_alloc | apply Kd.V_drewN | apply Kd.V_drew)); exact HO_2.out) hg hat); have n2_ := Aside0.mk (hb); have n3_ := Aside0.mk (ho); clear HO_1; clear HO_2; clear HB; clear HO_8; have HO_1 := n0_; have HO_2 := n1_; have HB := n2_; have HO308 := n3_; clear n0_ n1_ n2_ n3_; clear ho hb hg hat))
                   repeat (go_quiet (first | ((with_reducible refine gate_builtin (b := .append) (xs := #[.tmp 87, .tmp 89]) rfl ?_); (try (refine gate_guard (by rfl) ?_; dsimp only)); at_builtin; refine Kd.R_append (Kd.int .i64) (w0 := w) w.heap.size rfl (.tmp 87) (.tmp 89) 33 3 (.int .i64 0) 8 rfl Try.underlying33 info3 rfl (by decide) (by omega) u8 x8_2 x9_2 [.int .i64 x9_2] (fun k_ => (w.heap.size ≤ k_)) (fun _ => False) rfl rfl ?aP (fun _ hk => hk.elim) ?aF ?aO ?aB ?aS ?aL ?_; (case aP => exact rfl); (case aB => exact (by repeat (first | (with_reducible first | exact HB.out | apply pbA_ | apply pbN_ | apply pb1_) | exact HB.out))); (case aF => exact (fun k_ hk => (Nat.le_trans (pbS_ (by repeat (first | (with_reducible first | exact HB.out | apply pbA_ | apply pbN_ | apply pb1_) | exact HB.out))) hk))); (case aO => exact (by (with_reducible repeat (first | apply Kd.rA_ | apply Kd.rN_ | apply Kd.rD_)); exact HO_8.out)); (case aS => exact (pbS_ (by repeat (first | (with_reducible first | exact HB.out | apply pbA_ | apply pbN_ | apply pb1_) | exact HB.out)))); (case aL => have := LMc88.out; omega); intro v307 w89 ho hb hg hat; rw [← Ny306.out] at ho; have n0_ := Aside0.mk (Kd.V_afterv (ok := (fun k_ => ((P1_ k_ ∨ P2_ k_) ∨ w.heap.size ≤ k_))) (by (with_reducible repeat (first | apply Kd.V_alloc | apply Kd.V_drewN | apply Kd.V_drew)); exact HO_1.out) hg hat); have n1_ := Aside0.mk (Kd.V_afterv (ok := (fun k_ => ((P1_ k_ ∨ P2_ k_) ∨ w.heap.size ≤ k_))) (by (with_reducible repeat (first | apply Kd.V_alloc | apply Kd.V_drewN | apply Kd.V_drew)); exact HO_2.out) hg hat); have n2_ := Aside0.mk (hb); have n3_ := Aside0.mk (ho); clear HO_1; clear HO_2; clear HB; clear HO_8; have HO_1 := n0_; have HO_2 := n1_; have HB := n2_; have HO308 := n3_; clear n0_ n1_ n2_ n3_; clear ho hb hg hat)); try go_wp2_with (first | ((with_reducible refine gate_builtin (b := .append) (xs := #[.tmp 87, .tmp 89]) rfl ?_); (try (refine gate_guard (by rfl) ?_; dsimp only)); at_builtin; refine Kd.R_append (Kd.int .i64) (w0 := w) w.heap.size rfl (.tmp 87) (.tmp 89) 33 3 (.int .i64 0) 8 rfl Try.underlying33 info3 rfl (by decide) (by omega) u8 x8_2 x9_2 [.int .i64 x9_2] (fun k_ => (w.heap.size ≤ k_)) (fun _ => False) rfl rfl ?aP (fun _ hk => hk.elim) ?aF ?aO ?aB ?aS ?aL ?_; (case aP => exact rfl); (case aB => exact (by repeat (first | (with_reducible first | exact HB.out | apply pbA_ | apply pbN_ | apply pb1_) | exact HB.out))); (case aF => exact (fun k_ hk => (Nat.le_trans (pbS_ (by repeat (first | (with_reducible first | exact HB.out | apply pbA_ | apply pbN_ | apply pb1_) | exact HB.out))) hk))); (case aO => exact (by (with_reducible repeat (first | apply Kd.rA_ | apply Kd.rN_ | apply Kd.rD_)); exact HO_8.out)); (case aS => exact (pbS_ (by repeat (first | (with_reducible first | exact HB.out | apply pbA_ | apply pbN_ | apply pb1_) | exact HB.out)))); (case aL => have := LMc88.out; omega); intro v307 w89 ho hb hg hat; rw [← Ny306.out] at ho; have n0_ := Aside0.mk (Kd.V_afterv (ok := (fun k_ => ((P1_ k_ ∨ P2_ k_) ∨ w.heap.size ≤ k_))) (by (with_reducible repeat (first | apply Kd.V_alloc | apply Kd.V_drewN | apply Kd.V_drew)); exact HO_1.out) hg hat); have n1_ := Aside0.mk (Kd.V_afterv (ok := (fun k_ => ((P1_ k_ ∨ P2_ k_) ∨ w.heap.size ≤ k_))) (by (with_reducible repeat (first | apply Kd.V_alloc | apply Kd.V_drewN | apply Kd.V_drew)); exact HO_2.out) hg hat); have n2_ := Aside0.mk (hb); have n3_ := Aside0.mk (ho); clear HO_1; clear HO_2; clear HB; clear HO_8; have HO_1 := n0_; have HO_2 := n1_; have HB := n2_; have HO308 := n3_; clear n0_ n1_ n2_ n3_; clear ho hb hg hat)))
                   go_roundg kj28
                   case measure => have := HJ3.out; have := HK2.out; have := HJ8.out; have := HJ13.out; have := HJ28.out; omega
                   case rel => exact ⟨(x1_28), (x2_2), (y306), (wrap64 (x9_2 + 1)), (by first | rfl | (simp; done) | (simp [*]; done)), H', ⟨by have := HJ3.out; have := HK2.out; have := HJ8.out; have := HJ13.out; have := HJ28.out; omega⟩, ⟨by (with_reducible repeat (first | apply Kd.V_alloc | apply Kd.V_drewN | apply Kd.V_drew)); exact HO_1.out⟩, ⟨by (with_reducible repeat (first | apply Kd.V_alloc | apply Kd.V_drewN | apply Kd.V_drew)); exact HO_2.out⟩, ⟨by (with_reducible repeat (first | apply Kd.rA_ | apply Kd.rN_ | apply Kd.rD_)); exact HO308.out⟩, ⟨by repeat (first | (with_reducible first | exact HB.out | apply pbA_ | apply pbN_ | apply pb1_) | exact HB.out)⟩⟩
                  ·rw [if_neg c88] at H
                   exact absurd H (by simp)
                 ·replace c87 := Bool.eq_false_iff.mpr c87
                  subst c87
                  have H1 : (dragnetref14_Join.l0 kj28 a0 x1_28 x2_2 x8_2 (wrap64 (x9_2 + 1))) = some (r1, r2) := by rw [if_neg (show ¬ (false = true) by decide)] at H; exact H
                  clear H
                  have H := H1
                  clear H1
                  have H' := Aside0.mk H
                  clear H
                  go_wp2
                  repeat (go_quiet (fail); try go_wp2)
                  go_roundg kj28
                  case measure => have := HJ3.out; have := HK2.out; have := HJ8.out; have := HJ13.out; have := HJ28.out; omega
                  case rel => exact ⟨(x1_28), (x2_2), (x8_2), (wrap64 (x9_2 + 1)), (by first | rfl | (simp; done) | (simp [*]; done)), H', ⟨by have := HJ3.out; have := HK2.out; have := HJ8.out; have := HJ13.out; have := HJ28.out; omega⟩, ⟨by (with_reducible repeat (first | apply Kd.V_alloc | apply Kd.V_drewN | apply Kd.V_drew)); exact HO_1.out⟩, ⟨by (with_reducible repeat (first | apply Kd.V_alloc | apply Kd.V_drewN | apply Kd.V_drew)); exact HO_2.out⟩, ⟨by (with_reducible repeat (first | apply Kd.rA_ | apply Kd.rN_ | apply Kd.rD_)); exact HO_8.out⟩, ⟨by repeat (first | (with_reducible first | exact HB.out | apply pbA_ | apply pbN_ | apply pb1_) | exact HB.out)⟩⟩
                ·rw [if_neg c86] at H
                 have c86b0 : (a0 == 2) = false := beq_eq_false_iff_ne.mpr c86
                 have c86b1 : (a0 != 2) = true := bne_iff_ne.mpr c86
                 have H' := Aside0.mk H
                 clear H
                 go_wp2
                 repeat (go_quiet (fail); try go_wp2)
                 go_roundg kj28
                 case measure => have := HJ3.out; have := HK2.out; have := HJ8.out; have := HJ13.out; have := HJ28.out; omega
                 case rel => exact ⟨(x1_28), (x2_2), (x8_2), (wrap64 (x9_2 + 1)), (by first | rfl | (simp; done) | (simp [*]; done)), H', ⟨by have := HJ3.out; have := HK2.out; have := HJ8.out; have := HJ13.out; have := HJ28.out; omega⟩, ⟨by (with_reducible repeat (first | apply Kd.V_alloc | apply Kd.V_drewN | apply Kd.V_drew)); exact HO_1.out⟩, ⟨by (with_reducible repeat (first | apply Kd.V_alloc | apply Kd.V_drewN | apply Kd.V_drew)); exact HO_2.out⟩, ⟨by (with_reducible repeat (first | apply Kd.rA_ | apply Kd.rN_ | apply Kd.rD_)); exact HO_8.out⟩, ⟨by repeat (first | (with_reducible first | exact HB.out | apply pbA_ | apply pbN_ | apply pb1_) | exact HB.out)⟩⟩
        ·replace c13 := Bool.eq_false_iff.mpr c13
         subst c13
         have H1 : (some (x8_2, 0)) = some (r1, r2) := by rw [if_neg (show ¬ (false = true) by decide)] at H; exact H
         clear H
         have H := H1
         clear H1
         simp only [Option.some.injEq, Prod.mk.injEq] at H
         obtain ⟨rfl, rfl⟩ := H
         go_wp2
         repeat (go_quiet (fail); try go_wp2)
         go_ret2
         exact ⟨_, by first | rfl | (simp [eWn_, eWs_] <;> rfl) | (simp [*, eWn_, eWs_] <;> rfl), by (with_reducible repeat (first | apply Kd.rA_ | apply Kd.rN_ | apply Kd.rD_)); exact HO_8.out, by repeat (first | (with_reducible first | exact HB.out | apply pbA_ | apply pbN_ | apply pb1_) | exact HB.out)⟩
end Go.Proofs.Ytebkapoabbfmeaa.P
end
