/- Words and proofs that JoinDocs leans on; put together by wip/tools/shake.py. -/
import Derived.Test.YtebkapoabbfmeaaZJoinDocs4
import Derived.Test.YtebkapoabbfmeaaZJoinDocs5
import Derived.ArgAppend
import Derived.Below
import Derived.BigQuiet
import Derived.Deep.AppendLies
import Derived.Deep.CutBlock
import Derived.Deep.DeepCutAuto
import Derived.Deep.Draws
import Derived.Deep.LoopGhost
import Derived.Deep.OwnRows
import Derived.Deep.QuietTactic
import Derived.Deep.RegionHeld3
import Derived.KernelRfl
import Derived.Laws.BitsLemmas
import Derived.Laws.BytesArg
import Derived.Laws.Cover1
import Derived.Laws.IdiomCopy
import Derived.Laws.MakeOwn
import Derived.Laws.OwnMore
import Derived.Laws.Rows
import Derived.Laws.Slices
import Derived.Laws.StructEq
import Derived.Lib.AppendStr
import Derived.Lib.BitFns
import Derived.Lib.ConvBytes
import Derived.Lib.Slices
import Derived.Lib.Small
import Derived.Lib.Strings
import Derived.Lib.Walk
import Derived.Maps.AppendAt
import Derived.OrdersHeld
import Derived.OwnWalk
import Derived.RangeFuncBox
import Derived.RowKit
import Derived.RowKit3
import Derived.ScopeJumps
import Derived.Shelf.Abstract
import Derived.Tactics
import Derived.Test.YtebkapoabbfmeaaProg
import Derived.WalkKit
import Derived.WalkMore
import Derived.WalkSpells
import Derived.WideLaws
section
namespace Go.Proofs.Ytebkapoabbfmeaa.P
open Go.RowKit Go.Proofs.YtebkapoabbfmeaaW.PrintWords Go.Proofs.YtebkapoabbfmeaaW.PrintLast Go.Proofs.YtebkapoabbfmeaaW.PrintMore
attribute [local go_sem] max2_int min2_int max_two min_two max_three min_three max_four min_four
set_option linter.unusedVariables false
set_option linter.unusedSimpArgs false
def dragnetref14_Rises.l0 : Nat → List Int → Int → Option (Bool)
 | 0, _, _ => none
 | k + 1, x0, x3 => if x3 < (x0.length : Int) then (if 0 ≤ x3 then (if (rd x0 x3) < 0 then (some false) else (if (rd x0 x3) > 4095 then (some false) else (if x3 > 0 then (if 0 ≤ (wrap64 (x3 - 1)) then (if (wrap64 (x3 - 1)) < (x0.length : Int) then (if (rd x0 (wrap64 (x3 - 1))) ≥ (rd x0 x3) then (some false) else (dragnetref14_Rises.l0 k x0 (wrap64 (x3 + 1)))) else (none)) else (none)) else (dragnetref14_Rises.l0 k x0 (wrap64 (x3 + 1)))))) else (none)) else (some true)
def dragnetref14_Rises.f (k : Nat) (l0 : List Int) : Option (Bool) := dragnetref14_Rises.l0 k l0 0
theorem dragnetref14_Rises.mono_l : ∀ k, (∀ y0 y1, LeO (dragnetref14_Rises.l0 k y0 y1) (dragnetref14_Rises.l0 (k + 1) y0 y1))
 | 0 => fun _ _ r h => by simp [dragnetref14_Rises.l0] at h
 | k + 1 => by
  have ih0 := dragnetref14_Rises.mono_l k
  ·intro y0 y1
   unfold dragnetref14_Rises.l0
   repeat' first
   | (with_reducible exact ih0 _ _)
   | (with_reducible exact LeO.refl _)
   | (with_reducible exact LeO.none _)
   | (with_reducible refine LeO.ite ?_ ?_)
   | (with_reducible refine LeO.bind ?_ (fun _ => ?_))
   | exact ih0 _ _
   | exact LeO.none _
   | refine LeO.ite ?_ ?_
   | refine LeO.bind ?_ (fun _ => ?_)
theorem dragnetref14_Rises.mono : ∀ a0 k, LeO (dragnetref14_Rises.f k a0) (dragnetref14_Rises.f (k + 1) a0) := by
 intro a0 k
 have ih0 := dragnetref14_Rises.mono_l k
 unfold dragnetref14_Rises.f
 repeat' first
   | (with_reducible exact ih0 _ _)
   | (with_reducible exact LeO.refl _)
   | (with_reducible exact LeO.none _)
   | (with_reducible refine LeO.ite ?_ ?_)
   | (with_reducible refine LeO.bind ?_ (fun _ => ?_))
   | exact ih0 _ _
   | exact LeO.none _
   | refine LeO.ite ?_ ?_
   | refine LeO.bind ?_ (fun _ => ?_)
set_option maxHeartbeats 8000000 in
set_option maxRecDepth 100000 in
theorem dragnetref14_Rises.calls (k : Nat) (A0 : Option Addr) (c0 : Nat) (l0 : List Int) (r : Bool) (w : World) (hr0 : Kd.C (Kd.int .i64) w A0 l0.length l0) (hc0 : l0.length ≤ c0) (h : dragnetref14_Rises.f k l0 = some r) :
  Calls Try.prog 21 #[.slice A0 l0.length c0] w fun e w' => e = .returned (.bool r) ∧ Drawn0 w w' := by
 have HR0 := Aside0.mk hr0
 have HC0 := Aside0.mk hc0
 clear hr0 hc0
 have H : (dragnetref14_Rises.l0 k l0 0) = some r := h
 clear h
 have H' := Aside0.mk H
 clear H
 go_enter Try.func21, Try.ntmps21
 go_wp2
 repeat (go_quiet (fail); try go_wp2)
 go_loopg [3] k (fun kq v3 w' => ∃ (x3_1 : Int), v3 = .int .i64 x3_1 ∧ Aside0 (dragnetref14_Rises.l0 kq l0 x3_1 = some r) ∧ Aside0 (kq ≤ k) ∧ Drawn0 w w')
 case atStart => exact ⟨(0), (by first | rfl | (simp; done) | (simp [*]; done)), H', ⟨Nat.le_refl _⟩, by repeat (first | exact Drawn0.refl _ | apply Drawn0.step)⟩
 case round =>
  clear H'
  obtain ⟨x3_1, rfl, HA, HK1, ⟨m1, rfl⟩⟩ := hrel
  cases gk with
  | zero => exact absurd HA.out (by simp [dragnetref14_Rises.l0])
  | succ k1 =>
   have H := HA.out
   clear HA
   simp only [dragnetref14_Rises.l0] at H
   by_cases c2 : x3_1 < (l0.length : Int)
   ·rw [if_pos c2] at H
    have c2b0 : decide (x3_1 < (l0.length : Int)) = true := decide_eq_true c2
    clear c2
    by_cases c3 : 0 ≤ x3_1
    ·rw [if_pos c3] at H
     have c3b0 : decide (0 ≤ x3_1) = true := decide_eq_true c3
     clear c3
     by_cases c4 : (rd l0 x3_1) < 0
     ·rw [if_pos c4] at H
      have c4b0 : decide ((rd l0 x3_1) < 0) = true := decide_eq_true c4
      clear c4
      obtain rfl := Option.some.inj H
      have p266 : 0 ≤ (x3_1 : Int) := of_decide_eq_true (by first | (with_reducible assumption) | assumption)
      have q266 : x3_1 < (l0.length : Int) := of_decide_eq_true (by first | (with_reducible assumption) | assumption)
      obtain ⟨ad266, e266, hx266_0⟩ := Kd.at_int HR0.out x3_1 p266 q266
      cases e266
      replace p266 := eq_true p266
      replace q266 := eq_true q266
      go_wp2
      repeat (go_quiet (fail); try go_wp2)
      go_ret
      exact ⟨by first | rfl | (simp; done) | (simp [*]; done), by repeat (first | exact Drawn0.refl _ | apply Drawn0.step)⟩
     ·rw [if_neg c4] at H
      have c4b0 : decide ((rd l0 x3_1) < 0) = false := decide_eq_false c4
      clear c4
      by_cases c5 : (rd l0 x3_1) > 4095
      ·rw [if_pos c5] at H
       have c5b0 : decide (4095 < (rd l0 x3_1)) = true := decide_eq_true c5
       clear c5
       obtain rfl := Option.some.inj H
       have p266 : 0 ≤ (x3_1 : Int) := of_decide_eq_true (by first | (with_reducible assumption) | assumption)
       have q266 : x3_1 < (l0.length : Int) := of_decide_eq_true (by first | (with_reducible assumption) | assumption)
       obtain ⟨ad266, e266, hx266_0⟩ := Kd.at_int HR0.out x3_1 p266 q266
       cases e266
       replace p266 := eq_true p266
       replace q266 := eq_true q266
       have p267 : 0 ≤ (x3_1 : Int) := of_decide_eq_true (by first | (with_reducible assumption) | assumption)
       have q267 : x3_1 < (l0.length : Int) := of_decide_eq_true (by first | (with_reducible assumption) | assumption)
       obtain ⟨ad267, e267, hx267_0⟩ := Kd.at_int HR0.out x3_1 p267 q267
       obtain rfl : ad266 = ad267 := (by injection e267)
       replace p267 := eq_true p267
       replace q267 := eq_true q267
       go_wp2
       repeat (go_quiet (fail); try go_wp2)
       go_ret
       exact ⟨by first | rfl | (simp; done) | (simp [*]; done), by repeat (first | exact Drawn0.refl _ | apply Drawn0.step)⟩
      ·rw [if_neg c5] at H
       have c5b0 : decide (4095 < (rd l0 x3_1)) = false := decide_eq_false c5
       clear c5
       by_cases c6 : x3_1 > 0
       ·rw [if_pos c6] at H
        have c6b0 : decide (0 < x3_1) = true := decide_eq_true c6
        clear c6
        obtain ⟨ji7, hji7⟩ : ∃ j_ : Int, (wrap64 (x3_1 - 1)) = j_ := ⟨_, rfl⟩
        replace H : (if 0 ≤ (ji7) then (if (ji7) < (l0.length : Int) then (if (rd l0 (ji7)) ≥ (rd l0 x3_1) then (some false) else (dragnetref14_Rises.l0 k1 l0 (wrap64 (x3_1 + 1)))) else (none)) else (none)) = some r := by first | (rw [hji7] at H; exact H) | (simp only [hji7] at H ⊢; exact H)
        have hji7w : (IntKind.i64.wrap (x3_1 - 1)) = ji7 := (i64_w _).trans hji7
        by_cases c8 : 0 ≤ (ji7)
        ·rw [if_pos c8] at H
         have c8b0 : decide (0 ≤ (ji7)) = true := decide_eq_true c8
         clear c8
         by_cases c9 : (ji7) < (l0.length : Int)
         ·rw [if_pos c9] at H
          have c9b0 : decide ((ji7) < (l0.length : Int)) = true := decide_eq_true c9
          clear c9
          by_cases c10 : (rd l0 (ji7)) ≥ (rd l0 x3_1)
          ·rw [if_pos c10] at H
           have c10b0 : decide ((rd l0 x3_1) ≤ (rd l0 (ji7))) = true := decide_eq_true c10
           clear c10
           obtain rfl := Option.some.inj H
           have p266 : 0 ≤ (x3_1 : Int) := of_decide_eq_true (by first | (with_reducible assumption) | assumption)
           have q266 : x3_1 < (l0.length : Int) := of_decide_eq_true (by first | (with_reducible assumption) | assumption)
           obtain ⟨ad266, e266, hx266_0⟩ := Kd.at_int HR0.out x3_1 p266 q266
           cases e266
           replace p266 := eq_true p266
           replace q266 := eq_true q266
           have p267 : 0 ≤ (x3_1 : Int) := of_decide_eq_true (by first | (with_reducible assumption) | assumption)
           have q267 : x3_1 < (l0.length : Int) := of_decide_eq_true (by first | (with_reducible assumption) | assumption)
           obtain ⟨ad267, e267, hx267_0⟩ := Kd.at_int HR0.out x3_1 p267 q267
           obtain rfl : ad266 = ad267 := (by injection e267)
           replace p267 := eq_true p267
           replace q267 := eq_true q267
           have p268 : 0 ≤ ((ji7) : Int) := of_decide_eq_true (by first | (with_reducible assumption) | assumption)
           have q268 : (ji7) < (l0.length : Int) := of_decide_eq_true (by first | (with_reducible assumption) | assumption)
           obtain ⟨ad268, e268, hx268_0⟩ := Kd.at_int HR0.out (ji7) p268 q268
           obtain rfl : ad266 = ad268 := (by injection e268)
           replace p268 := eq_true p268
           replace q268 := eq_true q268
           have p269 : 0 ≤ (x3_1 : Int) := of_decide_eq_true (by first | (with_reducible assumption) | assumption)
           have q269 : x3_1 < (l0.length : Int) := of_decide_eq_true (by first | (with_reducible assumption) | assumption)
           obtain ⟨ad269, e269, hx269_0⟩ := Kd.at_int HR0.out x3_1 p269 q269
           obtain rfl : ad266 = ad269 := (by injection e269)
           replace p269 := eq_true p269
           replace q269 := eq_true q269
           go_wp2
           repeat (go_quiet (fail); try go_wp2)
           go_ret
           exact ⟨by first | rfl | (simp; done) | (simp only [← hji7] <;> (first | rfl | simp)) | (simp [*]; done), by repeat (first | exact Drawn0.refl _ | apply Drawn0.step)⟩
          ·rw [if_neg c10] at H
           have c10b0 : decide ((rd l0 x3_1) ≤ (rd l0 (ji7))) = false := decide_eq_false c10
           clear c10
           have H' := Aside0.mk H
           clear H
           have p266 : 0 ≤ (x3_1 : Int) := of_decide_eq_true (by first | (with_reducible assumption) | assumption)
           have q266 : x3_1 < (l0.length : Int) := of_decide_eq_true (by first | (with_reducible assumption) | assumption)
           obtain ⟨ad266, e266, hx266_0⟩ := Kd.at_int HR0.out x3_1 p266 q266
           cases e266
           replace p266 := eq_true p266
           replace q266 := eq_true q266
           have p267 : 0 ≤ (x3_1 : Int) := of_decide_eq_true (by first | (with_reducible assumption) | assumption)
           have q267 : x3_1 < (l0.length : Int) := of_decide_eq_true (by first | (with_reducible assumption) | assumption)
           obtain ⟨ad267, e267, hx267_0⟩ := Kd.at_int HR0.out x3_1 p267 q267
           obtain rfl : ad266 = ad267 := (by injection e267)
           replace p267 := eq_true p267
           replace q267 := eq_true q267
           have p268 : 0 ≤ ((ji7) : Int) := of_decide_eq_true (by first | (with_reducible assumption) | assumption)
           have q268 : (ji7) < (l0.length : Int) := of_decide_eq_true (by first | (with_reducible assumption) | assumption)
           obtain ⟨ad268, e268, hx268_0⟩ := Kd.at_int HR0.out (ji7) p268 q268
           obtain rfl : ad266 = ad268 := (by injection e268)
           replace p268 := eq_true p268
           replace q268 := eq_true q268
           have p269 : 0 ≤ (x3_1 : Int) := of_decide_eq_true (by first | (with_reducible assumption) | assumption)
           have q269 : x3_1 < (l0.length : Int) := of_decide_eq_true (by first | (with_reducible assumption) | assumption)
           obtain ⟨ad269, e269, hx269_0⟩ := Kd.at_int HR0.out x3_1 p269 q269
           obtain rfl : ad266 = ad269 := (by injection e269)
           replace p269 := eq_true p269
           replace q269 := eq_true q269
           go_wp2
           repeat (go_quiet (fail); try go_wp2)
           (try subst hji7)
           go_roundg k1
           case measure => have := HK1.out; omega
           case rel => exact ⟨(wrap64 (x3_1 + 1)), (by first | rfl | (simp; done) | (simp [*]; done)), H', ⟨by have := HK1.out; omega⟩, by repeat (first | exact Drawn0.refl _ | apply Drawn0.step)⟩
         ·rw [if_neg c9] at H
          exact absurd H (by simp)
        ·rw [if_neg c8] at H
         exact absurd H (by simp)
       ·rw [if_neg c6] at H
        have c6b0 : decide (0 < x3_1) = false := decide_eq_false c6
        clear c6
        have H' := Aside0.mk H
        clear H
        have p266 : 0 ≤ (x3_1 : Int) := of_decide_eq_true (by first | (with_reducible assumption) | assumption)
        have q266 : x3_1 < (l0.length : Int) := of_decide_eq_true (by first | (with_reducible assumption) | assumption)
        obtain ⟨ad266, e266, hx266_0⟩ := Kd.at_int HR0.out x3_1 p266 q266
        cases e266
        replace p266 := eq_true p266
        replace q266 := eq_true q266
        have p267 : 0 ≤ (x3_1 : Int) := of_decide_eq_true (by first | (with_reducible assumption) | assumption)
        have q267 : x3_1 < (l0.length : Int) := of_decide_eq_true (by first | (with_reducible assumption) | assumption)
        obtain ⟨ad267, e267, hx267_0⟩ := Kd.at_int HR0.out x3_1 p267 q267
        obtain rfl : ad266 = ad267 := (by injection e267)
        replace p267 := eq_true p267
        replace q267 := eq_true q267
        go_wp2
        repeat (go_quiet (fail); try go_wp2)
        go_roundg k1
        case measure => have := HK1.out; omega
        case rel => exact ⟨(wrap64 (x3_1 + 1)), (by first | rfl | (simp; done) | (simp [*]; done)), H', ⟨by have := HK1.out; omega⟩, by repeat (first | exact Drawn0.refl _ | apply Drawn0.step)⟩
    ·rw [if_neg c3] at H
     exact absurd H (by simp)
   ·rw [if_neg c2] at H
    have c2b0 : decide (x3_1 < (l0.length : Int)) = false := decide_eq_false c2
    clear c2
    obtain rfl := Option.some.inj H
    go_wp2
    repeat (go_quiet (fail); try go_wp2)
    go_ret
    exact ⟨by first | rfl | (simp; done) | (simp [*]; done), by repeat (first | exact Drawn0.refl _ | apply Drawn0.step)⟩
end Go.Proofs.Ytebkapoabbfmeaa.P
end
section
namespace Go.Proofs.Ytebkapoabbfmeaa.P
open Go.RowKit Go.Proofs.YtebkapoabbfmeaaW.PrintWords Go.Proofs.YtebkapoabbfmeaaW.PrintLast Go.Proofs.YtebkapoabbfmeaaW.PrintMore
attribute [local go_sem] max2_int min2_int max_two min_two max_three min_three max_four min_four
set_option linter.unusedVariables false
set_option linter.unusedSimpArgs false
def join_Docs.l0 : Nat → List Int → List (S35) → Int → Int → Option (List Int)
 | 0, _, _, _, _ => none
 | k + 1, x3, x9, x10, x11 => if x11 < x10 then (if 0 ≤ x11 then (if x11 < (x9.length : Int) then (if x11 < (x3.length : Int) then (join_Docs.l0 k (x3.set (x11 : Int).toNat ((rd_T35 x9 x11).f0)) x9 x10 (wrap64 (x11 + 1))) else (none)) else (none)) else (none)) else (some x3)
def join_Docs.f (k : Nat) (l0 : List (S35)) : Option (List Int) := if 0 ≤ (l0.length : Int) then (if ((l0.length : Int) : Int).toNat ≤ 35184372088832 then (join_Docs.l0 k (List.replicate ((l0.length : Int) : Int).toNat 0) l0 (l0.length : Int) 0) else (none)) else (none)
theorem join_Docs.mono_l : ∀ k, (∀ y0 y1 y2 y3, LeO (join_Docs.l0 k y0 y1 y2 y3) (join_Docs.l0 (k + 1) y0 y1 y2 y3))
 | 0 => fun _ _ _ _ r h => by simp [join_Docs.l0] at h
 | k + 1 => by
  have ih0 := join_Docs.mono_l k
  ·intro y0 y1 y2 y3
   unfold join_Docs.l0
   repeat' first
   | (with_reducible exact ih0 _ _ _ _)
   | (with_reducible exact LeO.refl _)
   | (with_reducible exact LeO.none _)
   | (with_reducible refine LeO.ite ?_ ?_)
   | (with_reducible refine LeO.bind ?_ (fun _ => ?_))
   | exact ih0 _ _ _ _
   | exact LeO.none _
   | refine LeO.ite ?_ ?_
   | refine LeO.bind ?_ (fun _ => ?_)
theorem join_Docs.mono : ∀ a0 k, LeO (join_Docs.f k a0) (join_Docs.f (k + 1) a0) := by
 intro a0 k
 have ih0 := join_Docs.mono_l k
 unfold join_Docs.f
 repeat' first
   | (with_reducible exact ih0 _ _ _ _)
   | (with_reducible exact LeO.refl _)
   | (with_reducible exact LeO.none _)
   | (with_reducible refine LeO.ite ?_ ?_)
   | (with_reducible refine LeO.bind ?_ (fun _ => ?_))
   | exact ih0 _ _ _ _
   | exact LeO.none _
   | refine LeO.ite ?_ ?_
   | refine LeO.bind ?_ (fun _ => ?_)
set_option maxHeartbeats 8000000 in
set_option maxRecDepth 100000 in
theorem join_Docs.calls (k : Nat) (A0 : Option Addr) (c0 : Nat) (l0 : List (S35)) (r : List Int) (w : World) (hr0 : Kd.C k35 w A0 l0.length l0) (hc0 : l0.length ≤ c0) (h : join_Docs.f k l0 = some r) :
  Calls Try.prog 23 #[.slice A0 l0.length c0] w fun e w' => ∃ v0_ : Value, e = .returned (v0_) ∧ Kd.R (Kd.int .i64) 3 w' w.heap.size (fun _ => True) v0_ r ∧ Below w.heap.size w w' := by
 have hu35 := Try.underlying35
 have HR0 := Aside0.mk hr0
 have HC0 := Aside0.mk hc0
 clear hr0 hc0
 have HB := Aside0.mk (Below.refl w.heap.size w)
 have H : (if 0 ≤ (l0.length : Int) then (if ((l0.length : Int) : Int).toNat ≤ 35184372088832 then (join_Docs.l0 k (List.replicate ((l0.length : Int) : Int).toNat 0) l0 (l0.length : Int) 0) else (none)) else (none)) = some r := h
 clear h
 by_cases c2 : 0 ≤ (l0.length : Int)
 ·rw [if_pos c2] at H
  have c2b0 := eq_true c2
  have c2b1 : decide (0 ≤ (l0.length : Int)) = true := decide_eq_true c2
  clear c2
  by_cases c3 : ((l0.length : Int) : Int).toNat ≤ 35184372088832
  ·rw [if_pos c3] at H
   have c3b0 := eq_true c3
   have c3b1 : decide (((l0.length : Int) : Int).toNat ≤ 35184372088832) = true := decide_eq_true c3
   clear c3
   obtain ⟨y381, hy381⟩ : ∃ y_ : List Int, y_ = (List.replicate ((l0.length : Int) : Int).toNat 0) := ⟨_, rfl⟩
   replace H : (join_Docs.l0 k y381 l0 (l0.length : Int) 0) = some r := by first | (rw [hy381]; with_reducible exact H) | (have H2_ := (Option.bind_some _ _).symm.trans H; rw [hy381]; with_reducible exact H2_) | (have H2_ := (Option.bind_some _ _).symm.trans H; with_reducible exact H2_) | with_reducible exact H | (rw [hy381]; exact H) | exact H
   have Ny381 := Aside0.mk hy381
   clear hy381
   have H' := Aside0.mk H
   clear H
   go_enter Try.func23, Try.ntmps23
   go_wp2_with (first | ((with_reducible refine gate_dst (N := 8) rfl ?_); refine Kd.R_make (Kd.int .i64) _ 3 rfl (N := 8) rfl 33 _ _ rfl (l0.length : Int) rfl rfl Try.underlying33 (.int .i64 0) 8 info3 rfl (by decide) (by omega) 0 (ok := fun _ => True) (okp := fun _ => True) rfl (fun _ hk => hk) trivial (of_decide_eq_true (by first | (with_reducible assumption) | assumption)) (Nat.le_trans (Nat.mul_le_mul_right _ (of_decide_eq_true (by first | (with_reducible assumption) | assumption) : (l0.length : Int).toNat ≤ 35184372088832)) (by omega)) (Below.refl _ _) (Nat.le_refl _) ?_; intro v382 w4 ho5 hb hg_ hnew_; clear hg_ hnew_; (first | rw [← Ny381.out] at ho5 | (simp only [Int.reduceToNat] at ho5; rw [← Ny381.out] at ho5)); have n0_ := Aside0.mk (Kd.R_lower ho5 (pbS_ (by repeat (first | (with_reducible first | exact HB.out | apply pbA_ | apply pbN_ | apply pb1_) | exact HB.out)))); have n1_ := Aside0.mk (below_step (by repeat (first | (with_reducible first | exact HB.out | apply pbA_ | apply pbN_ | apply pb1_) | exact HB.out)) hb); clear HB; have HO383 := n0_; have HB := n1_; clear n0_ n1_; clear hb ho5))
   go_loopg [11] k (fun kq v11 w' => ∃ (x3_1 : List Int) (x11_1 : Int), v11 = .int .i64 x11_1 ∧ Aside0 (join_Docs.l0 kq x3_1 l0 (l0.length : Int) x11_1 = some r) ∧ Aside0 (kq ≤ k) ∧ Aside0 (Kd.R (Kd.int .i64) 3 w' w.heap.size (fun _ => True) v382 x3_1) ∧ Aside0 (Below w.heap.size w w'))
   case atStart => exact ⟨(y381), (0), (by first | rfl | (simp; done) | (simp [*]; done)), H', ⟨Nat.le_refl _⟩, ⟨by (with_reducible repeat (first | apply Kd.rA_ | apply Kd.rN_ | apply Kd.rD_)); exact HO383.out⟩, ⟨by repeat (first | (with_reducible first | exact HB.out | apply pbA_ | apply pbN_ | apply pb1_) | exact HB.out)⟩⟩
   case round =>
    clear H'
    try clear c2
    try clear c2b0
    try clear c2b1
    try clear p2
    try clear c3
    try clear c3b0
    try clear c3b1
    obtain ⟨x3_1, x11_1, rfl, HA, HK1, HO_3, HB⟩ := hrel
    cases gk with
    | zero => exact absurd HA.out (by simp [join_Docs.l0])
    | succ k1 =>
     have H := HA.out
     clear HA
     simp only [join_Docs.l0] at H
     by_cases c6 : x11_1 < (l0.length : Int)
     ·rw [if_pos c6] at H
      have c6b0 : decide (x11_1 < (l0.length : Int)) = true := decide_eq_true c6
      clear c6
      by_cases c7 : 0 ≤ x11_1
      ·rw [if_pos c7] at H
       have c7b0 : decide (0 ≤ x11_1) = true := decide_eq_true c7
       clear c7
       by_cases c8 : x11_1 < (l0.length : Int)
       ·rw [if_pos c8] at H
        have c8b0 : decide (x11_1 < (l0.length : Int)) = true := decide_eq_true c8
        clear c8
        by_cases c9 : x11_1 < (x3_1.length : Int)
        ·rw [if_pos c9] at H
         have c9b0 : decide (x11_1 < (x3_1.length : Int)) = true := decide_eq_true c9
         clear c9
         obtain ⟨y386, hy386⟩ : ∃ y_ : List Int, y_ = (x3_1.set (x11_1 : Int).toNat ((rd_T35 l0 x11_1).f0)) := ⟨_, rfl⟩
         replace H : (join_Docs.l0 k1 y386 l0 (l0.length : Int) (wrap64 (x11_1 + 1))) = some r := by first | (rw [hy386]; with_reducible exact H) | (have H2_ := (Option.bind_some _ _).symm.trans H; rw [hy386]; with_reducible exact H2_) | (have H2_ := (Option.bind_some _ _).symm.trans H; with_reducible exact H2_) | with_reducible exact H | (rw [hy386]; exact H) | exact H
         have Ny386 := Aside0.mk hy386
         clear hy386
         have H' := Aside0.mk H
         clear H
         have p384 : 0 ≤ (x11_1 : Int) := of_decide_eq_true (by first | (with_reducible assumption) | assumption)
         have q384 : x11_1 < (l0.length : Int) := of_decide_eq_true (by first | (with_reducible assumption) | assumption)
         obtain ⟨ad384, A384_1, c384_1, e384, hx384_0, hx384_1, hl384_1, hi384_1⟩ := at_T35 HR0.out x11_1 p384 q384
         cases e384
         replace hx384_0 := (HB.out.cell (World.block_lt_of_cell? w _ hx384_0)).trans hx384_0
         replace hx384_1 := (HB.out.cell (World.block_lt_of_cell? w _ hx384_1)).trans hx384_1
         have HR384_1 := Aside0.mk hi384_1
         have HC384_1 := Aside0.mk hl384_1
         clear hi384_1 hl384_1
         replace p384 := eq_true p384
         replace q384 := eq_true q384
         go_wp2_with (first | ((with_reducible refine gate_dst (N := 5) rfl ?_); refine box_event ?hg (N := 5) ?hd (cs := #[.int .i64 0, .slice none 0 0]) (t := 35) ?hr ?_; (case hd => rfl); (case hg => rfl); (case hr => first | (go_simp; done) | (go_simp; rfl)); intro gb385 hg w11 hbox hb; have n0_ := Aside0.mk (Kd.R_below (by (with_reducible repeat (first | apply Kd.rA_ | apply Kd.rN_ | apply Kd.rD_)); exact HO_3.out) hb); have n1_ := Aside0.mk (below_step (by repeat (first | (with_reducible first | exact HB.out | apply pbA_ | apply pbN_ | apply pb1_) | exact HB.out)) hb); have n2_ := Aside0.mk (hbox); have n3_ := Aside0.mk ((by rw [hg]; exact (pbS_ (by repeat (first | (with_reducible first | exact HB.out | apply pbA_ | apply pbN_ | apply pb1_) | exact HB.out))) : w.heap.size ≤ gb385)); have n4_ := Aside0.mk ((by rw [hg]; exact (pbS_ (by repeat (first | (with_reducible first | exact HB.out | apply pbA_ | apply pbN_ | apply pb1_) | exact HB.out))) : w.heap.size ≤ gb385)); clear HO_3; clear HB; have HO_3 := n0_; have HB := n1_; have BK385 := n2_; have GW385 := n3_; have GE385 := n4_; clear n0_ n1_ n2_ n3_ n4_; clear hb hbox hg; have hcz12_0 : w11.cell? ⟨gb385, 0, none⟩ = some (.int .i64 0) := (blk_cell BK385.out 0).trans rfl; have hcz12_1 : w11.cell? ⟨gb385, 1, none⟩ = some (.slice none 0 0) := (blk_cell BK385.out 1).trans rfl; have hfz12_0 := blk_frozen BK385.out 0; have hfz12_1 := blk_frozen BK385.out 1) | ((with_reducible refine gate_store (t := 35) (p := 5) rfl ?_); refine store_event (t := 35) (p := 5) (v := ?vo_w13) (w1 := ((w11.setCell ⟨gb385, 0, none⟩ (.int .i64 ((rd_T35 l0 x11_1).f0))).setCell ⟨gb385, 1, none⟩ (.slice A384_1 ((rd_T35 l0 x11_1).f1).length c384_1))) ?hg ?ho ?hn ?hr ?_; (case ho => rfl); (case hg => rfl); (case hn => rfl); (case hr => first | (go_simp; done) | (go_simp; rfl)); intro w13 hw; have n0_ : Aside0 (Kd.R (Kd.int .i64) 3 w13 w.heap.size (fun _ => True) v382 x3_1) := ⟨(by rw [hw]; exact (by (with_reducible repeat (first | apply Kd.rA_ | apply Kd.rN_ | apply Kd.rD_)); exact Kd.R_mono (Kd.R_far (p := ⟨gb385, 1, none⟩) (Kd.R_far (p := ⟨gb385, 0, none⟩) (Kd.R_types HO_3.out BK385.out (by decide)) (fun _ hk => hk.2) (.int .i64 ((rd_T35 l0 x11_1).f0))) (fun _ hk => hk.2) (.slice A384_1 ((rd_T35 l0 x11_1).f1).length c384_1)) (fun _ hk => trivial)))⟩; have n1_ : Aside0 (w13.heap[gb385]? = some (.cells #[.int .i64 ((rd_T35 l0 x11_1).f0), .slice A384_1 ((rd_T35 l0 x11_1).f1).length c384_1] 35 (0, 0))) := ⟨(by rw [hw]; exact (by (with_reducible repeat (first | refine blk_drewN ?_ _ | refine blk_drew ?_ | refine blk_alloc ?_ _)); refine blk_put (cs := #[.int .i64 ((rd_T35 l0 x11_1).f0), .slice none 0 0]) ?_ 1 _ rfl; (with_reducible repeat (first | refine blk_drewN ?_ _ | refine blk_drew ?_ | refine blk_alloc ?_ _)); refine blk_put (cs := #[.int .i64 0, .slice none 0 0]) ?_ 0 _ rfl; (with_reducible repeat (first | refine blk_drewN ?_ _ | refine blk_drew ?_ | refine blk_alloc ?_ _)); exact BK385.out))⟩; have n2_ : Aside0 (Below w.heap.size w w13) := ⟨(by rw [hw]; exact (by repeat (first | (with_reducible first | exact HB.out | apply pbA_ | apply pbN_ | apply pb1_ | refine below_set ?_ GE385.out) | exact HB.out)))⟩; clear hw; clear HO_3; clear BK385; clear HB; have HO_3 := n0_; have BK385 := n1_; have HB := n2_; clear n0_ n1_ n2_; have hcz14_0 : w13.cell? ⟨gb385, 0, none⟩ = some (.int .i64 ((rd_T35 l0 x11_1).f0)) := (blk_cell BK385.out 0).trans rfl; have hcz14_1 : w13.cell? ⟨gb385, 1, none⟩ = some (.slice A384_1 ((rd_T35 l0 x11_1).f1).length c384_1) := (blk_cell BK385.out 1).trans rfl; have hfz14_0 := blk_frozen BK385.out 0; have hfz14_1 := blk_frozen BK385.out 1; have p10 : 0 ≤ (x11_1 : Int) := of_decide_eq_true (by first | (with_reducible assumption) | assumption); have q10 : (x11_1 : Int) < ((x3_1.length : Int) : Int) := of_decide_eq_true (by first | (with_reducible assumption) | assumption); obtain ⟨go10, co10, eo10, gb10, gl10, cl10, HG10⟩ := Kd.R_form HO_3.out (by omega); (first | cases eo10 | (injection eo10 with ea_ en_ ec_; (first | subst ea_ | (injection ea_ with ea_; subst ea_)); subst ec_; clear en_)); have GB10 := Aside0.mk gb10; have GG10 := Aside0.mk HG10; clear gb10 gl10 HG10; obtain ⟨hx10_0, hf10_0⟩ := Kd.R_celln 0 HO_3.out (x11_1 : Int) p10 q10; replace p10 := eq_true p10; replace q10 := eq_true q10; obtain ⟨hy15_, hz15_⟩ := Kd.R_celln 0 HO_3.out (x11_1 : Int) (of_decide_eq_true (by first | (with_reducible assumption) | assumption)) (of_decide_eq_true (by first | (with_reducible assumption) | assumption)); have HP15 := Kd.R_putg HO_3.out (x11_1 : Int) ((rd_T35 l0 x11_1).f0)) | ((with_reducible refine gate_store (t := 3) (p := 20) rfl ?_); refine store_event (t := 3) (p := 20) (v := ?vo_w16) (w1 := (w13.setCell ⟨go10, (x11_1 : Int).toNat, none⟩ (.int .i64 ((rd_T35 l0 x11_1).f0)))) ?hg ?ho ?hn ?hr ?_; (case ho => rfl); (case hg => rfl); (case hn => rfl); (case hr => first | (go_simp; done) | (go_simp; rfl)); intro w16 hw; have hg : w13.grownBy w16 (some go10) := (by rw [hw]; exact HP15.2); have hp_ : Kd.R (Kd.int .i64) 3 w16 w.heap.size (fun _ => True) (.slice (some ⟨go10, 0, none⟩) x3_1.length co10) y386 := (by rw [hw, Ny386.out]; exact HP15.1); clear HP15; have n0_ := Aside0.mk (hp_); have n1_ := Aside0.mk (blk_grown (g := gb385) (o := .cells #[.int .i64 ((rd_T35 l0 x11_1).f0), .slice A384_1 ((rd_T35 l0 x11_1).f1).length c384_1] 35 (0, 0)) (by (with_reducible repeat (first | refine blk_drewN ?_ _ | refine blk_drew ?_ | refine blk_alloc ?_ _)); exact BK385.out) hg (Kd.R_ne HO_3.out BK385.out (by decide))); have n2_ := Aside0.mk ((by rw [hw]; exact below_set (HB.out) GB10.out : Below w.heap.size w w16)); clear HO_3; clear BK385; clear HB; have HO_3 := n0_; have BK385 := n1_; have HB := n2_; clear n0_ n1_ n2_; clear hg hw hp_))
         go_roundg k1
         case measure => have := HK1.out; omega
         case rel => exact ⟨(y386), (wrap64 (x11_1 + 1)), (by first | rfl | (simp; done) | (simp [*]; done)), H', ⟨by have := HK1.out; omega⟩, ⟨by (with_reducible repeat (first | apply Kd.rA_ | apply Kd.rN_ | apply Kd.rD_)); exact HO_3.out⟩, ⟨by repeat (first | (with_reducible first | exact HB.out | apply pbA_ | apply pbN_ | apply pb1_ | refine below_set ?_ GE385.out) | exact HB.out)⟩⟩
        ·rw [if_neg c9] at H
         exact absurd H (by simp)
       ·rw [if_neg c8] at H
        exact absurd H (by simp)
      ·rw [if_neg c7] at H
       exact absurd H (by simp)
     ·rw [if_neg c6] at H
      have c6b0 : decide (x11_1 < (l0.length : Int)) = false := decide_eq_false c6
      clear c6
      obtain rfl := Option.some.inj H
      go_wp2
      go_ret
      exact ⟨_, by first | rfl | (simp [eWn_, eWs_] <;> rfl) | (simp [*, eWn_, eWs_] <;> rfl), by (with_reducible repeat (first | apply Kd.rA_ | apply Kd.rN_ | apply Kd.rD_)); exact HO_3.out, by repeat (first | (with_reducible first | exact HB.out | apply pbA_ | apply pbN_ | apply pb1_) | exact HB.out)⟩
  ·rw [if_neg c3] at H
   exact absurd H (by simp)
 ·rw [if_neg c2] at H
  exact absurd H (by simp)
def dragnetlaw14_JoinDocs.f (k : Nat) (l0 : List (S35)) (l1 : List Int) : Option (Bool) := (dragnetlaw14_alive.f k).bind fun t387 => (if t387 = true then ((join_Docs.f k l0).bind fun t388 => ((dragnetref13_Docs.f k l0).bind fun t391 => ((dragnetref09_Ints.f k t388 t391).bind fun t394 => (if t394 = true then ((join_Rises.f k l1).bind fun t395 => ((dragnetref14_Rises.f k l1).bind fun t396 => (some (t395 == t396)))) else (some false))))) else (some false))
theorem dragnetlaw14_JoinDocs.mono : ∀ a0 a1 k, LeO (dragnetlaw14_JoinDocs.f k a0 a1) (dragnetlaw14_JoinDocs.f (k + 1) a0 a1) := by
 intro a0 a1 k
 unfold dragnetlaw14_JoinDocs.f
 repeat' first
   | (with_reducible exact dragnetlaw14_alive.mono _)
   | (with_reducible exact dragnetref09_Ints.mono _ _ _)
   | (with_reducible exact dragnetref13_Docs.mono _ _)
   | (with_reducible exact dragnetref14_Rises.mono _ _)
   | (with_reducible exact join_Docs.mono _ _)
   | (with_reducible exact join_Rises.mono _ _)
   | (with_reducible exact LeO.refl _)
   | (with_reducible exact LeO.none _)
   | (with_reducible refine LeO.ite ?_ ?_)
   | (with_reducible refine LeO.bind ?_ (fun _ => ?_))
   | exact dragnetlaw14_alive.mono _
   | exact dragnetref09_Ints.mono _ _ _
   | exact dragnetref13_Docs.mono _ _
   | exact dragnetref14_Rises.mono _ _
   | exact join_Docs.mono _ _
   | exact join_Rises.mono _ _
   | exact LeO.none _
   | refine LeO.ite ?_ ?_
   | refine LeO.bind ?_ (fun _ => ?_)
set_option maxHeartbeats 8000000 in
set_option maxRecDepth 100000 in
theorem dragnetlaw14_JoinDocs.calls (k : Nat) (A0 : Option Addr) (c0 : Nat) (l0 : List (S35)) (A1 : Option Addr) (c1 : Nat) (l1 : List Int) (r : Bool) (w : World) (hr0 : Kd.C k35 w A0 l0.length l0) (hc0 : l0.length ≤ c0) (hr1 : Kd.C (Kd.int .i64) w A1 l1.length l1) (hc1 : l1.length ≤ c1) (h : dragnetlaw14_JoinDocs.f k l0 l1 = some r) :
  Calls Try.prog 7 #[.slice A0 l0.length c0, .slice A1 l1.length c1] w fun e w' => e = .returned (.bool r) ∧ Below w.heap.size w w' := by
 have HR0 := Aside0.mk hr0
 have HC0 := Aside0.mk hc0
 clear hr0 hc0
 have HR1 := Aside0.mk hr1
 have HC1 := Aside0.mk hc1
 clear hr1 hc1
 have HB := Aside0.mk (Below.refl w.heap.size w)
 have H : ((dragnetlaw14_alive.f k).bind fun t387 => (if t387 = true then ((join_Docs.f k l0).bind fun t388 => ((dragnetref13_Docs.f k l0).bind fun t391 => ((dragnetref09_Ints.f k t388 t391).bind fun t394 => (if t394 = true then ((join_Rises.f k l1).bind fun t395 => ((dragnetref14_Rises.f k l1).bind fun t396 => (some (t395 == t396)))) else (some false))))) else (some false))) = some r := h
 clear h
 replace H := Option.bind_eq_some_iff.mp H
 obtain ⟨t387, A30, H⟩ := H
 replace H : (if t387 = true then ((join_Docs.f k l0).bind fun t388 => ((dragnetref13_Docs.f k l0).bind fun t391 => ((dragnetref09_Ints.f k t388 t391).bind fun t394 => (if t394 = true then ((join_Rises.f k l1).bind fun t395 => ((dragnetref14_Rises.f k l1).bind fun t396 => (some (t395 == t396)))) else (some false))))) else (some false)) = some r := H
 have A3 := Aside0.mk A30
 clear A30
 by_cases c4 : t387 = true
 ·subst c4
  have H1 : ((join_Docs.f k l0).bind fun t388 => ((dragnetref13_Docs.f k l0).bind fun t391 => ((dragnetref09_Ints.f k t388 t391).bind fun t394 => (if t394 = true then ((join_Rises.f k l1).bind fun t395 => ((dragnetref14_Rises.f k l1).bind fun t396 => (some (t395 == t396)))) else (some false))))) = some r := by rw [if_pos rfl] at H; exact H
  clear H
  have H := H1
  clear H1
  replace H := Option.bind_eq_some_iff.mp H
  obtain ⟨t388, A50, H⟩ := H
  replace H : ((dragnetref13_Docs.f k l0).bind fun t391 => ((dragnetref09_Ints.f k t388 t391).bind fun t394 => (if t394 = true then ((join_Rises.f k l1).bind fun t395 => ((dragnetref14_Rises.f k l1).bind fun t396 => (some (t395 == t396)))) else (some false)))) = some r := H
  have A5 := Aside0.mk A50
  clear A50
  replace H := Option.bind_eq_some_iff.mp H
  obtain ⟨t391, A60, H⟩ := H
  replace H : ((dragnetref09_Ints.f k t388 t391).bind fun t394 => (if t394 = true then ((join_Rises.f k l1).bind fun t395 => ((dragnetref14_Rises.f k l1).bind fun t396 => (some (t395 == t396)))) else (some false))) = some r := H
  have A6 := Aside0.mk A60
  clear A60
  replace H := Option.bind_eq_some_iff.mp H
  obtain ⟨t394, A70, H⟩ := H
  replace H : (if t394 = true then ((join_Rises.f k l1).bind fun t395 => ((dragnetref14_Rises.f k l1).bind fun t396 => (some (t395 == t396)))) else (some false)) = some r := H
  have A7 := Aside0.mk A70
  clear A70
  by_cases c8 : t394 = true
  ·subst c8
   have H1 : ((join_Rises.f k l1).bind fun t395 => ((dragnetref14_Rises.f k l1).bind fun t396 => (some (t395 == t396)))) = some r := by rw [if_pos rfl] at H; exact H
   clear H
   have H := H1
   clear H1
   replace H := Option.bind_eq_some_iff.mp H
   obtain ⟨t395, A90, H⟩ := H
   replace H : ((dragnetref14_Rises.f k l1).bind fun t396 => (some (t395 == t396))) = some r := H
   have A9 := Aside0.mk A90
   clear A90
   replace H := Option.bind_eq_some_iff.mp H
   obtain ⟨t396, A100, H⟩ := H
   replace H : (some (t395 == t396)) = some r := H
   have A10 := Aside0.mk A100
   clear A100
   obtain rfl := Option.some.inj H
   go_enter Try.func7, Try.ntmps7
   go_wp2_with (first | ((with_reducible refine gaC_ (f := 8) rfl ?_); refine goesL_ (some 5) rfl rfl Try.func8 (by kernel_rfl) rfl #[] rfl (by (try simp only [List.map_toArray, List.map_cons, List.map_nil]); first | done | rfl | (simp only [List.length_drop, List.length_take]; rfl)) ?_; (with_reducible refine (dragnetlaw14_alive.calls k  true _ A3.out).mono ?_); rintro e w11 ⟨rfl, hb⟩; refine ⟨_, rfl, ?_⟩; have n0_ := Aside0.mk (below_step (by repeat (first | (with_reducible first | exact HB.out | apply pbA_ | apply pbN_ | apply pb1_) | exact HB.out)) hb); clear HB; have HB := n0_; clear n0_; (try clear hb); (try clear hb2); (try clear hk); (try clear hi)) | (go_at_call 23; (with_reducible refine (join_Docs.calls k _ _ l0 t388 _ ?side1 ?side2 A5.out).mono ?_); (case side1 => repeat (first | exact (Kd.C_below HR0.out HB.out) | (with_reducible refine Kd.cA_ ?_ _) | (with_reducible refine Kd.cN_ ?_ _) | (with_reducible refine Kd.cD_ ?_))); (case side2 => exact HC0.out); rintro e w12 ⟨v389, rfl, ho0, hb⟩; have n0_ := Aside0.mk (Kd.R_lower ho0 (pbS_ (by repeat (first | (with_reducible first | exact HB.out | apply pbA_ | apply pbN_ | apply pb1_) | exact HB.out)))); have n1_ := Aside0.mk (below_step (by repeat (first | (with_reducible first | exact HB.out | apply pbA_ | apply pbN_ | apply pb1_) | exact HB.out)) hb); clear HB; have HO390 := n0_; have HB := n1_; clear n0_ n1_; (try clear hb); (try clear hb2); (try clear hk); (try clear hi); (try clear ho0)) | (go_at_call 24; (with_reducible refine (dragnetref13_Docs.calls k _ _ l0 t391 _ ?side1 ?side2 A6.out).mono ?_); (case side1 => repeat (first | exact (Kd.C_below HR0.out HB.out) | (with_reducible refine Kd.cA_ ?_ _) | (with_reducible refine Kd.cN_ ?_ _) | (with_reducible refine Kd.cD_ ?_))); (case side2 => exact HC0.out); rintro e w13 ⟨v392, rfl, ho0, hb⟩; have n0_ := Aside0.mk (Kd.R_elder' (by (with_reducible repeat (first | apply Kd.rA_ | apply Kd.rN_ | apply Kd.rD_)); exact HO390.out) (Kd.R_base ho0) hb); have n1_ := Aside0.mk (Kd.R_lower (Kd.R_new' ho0 (Kd.R_lt (by (with_reducible repeat (first | apply Kd.rA_ | apply Kd.rN_ | apply Kd.rD_)); exact HO390.out))) (pbS_ (by repeat (first | (with_reducible first | exact HB.out | apply pbA_ | apply pbN_ | apply pb1_) | exact HB.out)))); have n2_ := Aside0.mk (below_step (by repeat (first | (with_reducible first | exact HB.out | apply pbA_ | apply pbN_ | apply pb1_) | exact HB.out)) hb); clear HO390; clear HB; have HO390 := n0_; have HO393 := n1_; have HB := n2_; clear n0_ n1_ n2_; (try clear hb); (try clear hb2); (try clear hk); (try clear hi); (try clear ho0); obtain ⟨Ao14, co14, eo14⟩ := Kd.R_slice HO390.out; subst eo14; obtain ⟨Ao15, co15, eo15⟩ := Kd.R_slice HO393.out; subst eo15) | (go_at_call 20; (with_reducible refine (dragnetref09_Ints.calls k _ _ t388 _ _ t391 true _ ?side1 ?side2 ?side3 ?side4 A7.out).mono ?_); (case side1 => repeat (first | exact (Kd.R_reads' HO390.out).2.2 | (with_reducible refine Kd.cA_ ?_ _) | (with_reducible refine Kd.cN_ ?_ _) | (with_reducible refine Kd.cD_ ?_))); (case side2 => exact (Kd.R_reads' HO390.out).2.1); (case side3 => repeat (first | exact (Kd.R_reads' HO393.out).2.2 | (with_reducible refine Kd.cA_ ?_ _) | (with_reducible refine Kd.cN_ ?_ _) | (with_reducible refine Kd.cD_ ?_))); (case side4 => exact (Kd.R_reads' HO393.out).2.1); rintro e w' ⟨rfl, ⟨nd, rfl⟩⟩) | (go_at_call 22; (with_reducible refine (join_Rises.calls k _ _ l1 t395 _ ?side1 ?side2 A9.out).mono ?_); (case side1 => repeat (first | exact (Kd.C_below HR1.out (by repeat (first | (with_reducible first | exact HB.out | apply pbA_ | apply pbN_ | apply pb1_) | exact HB.out))) | (with_reducible refine Kd.cA_ ?_ _) | (with_reducible refine Kd.cN_ ?_ _) | (with_reducible refine Kd.cD_ ?_))); (case side2 => exact HC1.out); rintro e w' ⟨rfl, ⟨nd, rfl⟩⟩) | (go_at_call 21; (with_reducible refine (dragnetref14_Rises.calls k _ _ l1 t396 _ ?side1 ?side2 A10.out).mono ?_); (case side1 => repeat (first | exact (Kd.C_below HR1.out (by repeat (first | (with_reducible first | exact HB.out | apply pbA_ | apply pbN_ | apply pb1_) | exact HB.out))) | (with_reducible refine Kd.cA_ ?_ _) | (with_reducible refine Kd.cN_ ?_ _) | (with_reducible refine Kd.cD_ ?_))); (case side2 => exact HC1.out); rintro e w' ⟨rfl, ⟨nd, rfl⟩⟩))
   go_ret
   exact ⟨by first | rfl | (simp [eWn_, eWs_] <;> rfl) | (simp [*, eWn_, eWs_] <;> rfl), by repeat (first | (with_reducible first | exact HB.out | apply pbA_ | apply pbN_ | apply pb1_) | exact HB.out)⟩
  ·replace c8 := Bool.eq_false_iff.mpr c8
   subst c8
   have H1 : (some false) = some r := by rw [if_neg (show ¬ (false = true) by decide)] at H; exact H
   clear H
   have H := H1
   clear H1
   obtain rfl := Option.some.inj H
   go_enter Try.func7, Try.ntmps7
   go_wp2_with (first | ((with_reducible refine gaC_ (f := 8) rfl ?_); refine goesL_ (some 5) rfl rfl Try.func8 (by kernel_rfl) rfl #[] rfl (by (try simp only [List.map_toArray, List.map_cons, List.map_nil]); first | done | rfl | (simp only [List.length_drop, List.length_take]; rfl)) ?_; (with_reducible refine (dragnetlaw14_alive.calls k  true _ A3.out).mono ?_); rintro e w16 ⟨rfl, hb⟩; refine ⟨_, rfl, ?_⟩; have n0_ := Aside0.mk (below_step (by repeat (first | (with_reducible first | exact HB.out | apply pbA_ | apply pbN_ | apply pb1_) | exact HB.out)) hb); clear HB; have HB := n0_; clear n0_; (try clear hb); (try clear hb2); (try clear hk); (try clear hi)) | (go_at_call 23; (with_reducible refine (join_Docs.calls k _ _ l0 t388 _ ?side1 ?side2 A5.out).mono ?_); (case side1 => repeat (first | exact (Kd.C_below HR0.out HB.out) | (with_reducible refine Kd.cA_ ?_ _) | (with_reducible refine Kd.cN_ ?_ _) | (with_reducible refine Kd.cD_ ?_))); (case side2 => exact HC0.out); rintro e w17 ⟨v389, rfl, ho0, hb⟩; have n0_ := Aside0.mk (Kd.R_lower ho0 (pbS_ (by repeat (first | (with_reducible first | exact HB.out | apply pbA_ | apply pbN_ | apply pb1_) | exact HB.out)))); have n1_ := Aside0.mk (below_step (by repeat (first | (with_reducible first | exact HB.out | apply pbA_ | apply pbN_ | apply pb1_) | exact HB.out)) hb); clear HB; have HO390 := n0_; have HB := n1_; clear n0_ n1_; (try clear hb); (try clear hb2); (try clear hk); (try clear hi); (try clear ho0)) | (go_at_call 24; (with_reducible refine (dragnetref13_Docs.calls k _ _ l0 t391 _ ?side1 ?side2 A6.out).mono ?_); (case side1 => repeat (first | exact (Kd.C_below HR0.out HB.out) | (with_reducible refine Kd.cA_ ?_ _) | (with_reducible refine Kd.cN_ ?_ _) | (with_reducible refine Kd.cD_ ?_))); (case side2 => exact HC0.out); rintro e w18 ⟨v392, rfl, ho0, hb⟩; have n0_ := Aside0.mk (Kd.R_elder' (by (with_reducible repeat (first | apply Kd.rA_ | apply Kd.rN_ | apply Kd.rD_)); exact HO390.out) (Kd.R_base ho0) hb); have n1_ := Aside0.mk (Kd.R_lower (Kd.R_new' ho0 (Kd.R_lt (by (with_reducible repeat (first | apply Kd.rA_ | apply Kd.rN_ | apply Kd.rD_)); exact HO390.out))) (pbS_ (by repeat (first | (with_reducible first | exact HB.out | apply pbA_ | apply pbN_ | apply pb1_) | exact HB.out)))); have n2_ := Aside0.mk (below_step (by repeat (first | (with_reducible first | exact HB.out | apply pbA_ | apply pbN_ | apply pb1_) | exact HB.out)) hb); clear HO390; clear HB; have HO390 := n0_; have HO393 := n1_; have HB := n2_; clear n0_ n1_ n2_; (try clear hb); (try clear hb2); (try clear hk); (try clear hi); (try clear ho0); obtain ⟨Ao19, co19, eo19⟩ := Kd.R_slice HO390.out; subst eo19; obtain ⟨Ao20, co20, eo20⟩ := Kd.R_slice HO393.out; subst eo20) | (go_at_call 20; (with_reducible refine (dragnetref09_Ints.calls k _ _ t388 _ _ t391 false _ ?side1 ?side2 ?side3 ?side4 A7.out).mono ?_); (case side1 => repeat (first | exact (Kd.R_reads' HO390.out).2.2 | (with_reducible refine Kd.cA_ ?_ _) | (with_reducible refine Kd.cN_ ?_ _) | (with_reducible refine Kd.cD_ ?_))); (case side2 => exact (Kd.R_reads' HO390.out).2.1); (case side3 => repeat (first | exact (Kd.R_reads' HO393.out).2.2 | (with_reducible refine Kd.cA_ ?_ _) | (with_reducible refine Kd.cN_ ?_ _) | (with_reducible refine Kd.cD_ ?_))); (case side4 => exact (Kd.R_reads' HO393.out).2.1); rintro e w' ⟨rfl, ⟨nd, rfl⟩⟩))
   go_ret
   exact ⟨by first | rfl | (simp [eWn_, eWs_] <;> rfl) | (simp [*, eWn_, eWs_] <;> rfl), by repeat (first | (with_reducible first | exact HB.out | apply pbA_ | apply pbN_ | apply pb1_) | exact HB.out)⟩
 ·replace c4 := Bool.eq_false_iff.mpr c4
  subst c4
  have H1 : (some false) = some r := by rw [if_neg (show ¬ (false = true) by decide)] at H; exact H
  clear H
  have H := H1
  clear H1
  obtain rfl := Option.some.inj H
  go_enter Try.func7, Try.ntmps7
  go_wp2_with (first | ((with_reducible refine gaC_ (f := 8) rfl ?_); refine goesL_ (some 5) rfl rfl Try.func8 (by kernel_rfl) rfl #[] rfl (by (try simp only [List.map_toArray, List.map_cons, List.map_nil]); first | done | rfl | (simp only [List.length_drop, List.length_take]; rfl)) ?_; (with_reducible refine (dragnetlaw14_alive.calls k  false _ A3.out).mono ?_); rintro e w21 ⟨rfl, hb⟩; refine ⟨_, rfl, ?_⟩; have n0_ := Aside0.mk (below_step (by repeat (first | (with_reducible first | exact HB.out | apply pbA_ | apply pbN_ | apply pb1_) | exact HB.out)) hb); clear HB; have HB := n0_; clear n0_; (try clear hb); (try clear hb2); (try clear hk); (try clear hi)))
  go_ret
  exact ⟨by first | rfl | (simp [eWn_, eWs_] <;> rfl) | (simp [*, eWn_, eWs_] <;> rfl), by repeat (first | (with_reducible first | exact HB.out | apply pbA_ | apply pbN_ | apply pb1_) | exact HB.out)⟩
end Go.Proofs.Ytebkapoabbfmeaa.P
end
