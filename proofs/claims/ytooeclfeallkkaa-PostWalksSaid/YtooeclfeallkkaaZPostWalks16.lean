/- Words and proofs that PostWalks leans on; put together by wip/tools/shake.py. -/
import Derived.Test.YtooeclfeallkkaaZPostWalks7
import Derived.Test.YtooeclfeallkkaaZPostWalks13
import Derived.Test.YtooeclfeallkkaaZPostWalks14
import Derived.Test.YtooeclfeallkkaaZPostWalks15
section
namespace Go.Proofs.Ytooeclfeallkkaa.P
open Go.RowKit Go.Proofs.YtooeclfeallkkaaW.PrintWords Go.Proofs.YtooeclfeallkkaaW.PrintLast Go.Proofs.YtooeclfeallkkaaW.PrintMore
attribute [local go_sem] max2_int min2_int max_two min_two max_three min_three max_four min_four
set_option linter.unusedVariables false
set_option linter.unusedSimpArgs false
def dragnetref13_Same.l0 : Nat → List (S37) → List (S37) → Int → Option (Bool)
 | 0, _, _, _ => none
 | k + 1, x0, x1, x5 => if x5 < (x0.length : Int) then (if 0 ≤ x5 then (if x5 < (x1.length : Int) then ((dragnetref13_SamePost.f k ((rd_T37 x0 x5).f0) ((rd_T37 x0 x5).f1) ((rd_T37 x1 x5).f0) ((rd_T37 x1 x5).f1)).bind fun t361 => (if t361 = true then (dragnetref13_Same.l0 k x0 x1 (wrap64 (x5 + 1))) else (some false))) else (none)) else (none)) else (some true)
def dragnetref13_Same.f (k : Nat) (l0 : List (S37)) (l1 : List (S37)) : Option (Bool) := if (l0.length : Int) = (l1.length : Int) then (dragnetref13_Same.l0 k l0 l1 0) else (some false)
theorem dragnetref13_Same.mono_l : ∀ k, (∀ y0 y1 y2, LeO (dragnetref13_Same.l0 k y0 y1 y2) (dragnetref13_Same.l0 (k + 1) y0 y1 y2))
 | 0 => fun _ _ _ r h => by simp [dragnetref13_Same.l0] at h
 | k + 1 => by
  have ih0 := dragnetref13_Same.mono_l k
  ·intro y0 y1 y2
   unfold dragnetref13_Same.l0
   repeat' first
   | (with_reducible exact ih0 _ _ _)
   | (with_reducible exact dragnetref13_SamePost.mono _ _ _ _ _)
   | (with_reducible exact LeO.refl _)
   | (with_reducible exact LeO.none _)
   | (with_reducible refine LeO.ite ?_ ?_)
   | (with_reducible refine LeO.bind ?_ (fun _ => ?_))
theorem dragnetref13_Same.mono : ∀ a0 a1 k, LeO (dragnetref13_Same.f k a0 a1) (dragnetref13_Same.f (k + 1) a0 a1) := by
 intro a0 a1 k
 have ih0 := dragnetref13_Same.mono_l k
 unfold dragnetref13_Same.f
 repeat' first
   | (with_reducible exact ih0 _ _ _)
   | (with_reducible exact dragnetref13_SamePost.mono _ _ _ _ _)
   | (with_reducible exact LeO.refl _)
   | (with_reducible exact LeO.none _)
   | (with_reducible refine LeO.ite ?_ ?_)
   | (with_reducible refine LeO.bind ?_ (fun _ => ?_))
def dragnetref13_Same.T6 : Bool × List (List Nat × List Nat) := (true, [([], []), ([], []), ([0, 1], [0, 1]), ([2], [2]), ([], []), ([], []), ([4, 5], [4, 5]), ([6], [6]), ([3, 7], [3, 7]), ([8], [8])])
def dragnetref13_Same.B6 : List Nat := [0, 0, 3, 7, 0, 0, 48, 112, 255, 511]
theorem dragnetref13_Same.tab6 : rtab .any (opsOf Try.f15 6) = dragnetref13_Same.T6 := by kernel_rfl
theorem dragnetref13_Same.bits6 : waitsOk dragnetref13_Same.T6.2 dragnetref13_Same.B6 = true := by kernel_rfl
set_option maxHeartbeats 8000000 in
set_option maxRecDepth 100000 in
theorem dragnetref13_Same.calls (k : Nat) (A0 : Option Addr) (c0 : Nat) (l0 : List (S37)) (A1 : Option Addr) (c1 : Nat) (l1 : List (S37)) (r : Bool) (w : World) (hr0 : Kd.C k37 w A0 l0.length l0) (hc0 : l0.length ≤ c0) (hr1 : Kd.C k37 w A1 l1.length l1) (hc1 : l1.length ≤ c1) (h : dragnetref13_Same.f k l0 l1 = some r) :
  Calls Try.prog 15 #[.slice A0 l0.length c0, .slice A1 l1.length c1] w fun e w' => e = .returned (.bool r) ∧ Below w.heap.size w w' := by
 have hu37 := Try.underlying37
 have HR0 := Aside0.mk hr0
 have HC0 := Aside0.mk hc0
 clear hr0 hc0
 have HR1 := Aside0.mk hr1
 have HC1 := Aside0.mk hc1
 clear hr1 hc1
 have HB := Aside0.mk (Below.refl w.heap.size w)
 have H : (if (l0.length : Int) = (l1.length : Int) then (dragnetref13_Same.l0 k l0 l1 0) else (some false)) = some r := h
 clear h
 by_cases c3 : (l0.length : Int) = (l1.length : Int)
 rotate_left
 ·rw [if_neg c3] at H
  have c3b0 : ((l0.length : Int) == (l1.length : Int)) = false := beq_eq_false_iff_ne.mpr c3
  have c3b1 : ((l0.length : Int) != (l1.length : Int)) = true := bne_iff_ne.mpr c3
  have c3b2 : (l0.length == l1.length) = false := by first | simpa using c3 | (simp at c3 ⊢; omega)
  obtain rfl := Option.some.inj H
  go_enter Try.func15, Try.ntmps15
  go_wp2
  go_ret
  exact ⟨rf_, bw_⟩
 rw [if_pos c3] at H
 have c3b0 : ((l0.length : Int) == (l1.length : Int)) = true := beq_iff_eq.mpr c3
 have c3b1 : ((l0.length : Int) != (l1.length : Int)) = false := bne_eq_false_iff_eq.mpr c3
 have c3b2 : (l0.length == l1.length) = true := by first | simpa using c3 | (simp at c3 ⊢; omega)
 clear c3
 have H' := Aside0.mk H
 clear H
 go_enter Try.func15, Try.ntmps15
 go_wp2
 go_loopg [5] k (fun kq v5 w' => ∃ (x5_1 : Int), v5 = .int .i64 x5_1 ∧ Aside0 (dragnetref13_Same.l0 kq l0 l1 x5_1 = some r) ∧ Aside0 (kq ≤ k) ∧ Aside0 (Below w.heap.size w w'))
 case atStart => exact ⟨(0), (by first | rfl | (simp; done) | (simp [*]; done)), H', ⟨Nat.le_refl _⟩, ⟨bw_⟩⟩
 case round =>
  clear H'
  clear c3b0 c3b1 c3b2
  obtain ⟨x5_1, rfl, HA, HK1, HB⟩ := hrel
  cases gk with
  | zero => exact absurd HA.out (by simp [dragnetref13_Same.l0])
  | succ k1 =>
   have H := HA.out
   clear HA
   simp only [dragnetref13_Same.l0] at H
   by_cases c4 : x5_1 < (l0.length : Int)
   rotate_left
   ·rw [if_neg c4] at H
    have c4b0 : decide (x5_1 < (l0.length : Int)) = false := decide_eq_false c4
    clear c4
    obtain rfl := Option.some.inj H
    go_wp2
    go_ret
    exact ⟨rf_, bw_⟩
   rw [if_pos c4] at H
   have c4b0 : decide (x5_1 < (l0.length : Int)) = true := decide_eq_true c4
   clear c4
   by_cases c5 : 0 ≤ x5_1
   rotate_left
   ·rw [if_neg c5] at H
    exact absurd H (by simp)
   rw [if_pos c5] at H
   have c5b0 : decide (0 ≤ x5_1) = true := decide_eq_true c5
   clear c5
   by_cases c6 : x5_1 < (l1.length : Int)
   rotate_left
   ·rw [if_neg c6] at H
    exact absurd H (by simp)
   rw [if_pos c6] at H
   have c6b0 : decide (x5_1 < (l1.length : Int)) = true := decide_eq_true c6
   clear c6
   replace H := Option.bind_eq_some_iff.mp H
   obtain ⟨t361, A70, H⟩ := H
   replace H : (if t361 = true then (dragnetref13_Same.l0 k1 l0 l1 (wrap64 (x5_1 + 1))) else (some false)) = some r := H
   have A7 := Aside0.mk A70
   clear A70
   by_cases c8 : t361 = true
   rotate_left
   ·replace c8 := Bool.eq_false_iff.mpr c8
    subst c8
    have H1 : (some false) = some r := by rw [if_neg (show ¬ (false = true) by decide)] at H; exact H
    clear H
    have H := H1
    clear H1
    obtain rfl := Option.some.inj H
    try go_wp2
    have n0_ := Aside0.mk (pb1_ HB.out)
    clear HB
    have HB := n0_
    clear n0_
    have p359 : 0 ≤ (x5_1 : Int) := od_
    have q359 : x5_1 < (l0.length : Int) := od_
    obtain ⟨ad359, A359_1, c359_1, e359, hx359_0, hx359_1, hl359_1, hi359_1⟩ := at_T37 HR0.out x5_1 p359 q359
    have hw359_1 := hx359_1
    have hw359_0 := hx359_0
    cases e359
    replace hx359_0 := (HB.out.cell (World.block_lt_of_cell? w _ hx359_0)).trans hx359_0
    replace hx359_1 := (HB.out.cell (World.block_lt_of_cell? w _ hx359_1)).trans hx359_1
    have HR359_1 := Aside0.mk hi359_1
    have HC359_1 := Aside0.mk hl359_1
    clear hi359_1 hl359_1
    replace p359 := eq_true p359
    replace q359 := eq_true q359
    have p360 : 0 ≤ (x5_1 : Int) := od_
    have q360 : x5_1 < (l1.length : Int) := od_
    obtain ⟨ad360, A360_1, c360_1, e360, hx360_0, hx360_1, hl360_1, hi360_1⟩ := at_T37 HR1.out x5_1 p360 q360
    have hw360_1 := hx360_1
    have hw360_0 := hx360_0
    cases e360
    replace hx360_0 := (HB.out.cell (World.block_lt_of_cell? w _ hx360_0)).trans hx360_0
    replace hx360_1 := (HB.out.cell (World.block_lt_of_cell? w _ hx360_1)).trans hx360_1
    have HR360_1 := Aside0.mk hi360_1
    have HC360_1 := Aside0.mk hl360_1
    clear hi360_1 hl360_1
    replace p360 := eq_true p360
    replace q360 := eq_true q360
    refine start_ (n := 10) (S := fun w' => w'.cell? (ad359.add ((x5_1).toNat * 2)) = some (.int .i64 ((rd_T37 l0 x5_1).f0)) ∧ w'.cell? ⟨(ad359.add ((x5_1).toNat * 2)).block, (ad359.add ((x5_1).toNat * 2)).off + 1, none⟩ = some (.slice A359_1 ((rd_T37 l0 x5_1).f1).length c359_1) ∧ w'.cell? (ad360.add ((x5_1).toNat * 2)) = some (.int .i64 ((rd_T37 l1 x5_1).f0)) ∧ w'.cell? ⟨(ad360.add ((x5_1).toNat * 2)).block, (ad360.add ((x5_1).toNat * 2)).off + 1, none⟩ = some (.slice A360_1 ((rd_T37 l1 x5_1).f1).length c360_1)) (ds := []) #[false, false, false, false, false, false, false, false, false, false] (by kernel_rfl) rfl rfl ⟨((HB.out.cell (World.block_lt_of_cell? w _ hw359_0)).trans hw359_0), ((HB.out.cell (World.block_lt_of_cell? w _ hw359_1)).trans hw359_1), ((HB.out.cell (World.block_lt_of_cell? w _ hw360_0)).trans hw360_0), ((HB.out.cell (World.block_lt_of_cell? w _ hw360_1)).trans hw360_1)⟩ (fun hHeld => ?_); refine with_tabW dragnetref13_Same.tab6 dragnetref13_Same.bits6 (fun HT_ HW_ => ?_)
    generalize wr.drew = w11 at HB HR359_1 HR360_1 hx359_0 hx359_1 hx360_0 hx360_1 hHeld ⊢
    refine pu_ (i := 0) (N := some 17) HT_ #[true, false, false, false, false, false, false, false, false, false] ?_
    refine pu_ (i := 1) (N := some 18) HT_ #[true, true, false, false, false, false, false, false, false, false] ?_
    refine pu_ (i := 2) (N := some 19) HT_ #[true, true, true, false, false, false, false, false, false, false] ?_
    refine pu_ (i := 4) (N := some 21) HT_ #[true, true, true, false, true, false, false, false, false, false] ?_
    refine pu_ (i := 5) (N := some 22) HT_ #[true, true, true, false, true, true, false, false, false, false] ?_
    refine pu_ (i := 6) (N := some 23) HT_ #[true, true, true, false, true, true, true, false, false, false] ?_
    refine ta_ (i := 3) (N := some 20) HT_ HW_ #[true, true, true, true, true, true, true, false, false, false] hHeld ?_
    refine ta_ (i := 7) (N := some 24) HT_ HW_ #[true, true, true, true, true, true, true, true, false, false] hHeld ?_
    refine one_ (i := 8) (N := some 25) #[tT,tT,tT,tT,tT,tT,tT,tT,tT,fF] rfl rfl (one_of HT_.out (by kernel_rfl)) (by decide) (fun K hK => ?_)
    refine goes_ Try.func21 (by kernel_rfl) rfl #[.agg #[.int .i64 ((rd_T37 l0 x5_1).f0), .slice A359_1 ((rd_T37 l0 x5_1).f1).length c359_1], .agg #[.int .i64 ((rd_T37 l1 x5_1).f0), .slice A360_1 ((rd_T37 l1 x5_1).f1).length c360_1]] (by rfl) rfl rfl (by (try simp only [List.map_toArray, List.map_cons, List.map_nil]); first | done | rfl | (simp only [List.length_drop, List.length_take]; rfl)) ?_
    with_reducible refine (dragnetref13_SamePost.calls k1 ((rd_T37 l0 x5_1).f0) _ _ ((rd_T37 l0 x5_1).f1) ((rd_T37 l1 x5_1).f0) _ _ ((rd_T37 l1 x5_1).f1) false _ ?side1 ?side2 ?side3 ?side4 A7.out).mono ?_
    (case side1 => exact Kd.cu_ (Kd.C_below HR359_1.out HB.out))
    (case side2 => exact HC359_1.out)
    (case side3 => exact Kd.cu_ (Kd.C_below HR360_1.out HB.out))
    (case side4 => exact HC360_1.out)
    rintro e w12 ⟨rfl, hb⟩
    refine ⟨_, rfl, ?_⟩
    have n0_ := Aside0.mk (below_step bw_ hb)
    clear HB
    have HB := n0_
    clear n0_
    clear hb
    refine hK.out _ _ ⟨((HB.out.cell (World.block_lt_of_cell? w _ hw359_0)).trans hw359_0), ((HB.out.cell (World.block_lt_of_cell? w _ hw359_1)).trans hw359_1), ((HB.out.cell (World.block_lt_of_cell? w _ hw360_0)).trans hw360_0), ((HB.out.cell (World.block_lt_of_cell? w _ hw360_1)).trans hw360_1)⟩ (fun hHeld => ?_)
    clear hK K
    refine norm_ (a' := ?_) ?_ ?_
    rotate_left
    ·show Act.put _ (some 25) _ = _
     simp only [Act.put, List.setIfInBounds_toArray, List.set_cons_zero, List.set_cons_succ, i64_w, i32_w]
     rfl
    refine pu_ (i := 9) (N := some 26) HT_ #[true, true, true, true, true, true, true, true, true, true] ?_
    refine done_ (done_of HT_.out (by kernel_rfl)) ?_
    try go_wp2
    go_ret
    exact ⟨rf_, bw_⟩
   subst c8
   have H1 : (dragnetref13_Same.l0 k1 l0 l1 (wrap64 (x5_1 + 1))) = some r := by rw [if_pos rfl] at H; exact H
   clear H
   have H := H1
   clear H1
   have H' := Aside0.mk H
   clear H
   try go_wp2
   have n0_ := Aside0.mk (pb1_ HB.out)
   clear HB
   have HB := n0_
   clear n0_
   have p359 : 0 ≤ (x5_1 : Int) := od_
   have q359 : x5_1 < (l0.length : Int) := od_
   obtain ⟨ad359, A359_1, c359_1, e359, hx359_0, hx359_1, hl359_1, hi359_1⟩ := at_T37 HR0.out x5_1 p359 q359
   have hw359_1 := hx359_1
   have hw359_0 := hx359_0
   cases e359
   replace hx359_0 := (HB.out.cell (World.block_lt_of_cell? w _ hx359_0)).trans hx359_0
   replace hx359_1 := (HB.out.cell (World.block_lt_of_cell? w _ hx359_1)).trans hx359_1
   have HR359_1 := Aside0.mk hi359_1
   have HC359_1 := Aside0.mk hl359_1
   clear hi359_1 hl359_1
   replace p359 := eq_true p359
   replace q359 := eq_true q359
   have p360 : 0 ≤ (x5_1 : Int) := od_
   have q360 : x5_1 < (l1.length : Int) := od_
   obtain ⟨ad360, A360_1, c360_1, e360, hx360_0, hx360_1, hl360_1, hi360_1⟩ := at_T37 HR1.out x5_1 p360 q360
   have hw360_1 := hx360_1
   have hw360_0 := hx360_0
   cases e360
   replace hx360_0 := (HB.out.cell (World.block_lt_of_cell? w _ hx360_0)).trans hx360_0
   replace hx360_1 := (HB.out.cell (World.block_lt_of_cell? w _ hx360_1)).trans hx360_1
   have HR360_1 := Aside0.mk hi360_1
   have HC360_1 := Aside0.mk hl360_1
   clear hi360_1 hl360_1
   replace p360 := eq_true p360
   replace q360 := eq_true q360
   refine start_ (n := 10) (S := fun w' => w'.cell? (ad359.add ((x5_1).toNat * 2)) = some (.int .i64 ((rd_T37 l0 x5_1).f0)) ∧ w'.cell? ⟨(ad359.add ((x5_1).toNat * 2)).block, (ad359.add ((x5_1).toNat * 2)).off + 1, none⟩ = some (.slice A359_1 ((rd_T37 l0 x5_1).f1).length c359_1) ∧ w'.cell? (ad360.add ((x5_1).toNat * 2)) = some (.int .i64 ((rd_T37 l1 x5_1).f0)) ∧ w'.cell? ⟨(ad360.add ((x5_1).toNat * 2)).block, (ad360.add ((x5_1).toNat * 2)).off + 1, none⟩ = some (.slice A360_1 ((rd_T37 l1 x5_1).f1).length c360_1)) (ds := []) #[false, false, false, false, false, false, false, false, false, false] (by kernel_rfl) rfl rfl ⟨((HB.out.cell (World.block_lt_of_cell? w _ hw359_0)).trans hw359_0), ((HB.out.cell (World.block_lt_of_cell? w _ hw359_1)).trans hw359_1), ((HB.out.cell (World.block_lt_of_cell? w _ hw360_0)).trans hw360_0), ((HB.out.cell (World.block_lt_of_cell? w _ hw360_1)).trans hw360_1)⟩ (fun hHeld => ?_); refine with_tabW dragnetref13_Same.tab6 dragnetref13_Same.bits6 (fun HT_ HW_ => ?_)
   generalize wr.drew = w9 at HB HR359_1 HR360_1 hx359_0 hx359_1 hx360_0 hx360_1 hHeld ⊢
   refine pu_ (i := 0) (N := some 17) HT_ #[true, false, false, false, false, false, false, false, false, false] ?_
   refine pu_ (i := 1) (N := some 18) HT_ #[true, true, false, false, false, false, false, false, false, false] ?_
   refine pu_ (i := 2) (N := some 19) HT_ #[true, true, true, false, false, false, false, false, false, false] ?_
   refine pu_ (i := 4) (N := some 21) HT_ #[true, true, true, false, true, false, false, false, false, false] ?_
   refine pu_ (i := 5) (N := some 22) HT_ #[true, true, true, false, true, true, false, false, false, false] ?_
   refine pu_ (i := 6) (N := some 23) HT_ #[true, true, true, false, true, true, true, false, false, false] ?_
   refine ta_ (i := 3) (N := some 20) HT_ HW_ #[true, true, true, true, true, true, true, false, false, false] hHeld ?_
   refine ta_ (i := 7) (N := some 24) HT_ HW_ #[true, true, true, true, true, true, true, true, false, false] hHeld ?_
   refine one_ (i := 8) (N := some 25) #[tT,tT,tT,tT,tT,tT,tT,tT,tT,fF] rfl rfl (one_of HT_.out (by kernel_rfl)) (by decide) (fun K hK => ?_)
   refine goes_ Try.func21 (by kernel_rfl) rfl #[.agg #[.int .i64 ((rd_T37 l0 x5_1).f0), .slice A359_1 ((rd_T37 l0 x5_1).f1).length c359_1], .agg #[.int .i64 ((rd_T37 l1 x5_1).f0), .slice A360_1 ((rd_T37 l1 x5_1).f1).length c360_1]] (by rfl) rfl rfl (by (try simp only [List.map_toArray, List.map_cons, List.map_nil]); first | done | rfl | (simp only [List.length_drop, List.length_take]; rfl)) ?_
   with_reducible refine (dragnetref13_SamePost.calls k1 ((rd_T37 l0 x5_1).f0) _ _ ((rd_T37 l0 x5_1).f1) ((rd_T37 l1 x5_1).f0) _ _ ((rd_T37 l1 x5_1).f1) true _ ?side1 ?side2 ?side3 ?side4 A7.out).mono ?_
   (case side1 => exact Kd.cu_ (Kd.C_below HR359_1.out HB.out))
   (case side2 => exact HC359_1.out)
   (case side3 => exact Kd.cu_ (Kd.C_below HR360_1.out HB.out))
   (case side4 => exact HC360_1.out)
   rintro e w10 ⟨rfl, hb⟩
   refine ⟨_, rfl, ?_⟩
   have n0_ := Aside0.mk (below_step bw_ hb)
   clear HB
   have HB := n0_
   clear n0_
   clear hb
   refine hK.out _ _ ⟨((HB.out.cell (World.block_lt_of_cell? w _ hw359_0)).trans hw359_0), ((HB.out.cell (World.block_lt_of_cell? w _ hw359_1)).trans hw359_1), ((HB.out.cell (World.block_lt_of_cell? w _ hw360_0)).trans hw360_0), ((HB.out.cell (World.block_lt_of_cell? w _ hw360_1)).trans hw360_1)⟩ (fun hHeld => ?_)
   clear hK K
   refine norm_ (a' := ?_) ?_ ?_
   rotate_left
   ·show Act.put _ (some 25) _ = _
    simp only [Act.put, List.setIfInBounds_toArray, List.set_cons_zero, List.set_cons_succ, i64_w, i32_w]
    rfl
   refine pu_ (i := 9) (N := some 26) HT_ #[true, true, true, true, true, true, true, true, true, true] ?_
   refine done_ (done_of HT_.out (by kernel_rfl)) ?_
   try go_wp2
   go_roundg k1
   case measure => have := HK1.out; omega
   case rel => exact ⟨(wrap64 (x5_1 + 1)), (by first | rfl | (simp; done) | (simp [*]; done)), H', ⟨by have := HK1.out; omega⟩, ⟨bw_⟩⟩
def dragnetref13_rises.l0 : Nat → List Int → Int → Int → Option (Bool)
 | 0, _, _, _ => none
 | k + 1, x0, x1, x5 => if x5 < (x0.length : Int) then (if 0 ≤ x5 then (if (rd x0 x5) < 0 then (some false) else (if (rd x0 x5) > x1 then (some false) else (if x5 > 0 then (if 0 ≤ (wrap64 (x5 - 1)) then (if (wrap64 (x5 - 1)) < (x0.length : Int) then (if (rd x0 (wrap64 (x5 - 1))) ≥ (rd x0 x5) then (some false) else (dragnetref13_rises.l0 k x0 x1 (wrap64 (x5 + 1)))) else (none)) else (none)) else (dragnetref13_rises.l0 k x0 x1 (wrap64 (x5 + 1)))))) else (none)) else (some true)
def dragnetref13_rises.f (k : Nat) (l0 : List Int) (a1 : Int) : Option (Bool) := dragnetref13_rises.l0 k l0 a1 0
theorem dragnetref13_rises.mono_l : ∀ k, (∀ y0 y1 y2, LeO (dragnetref13_rises.l0 k y0 y1 y2) (dragnetref13_rises.l0 (k + 1) y0 y1 y2))
 | 0 => fun _ _ _ r h => by simp [dragnetref13_rises.l0] at h
 | k + 1 => by
  have ih0 := dragnetref13_rises.mono_l k
  ·intro y0 y1 y2
   unfold dragnetref13_rises.l0
   repeat' first
   | (with_reducible exact ih0 _ _ _)
   | (with_reducible exact LeO.refl _)
   | (with_reducible exact LeO.none _)
   | (with_reducible refine LeO.ite ?_ ?_)
   | (with_reducible refine LeO.bind ?_ (fun _ => ?_))
theorem dragnetref13_rises.mono : ∀ a0 a1 k, LeO (dragnetref13_rises.f k a0 a1) (dragnetref13_rises.f (k + 1) a0 a1) := by
 intro a0 a1 k
 have ih0 := dragnetref13_rises.mono_l k
 unfold dragnetref13_rises.f
 repeat' first
   | (with_reducible exact ih0 _ _ _)
   | (with_reducible exact LeO.refl _)
   | (with_reducible exact LeO.none _)
   | (with_reducible refine LeO.ite ?_ ?_)
   | (with_reducible refine LeO.bind ?_ (fun _ => ?_))
set_option maxHeartbeats 8000000 in
set_option maxRecDepth 100000 in
theorem dragnetref13_rises.calls (k : Nat) (A0 : Option Addr) (c0 : Nat) (l0 : List Int) (a1 : Int) (r : Bool) (w : World) (hr0 : Kd.C (Kd.int .i64) w A0 l0.length l0) (hc0 : l0.length ≤ c0) (h : dragnetref13_rises.f k l0 a1 = some r) :
  Calls Try.prog 29 #[.slice A0 l0.length c0, .int .i64 a1] w fun e w' => e = .returned (.bool r) ∧ Drawn0 w w' := by
 have HR0 := Aside0.mk hr0
 have HC0 := Aside0.mk hc0
 clear hr0 hc0
 have H : (dragnetref13_rises.l0 k l0 a1 0) = some r := h
 clear h
 have H' := Aside0.mk H
 clear H
 go_enter Try.func29, Try.ntmps29
 go_wp2
 go_loopg [5] k (fun kq v5 w' => ∃ (x5_1 : Int), v5 = .int .i64 x5_1 ∧ Aside0 (dragnetref13_rises.l0 kq l0 a1 x5_1 = some r) ∧ Aside0 (kq ≤ k) ∧ Drawn0 w w')
 case atStart => exact ⟨(0), (by first | rfl | (simp; done) | (simp [*]; done)), H', ⟨Nat.le_refl _⟩, by repeat (first | exact Drawn0.refl _ | apply Drawn0.step)⟩
 case round =>
  clear H'
  obtain ⟨x5_1, rfl, HA, HK1, ⟨m1, rfl⟩⟩ := hrel
  cases gk with
  | zero => exact absurd HA.out (by simp [dragnetref13_rises.l0])
  | succ k1 =>
   have H := HA.out
   clear HA
   simp only [dragnetref13_rises.l0] at H
   by_cases c3 : x5_1 < (l0.length : Int)
   rotate_left
   ·rw [if_neg c3] at H
    have c3b0 : decide (x5_1 < (l0.length : Int)) = false := decide_eq_false c3
    clear c3
    obtain rfl := Option.some.inj H
    go_wp2
    go_ret
    exact ⟨by first | rfl | (simp; done) | (simp [*]; done), by repeat (first | exact Drawn0.refl _ | apply Drawn0.step)⟩
   rw [if_pos c3] at H
   have c3b0 : decide (x5_1 < (l0.length : Int)) = true := decide_eq_true c3
   clear c3
   by_cases c4 : 0 ≤ x5_1
   rotate_left
   ·rw [if_neg c4] at H
    exact absurd H (by simp)
   rw [if_pos c4] at H
   have c4b0 : decide (0 ≤ x5_1) = true := decide_eq_true c4
   clear c4
   by_cases c5 : (rd l0 x5_1) < 0
   ·rw [if_pos c5] at H
    have c5b0 : decide ((rd l0 x5_1) < 0) = true := decide_eq_true c5
    clear c5
    obtain rfl := Option.some.inj H
    have p362 : 0 ≤ (x5_1 : Int) := od_
    have q362 : x5_1 < (l0.length : Int) := od_
    obtain ⟨ad362, e362, hx362_0⟩ := Kd.at_int HR0.out x5_1 p362 q362
    cases e362
    replace p362 := eq_true p362
    replace q362 := eq_true q362
    go_wp2
    repeat (go_quiet (fail); try go_wp2)
    go_ret
    exact ⟨by first | rfl | (simp; done) | (simp [*]; done), by repeat (first | exact Drawn0.refl _ | apply Drawn0.step)⟩
   ·rw [if_neg c5] at H
    have c5b0 : decide ((rd l0 x5_1) < 0) = false := decide_eq_false c5
    clear c5
    by_cases c6 : (rd l0 x5_1) > a1
    ·rw [if_pos c6] at H
     have c6b0 : decide (a1 < (rd l0 x5_1)) = true := decide_eq_true c6
     clear c6
     obtain rfl := Option.some.inj H
     have p362 : 0 ≤ (x5_1 : Int) := od_
     have q362 : x5_1 < (l0.length : Int) := od_
     obtain ⟨ad362, e362, hx362_0⟩ := Kd.at_int HR0.out x5_1 p362 q362
     cases e362
     replace p362 := eq_true p362
     replace q362 := eq_true q362
     have p363 : 0 ≤ (x5_1 : Int) := od_
     have q363 : x5_1 < (l0.length : Int) := od_
     obtain ⟨ad363, e363, hx363_0⟩ := Kd.at_int HR0.out x5_1 p363 q363
     obtain rfl : ad362 = ad363 := (by injection e363)
     replace p363 := eq_true p363
     replace q363 := eq_true q363
     go_wp2
     repeat (go_quiet (fail); try go_wp2)
     go_ret
     exact ⟨by first | rfl | (simp; done) | (simp [*]; done), by repeat (first | exact Drawn0.refl _ | apply Drawn0.step)⟩
    ·rw [if_neg c6] at H
     have c6b0 : decide (a1 < (rd l0 x5_1)) = false := decide_eq_false c6
     clear c6
     by_cases c7 : x5_1 > 0
     rotate_left
     ·rw [if_neg c7] at H
      have c7b0 : decide (0 < x5_1) = false := decide_eq_false c7
      clear c7
      have H' := Aside0.mk H
      clear H
      have p362 : 0 ≤ (x5_1 : Int) := od_
      have q362 : x5_1 < (l0.length : Int) := od_
      obtain ⟨ad362, e362, hx362_0⟩ := Kd.at_int HR0.out x5_1 p362 q362
      cases e362
      replace p362 := eq_true p362
      replace q362 := eq_true q362
      have p363 : 0 ≤ (x5_1 : Int) := od_
      have q363 : x5_1 < (l0.length : Int) := od_
      obtain ⟨ad363, e363, hx363_0⟩ := Kd.at_int HR0.out x5_1 p363 q363
      obtain rfl : ad362 = ad363 := (by injection e363)
      replace p363 := eq_true p363
      replace q363 := eq_true q363
      go_wp2
      repeat (go_quiet (fail); try go_wp2)
      go_roundg k1
      case measure => have := HK1.out; omega
      case rel => exact ⟨(wrap64 (x5_1 + 1)), (by first | rfl | (simp; done) | (simp [*]; done)), H', ⟨by have := HK1.out; omega⟩, by repeat (first | exact Drawn0.refl _ | apply Drawn0.step)⟩
     rw [if_pos c7] at H
     have c7b0 : decide (0 < x5_1) = true := decide_eq_true c7
     clear c7
     obtain ⟨ji8, hji8⟩ : ∃ j_ : Int, (wrap64 (x5_1 - 1)) = j_ := ⟨_, rfl⟩
     replace H : (if 0 ≤ (ji8) then (if (ji8) < (l0.length : Int) then (if (rd l0 (ji8)) ≥ (rd l0 x5_1) then (some false) else (dragnetref13_rises.l0 k1 l0 a1 (wrap64 (x5_1 + 1)))) else (none)) else (none)) = some r := by first | (rw [hji8] at H; exact H) | (simp only [hji8] at H ⊢; exact H)
     have hji8w : (IntKind.i64.wrap (x5_1 - 1)) = ji8 := (i64_w _).trans hji8
     by_cases c9 : 0 ≤ (ji8)
     rotate_left
     ·rw [if_neg c9] at H
      exact absurd H (by simp)
     rw [if_pos c9] at H
     have c9b0 : decide (0 ≤ (ji8)) = true := decide_eq_true c9
     clear c9
     by_cases c10 : (ji8) < (l0.length : Int)
     rotate_left
     ·rw [if_neg c10] at H
      exact absurd H (by simp)
     rw [if_pos c10] at H
     have c10b0 : decide ((ji8) < (l0.length : Int)) = true := decide_eq_true c10
     clear c10
     by_cases c11 : (rd l0 (ji8)) ≥ (rd l0 x5_1)
     ·rw [if_pos c11] at H
      have c11b0 : decide ((rd l0 x5_1) ≤ (rd l0 (ji8))) = true := decide_eq_true c11
      clear c11
      obtain rfl := Option.some.inj H
      have p362 : 0 ≤ (x5_1 : Int) := od_
      have q362 : x5_1 < (l0.length : Int) := od_
      obtain ⟨ad362, e362, hx362_0⟩ := Kd.at_int HR0.out x5_1 p362 q362
      cases e362
      replace p362 := eq_true p362
      replace q362 := eq_true q362
      have p363 : 0 ≤ (x5_1 : Int) := od_
      have q363 : x5_1 < (l0.length : Int) := od_
      obtain ⟨ad363, e363, hx363_0⟩ := Kd.at_int HR0.out x5_1 p363 q363
      obtain rfl : ad362 = ad363 := (by injection e363)
      replace p363 := eq_true p363
      replace q363 := eq_true q363
      have p364 : 0 ≤ ((ji8) : Int) := od_
      have q364 : (ji8) < (l0.length : Int) := od_
      obtain ⟨ad364, e364, hx364_0⟩ := Kd.at_int HR0.out (ji8) p364 q364
      obtain rfl : ad362 = ad364 := (by injection e364)
      replace p364 := eq_true p364
      replace q364 := eq_true q364
      have p365 : 0 ≤ (x5_1 : Int) := od_
      have q365 : x5_1 < (l0.length : Int) := od_
      obtain ⟨ad365, e365, hx365_0⟩ := Kd.at_int HR0.out x5_1 p365 q365
      obtain rfl : ad362 = ad365 := (by injection e365)
      replace p365 := eq_true p365
      replace q365 := eq_true q365
      go_wp2
      repeat (go_quiet (fail); try go_wp2)
      go_ret
      exact ⟨by first | rfl | (simp; done) | (simp only [← hji8] <;> (first | rfl | simp)) | (simp [*]; done), by repeat (first | exact Drawn0.refl _ | apply Drawn0.step)⟩
     ·rw [if_neg c11] at H
      have c11b0 : decide ((rd l0 x5_1) ≤ (rd l0 (ji8))) = false := decide_eq_false c11
      clear c11
      have H' := Aside0.mk H
      clear H
      have p362 : 0 ≤ (x5_1 : Int) := od_
      have q362 : x5_1 < (l0.length : Int) := od_
      obtain ⟨ad362, e362, hx362_0⟩ := Kd.at_int HR0.out x5_1 p362 q362
      cases e362
      replace p362 := eq_true p362
      replace q362 := eq_true q362
      have p363 : 0 ≤ (x5_1 : Int) := od_
      have q363 : x5_1 < (l0.length : Int) := od_
      obtain ⟨ad363, e363, hx363_0⟩ := Kd.at_int HR0.out x5_1 p363 q363
      obtain rfl : ad362 = ad363 := (by injection e363)
      replace p363 := eq_true p363
      replace q363 := eq_true q363
      have p364 : 0 ≤ ((ji8) : Int) := od_
      have q364 : (ji8) < (l0.length : Int) := od_
      obtain ⟨ad364, e364, hx364_0⟩ := Kd.at_int HR0.out (ji8) p364 q364
      obtain rfl : ad362 = ad364 := (by injection e364)
      replace p364 := eq_true p364
      replace q364 := eq_true q364
      have p365 : 0 ≤ (x5_1 : Int) := od_
      have q365 : x5_1 < (l0.length : Int) := od_
      obtain ⟨ad365, e365, hx365_0⟩ := Kd.at_int HR0.out x5_1 p365 q365
      obtain rfl : ad362 = ad365 := (by injection e365)
      replace p365 := eq_true p365
      replace q365 := eq_true q365
      go_wp2
      repeat (go_quiet (fail); try go_wp2)
      subst hji8
      go_roundg k1
      case measure => have := HK1.out; omega
      case rel => exact ⟨(wrap64 (x5_1 + 1)), (by first | rfl | (simp; done) | (simp [*]; done)), H', ⟨by have := HK1.out; omega⟩, by repeat (first | exact Drawn0.refl _ | apply Drawn0.step)⟩
def dragnetref13_Docs.l0 : Nat → List (S37) → List Int → Int → Option (List Int)
 | 0, _, _, _ => none
 | k + 1, x0, x3, x4 => if x4 < (x0.length : Int) then (if 0 ≤ x4 then (if x3.length < 17592186044416 then (dragnetref13_Docs.l0 k x0 (x3 ++ [(rd_T37 x0 x4).f0]) (wrap64 (x4 + 1))) else (none)) else (none)) else (some x3)
def dragnetref13_Docs.f (k : Nat) (l0 : List (S37)) : Option (List Int) := dragnetref13_Docs.l0 k l0 ([] : List Int) 0
theorem dragnetref13_Docs.mono_l : ∀ k, (∀ y0 y1 y2, LeO (dragnetref13_Docs.l0 k y0 y1 y2) (dragnetref13_Docs.l0 (k + 1) y0 y1 y2))
 | 0 => fun _ _ _ r h => by simp [dragnetref13_Docs.l0] at h
 | k + 1 => by
  have ih0 := dragnetref13_Docs.mono_l k
  ·intro y0 y1 y2
   unfold dragnetref13_Docs.l0
   repeat' first
   | (with_reducible exact ih0 _ _ _)
   | (with_reducible exact LeO.refl _)
   | (with_reducible exact LeO.none _)
   | (with_reducible refine LeO.ite ?_ ?_)
   | (with_reducible refine LeO.bind ?_ (fun _ => ?_))
theorem dragnetref13_Docs.mono : ∀ a0 k, LeO (dragnetref13_Docs.f k a0) (dragnetref13_Docs.f (k + 1) a0) := by
 intro a0 k
 have ih0 := dragnetref13_Docs.mono_l k
 unfold dragnetref13_Docs.f
 repeat' first
   | (with_reducible exact ih0 _ _ _)
   | (with_reducible exact LeO.refl _)
   | (with_reducible exact LeO.none _)
   | (with_reducible refine LeO.ite ?_ ?_)
   | (with_reducible refine LeO.bind ?_ (fun _ => ?_))
set_option maxHeartbeats 8000000 in
set_option maxRecDepth 100000 in
theorem dragnetref13_Docs.calls (k : Nat) (A0 : Option Addr) (c0 : Nat) (l0 : List (S37)) (r : List Int) (w : World) (hr0 : Kd.C k37 w A0 l0.length l0) (hc0 : l0.length ≤ c0) (h : dragnetref13_Docs.f k l0 = some r) :
  Calls Try.prog 30 #[.slice A0 l0.length c0] w fun e w' => ∃ v0_ : Value, e = .returned (v0_) ∧ Kd.R (Kd.int .i64) 3 w' w.heap.size (fun _ => True) v0_ r ∧ Below w.heap.size w w' := by
 have HR0 := Aside0.mk hr0
 have HC0 := Aside0.mk hc0
 clear hr0 hc0
 have HB := Aside0.mk (Below.refl w.heap.size w)
 have H : (dragnetref13_Docs.l0 k l0 ([] : List Int) 0) = some r := h
 clear h
 have H' := Aside0.mk H
 clear H
 go_enter Try.func30, Try.ntmps30
 go_wp2
 go_loopg [3, 4] k (fun kq v3 v4 w' => ∃ (x3_1 : List Int) (x4_1 : Int), v4 = .int .i64 x4_1 ∧ Aside0 (dragnetref13_Docs.l0 kq l0 x3_1 x4_1 = some r) ∧ Aside0 (kq ≤ k) ∧ Aside0 (Kd.R (Kd.int .i64) 3 w' w.heap.size (fun _ => True) v3 x3_1) ∧ Aside0 (Below w.heap.size w w'))
 case atStart => exact ⟨(([] : List Int)), (0), (by first | rfl | (simp; done) | (simp [*]; done)), H', ⟨Nat.le_refl _⟩, ⟨ni_⟩, ⟨bw_⟩⟩
 case round =>
  clear H'
  obtain ⟨x3_1, x4_1, rfl, HA, HK1, HO_3, HB⟩ := hrel
  cases gk with
  | zero => exact absurd HA.out (by simp [dragnetref13_Docs.l0])
  | succ k1 =>
   have H := HA.out
   clear HA
   simp only [dragnetref13_Docs.l0] at H
   by_cases c2 : x4_1 < (l0.length : Int)
   rotate_left
   ·rw [if_neg c2] at H
    have c2b0 : decide (x4_1 < (l0.length : Int)) = false := decide_eq_false c2
    clear c2
    obtain rfl := Option.some.inj H
    go_wp2
    go_ret
    exact ⟨_, rf_, by (with_reducible repeat (first | apply Kd.rA_ | apply Kd.rN_ | apply Kd.rD_)); exact HO_3.out, bw_⟩
   rw [if_pos c2] at H
   have c2b0 : decide (x4_1 < (l0.length : Int)) = true := decide_eq_true c2
   clear c2
   by_cases c3 : 0 ≤ x4_1
   rotate_left
   ·rw [if_neg c3] at H
    exact absurd H (by simp)
   rw [if_pos c3] at H
   have c3b0 : decide (0 ≤ x4_1) = true := decide_eq_true c3
   clear c3
   by_cases c4 : x3_1.length < 17592186044416
   rotate_left
   ·rw [if_neg c4] at H
    exact absurd H (by simp)
   rw [if_pos c4] at H
   have LMc4 := Aside0.mk c4
   clear c4
   obtain ⟨y367, hy367⟩ : ∃ y_ : List Int, y_ = (x3_1 ++ [(rd_T37 l0 x4_1).f0]) := ⟨_, rfl⟩
   replace H : (dragnetref13_Docs.l0 k1 l0 y367 (wrap64 (x4_1 + 1))) = some r := by first | (rw [hy367]; with_reducible exact H) | (have H2_ := (Option.bind_some _ _).symm.trans H; rw [hy367]; with_reducible exact H2_) | (have H2_ := (Option.bind_some _ _).symm.trans H; with_reducible exact H2_) | with_reducible exact H | (rw [hy367]; exact H) | exact H
   have Ny367 := Aside0.mk hy367
   clear hy367
   have H' := Aside0.mk H
   clear H
   have p366 : 0 ≤ (x4_1 : Int) := od_
   have q366 : x4_1 < (l0.length : Int) := od_
   obtain ⟨ad366, A366_1, c366_1, e366, hx366_0, hx366_1, hl366_1, hi366_1⟩ := at_T37 HR0.out x4_1 p366 q366
   cases e366
   replace hx366_0 := (HB.out.cell (World.block_lt_of_cell? w _ hx366_0)).trans hx366_0
   replace hx366_1 := (HB.out.cell (World.block_lt_of_cell? w _ hx366_1)).trans hx366_1
   have HR366_1 := Aside0.mk hi366_1
   have HC366_1 := Aside0.mk hl366_1
   clear hi366_1 hl366_1
   replace p366 := eq_true p366
   replace q366 := eq_true q366
   go_wp2_with (first | ((with_reducible refine gate_builtin (b := .append) (xs := #[.tmp 11, .tmp 17]) rfl ?_); at_builtin; refine Kd.R_append (Kd.int .i64) (w0 := w) w.heap.size rfl (.tmp 11) (.tmp 17) 35 3 (.int .i64 0) 8 rfl Try.underlying35 info3 rfl (by decide) (by omega) u3 x3_1 ((rd_T37 l0 x4_1).f0) [.int .i64 ((rd_T37 l0 x4_1).f0)] (fun _ => True) (fun _ => False) rfl rfl ?aP (fun _ hk => hk.elim) ?aF ?aO ?aB ?aS ?aL ?_; (case aP => exact rfl); (case aB => exact bw_); (case aF => exact (fun _ _ => trivial)); (case aO => exact (Kd.ru_ HO_3.out)); (case aS => exact (pbS_ bw_)); (case aL => have := LMc4.out; omega); intro v368 w5 ho hb hg hat; rw [← Ny367.out] at ho; have n0_ := Aside0.mk (hb); have n1_ := Aside0.mk (ho); clear HB; clear HO_3; have HB := n0_; have HO369 := n1_; clear n0_ n1_; clear ho hb hg hat))
   go_roundg k1
   case measure => have := HK1.out; omega
   case rel => exact ⟨(y367), (wrap64 (x4_1 + 1)), (by first | rfl | (simp; done) | (simp [*]; done)), H', ⟨by have := HK1.out; omega⟩, ⟨Kd.ru_ HO369.out⟩, ⟨bw_⟩⟩
def dragnetref13_Formed.l0 : Nat → List (S37) → Int → Option (Bool)
 | 0, _, _ => none
 | k + 1, x0, x3 => if x3 < (x0.length : Int) then (if 0 ≤ x3 then (if (((rd_T37 x0 x3).f1).length : Int) = 0 then (some false) else ((dragnetref13_rises.f k ((rd_T37 x0 x3).f1) 2147483647).bind fun t372 => (if t372 = true then (dragnetref13_Formed.l0 k x0 (wrap64 (x3 + 1))) else (some false)))) else (none)) else ((dragnetref13_Docs.f k x0).bind fun t373 => ((dragnetref13_rises.f k t373 4095).bind fun t376 => (some t376)))
def dragnetref13_Formed.f (k : Nat) (l0 : List (S37)) : Option (Bool) := dragnetref13_Formed.l0 k l0 0
theorem dragnetref13_Formed.mono_l : ∀ k, (∀ y0 y1, LeO (dragnetref13_Formed.l0 k y0 y1) (dragnetref13_Formed.l0 (k + 1) y0 y1))
 | 0 => fun _ _ r h => by simp [dragnetref13_Formed.l0] at h
 | k + 1 => by
  have ih0 := dragnetref13_Formed.mono_l k
  ·intro y0 y1
   unfold dragnetref13_Formed.l0
   repeat' first
   | (with_reducible exact ih0 _ _)
   | (with_reducible exact dragnetref13_Docs.mono _ _)
   | (with_reducible exact dragnetref13_rises.mono _ _ _)
   | (with_reducible exact LeO.refl _)
   | (with_reducible exact LeO.none _)
   | (with_reducible refine LeO.ite ?_ ?_)
   | (with_reducible refine LeO.bind ?_ (fun _ => ?_))
theorem dragnetref13_Formed.mono : ∀ a0 k, LeO (dragnetref13_Formed.f k a0) (dragnetref13_Formed.f (k + 1) a0) := by
 intro a0 k
 have ih0 := dragnetref13_Formed.mono_l k
 unfold dragnetref13_Formed.f
 repeat' first
   | (with_reducible exact ih0 _ _)
   | (with_reducible exact dragnetref13_Docs.mono _ _)
   | (with_reducible exact dragnetref13_rises.mono _ _ _)
   | (with_reducible exact LeO.refl _)
   | (with_reducible exact LeO.none _)
   | (with_reducible refine LeO.ite ?_ ?_)
   | (with_reducible refine LeO.bind ?_ (fun _ => ?_))
set_option maxHeartbeats 8000000 in
set_option maxRecDepth 100000 in
theorem dragnetref13_Formed.calls (k : Nat) (A0 : Option Addr) (c0 : Nat) (l0 : List (S37)) (r : Bool) (w : World) (hr0 : Kd.C k37 w A0 l0.length l0) (hc0 : l0.length ≤ c0) (h : dragnetref13_Formed.f k l0 = some r) :
  Calls Try.prog 17 #[.slice A0 l0.length c0] w fun e w' => e = .returned (.bool r) ∧ Below w.heap.size w w' := by
 have HR0 := Aside0.mk hr0
 have HC0 := Aside0.mk hc0
 clear hr0 hc0
 have HB := Aside0.mk (Below.refl w.heap.size w)
 have H : (dragnetref13_Formed.l0 k l0 0) = some r := h
 clear h
 have H' := Aside0.mk H
 clear H
 go_enter Try.func17, Try.ntmps17
 go_wp2
 go_loopg [3] k (fun kq v3 w' => ∃ (x3_1 : Int), v3 = .int .i64 x3_1 ∧ Aside0 (dragnetref13_Formed.l0 kq l0 x3_1 = some r) ∧ Aside0 (kq ≤ k) ∧ Aside0 (Below w.heap.size w w'))
 case atStart => exact ⟨(0), (by first | rfl | (simp; done) | (simp [*]; done)), H', ⟨Nat.le_refl _⟩, ⟨bw_⟩⟩
 case round =>
  clear H'
  obtain ⟨x3_1, rfl, HA, HK1, HB⟩ := hrel
  cases gk with
  | zero => exact absurd HA.out (by simp [dragnetref13_Formed.l0])
  | succ k1 =>
   have H := HA.out
   clear HA
   simp only [dragnetref13_Formed.l0] at H
   by_cases c2 : x3_1 < (l0.length : Int)
   rotate_left
   ·rw [if_neg c2] at H
    have c2b0 : decide (x3_1 < (l0.length : Int)) = false := decide_eq_false c2
    clear c2
    replace H := Option.bind_eq_some_iff.mp H
    obtain ⟨t373, A70, H⟩ := H
    replace H : ((dragnetref13_rises.f k1 t373 4095).bind fun t376 => (some t376)) = some r := H
    have A7 := Aside0.mk A70
    clear A70
    replace H := Option.bind_eq_some_iff.mp H
    obtain ⟨t376, A80, H⟩ := H
    replace H : (some t376) = some r := H
    have A8 := Aside0.mk A80
    clear A80
    obtain rfl := Option.some.inj H
    go_wp2_with (first | ((with_reducible refine gaC_ (f := 30) rfl ?_); refine goesL_ (some 27) rfl rfl Try.func30 (by kernel_rfl) rfl #[.slice A0 l0.length c0] rfl (by (try simp only [List.map_toArray, List.map_cons, List.map_nil]); first | done | rfl | (simp only [List.length_drop, List.length_take]; rfl)) ?_; (with_reducible refine (dragnetref13_Docs.calls k1 _ _ l0 t373 _ ?side1 ?side2 A7.out).mono ?_); (case side1 => exact Kd.cu_ (Kd.C_below HR0.out HB.out)); (case side2 => exact HC0.out); rintro e w9 ⟨v374, rfl, ho0, hb⟩; refine ⟨_, rfl, ?_⟩; have HO375 := Aside0.mk (Kd.R_lower ho0 (pbS_ bw_)); replace HB := Aside0.mk (below_step bw_ hb); (try clear hb); (try clear hb2); (try clear hk); (try clear hi); (try clear ho0); obtain ⟨Ao10, co10, eo10⟩ := Kd.R_slice HO375.out; subst eo10) | ((with_reducible refine gaC_ (f := 29) rfl ?_); refine goesL_ (some 28) rfl rfl Try.func29 (by kernel_rfl) rfl #[.slice Ao10 t373.length co10, .int .i64 4095] rfl (by (try simp only [List.map_toArray, List.map_cons, List.map_nil]); first | done | rfl | (simp only [List.length_drop, List.length_take]; rfl)) ?_; (with_reducible refine (dragnetref13_rises.calls k1 _ _ t373 4095 t376 _ ?side1 ?side2 A8.out).mono ?_); (case side1 => exact Kd.cu_ (Kd.R_reads' HO375.out).2.2); (case side2 => exact (Kd.R_reads' HO375.out).2.1); rintro e w' ⟨rfl, ⟨nd, rfl⟩⟩; refine ⟨_, rfl, ?_⟩))
    go_ret
    exact ⟨rf_, bw_⟩
   rw [if_pos c2] at H
   have c2b0 : decide (x3_1 < (l0.length : Int)) = true := decide_eq_true c2
   clear c2
   by_cases c3 : 0 ≤ x3_1
   rotate_left
   ·rw [if_neg c3] at H
    exact absurd H (by simp)
   rw [if_pos c3] at H
   have c3b0 : decide (0 ≤ x3_1) = true := decide_eq_true c3
   clear c3
   by_cases c4 : (((rd_T37 l0 x3_1).f1).length : Int) = 0
   ·rw [if_pos c4] at H
    have c4b0 : ((((rd_T37 l0 x3_1).f1).length : Int) == 0) = true := beq_iff_eq.mpr c4
    have c4b1 : ((((rd_T37 l0 x3_1).f1).length : Int) != 0) = false := bne_eq_false_iff_eq.mpr c4
    clear c4
    obtain rfl := Option.some.inj H
    have p370 : 0 ≤ (x3_1 : Int) := od_
    have q370 : x3_1 < (l0.length : Int) := od_
    obtain ⟨ad370, A370_1, c370_1, e370, hx370_0, hx370_1, hl370_1, hi370_1⟩ := at_T37 HR0.out x3_1 p370 q370
    cases e370
    replace hx370_0 := (HB.out.cell (World.block_lt_of_cell? w _ hx370_0)).trans hx370_0
    replace hx370_1 := (HB.out.cell (World.block_lt_of_cell? w _ hx370_1)).trans hx370_1
    have HR370_1 := Aside0.mk hi370_1
    have HC370_1 := Aside0.mk hl370_1
    clear hi370_1 hl370_1
    replace p370 := eq_true p370
    replace q370 := eq_true q370
    go_wp2
    go_ret
    exact ⟨rf_, bw_⟩
   ·rw [if_neg c4] at H
    have c4b0 : ((((rd_T37 l0 x3_1).f1).length : Int) == 0) = false := beq_eq_false_iff_ne.mpr c4
    have c4b1 : ((((rd_T37 l0 x3_1).f1).length : Int) != 0) = true := bne_iff_ne.mpr c4
    have c4b2 : ¬ (((rd_T37 l0 x3_1).f1) = []) := fun h_ => c4 (by rw [h_]; rfl)
    replace H := Option.bind_eq_some_iff.mp H
    obtain ⟨t372, A50, H⟩ := H
    replace H : (if t372 = true then (dragnetref13_Formed.l0 k1 l0 (wrap64 (x3_1 + 1))) else (some false)) = some r := H
    have A5 := Aside0.mk A50
    clear A50
    by_cases c6 : t372 = true
    rotate_left
    ·replace c6 := Bool.eq_false_iff.mpr c6
     subst c6
     have H1 : (some false) = some r := by rw [if_neg (show ¬ (false = true) by decide)] at H; exact H
     clear H
     have H := H1
     clear H1
     obtain rfl := Option.some.inj H
     have p370 : 0 ≤ (x3_1 : Int) := od_
     have q370 : x3_1 < (l0.length : Int) := od_
     obtain ⟨ad370, A370_1, c370_1, e370, hx370_0, hx370_1, hl370_1, hi370_1⟩ := at_T37 HR0.out x3_1 p370 q370
     cases e370
     replace hx370_0 := (HB.out.cell (World.block_lt_of_cell? w _ hx370_0)).trans hx370_0
     replace hx370_1 := (HB.out.cell (World.block_lt_of_cell? w _ hx370_1)).trans hx370_1
     have HR370_1 := Aside0.mk hi370_1
     have HC370_1 := Aside0.mk hl370_1
     clear hi370_1 hl370_1
     replace p370 := eq_true p370
     replace q370 := eq_true q370
     have p371 : 0 ≤ (x3_1 : Int) := od_
     have q371 : x3_1 < (l0.length : Int) := od_
     obtain ⟨ad371, A371_1, c371_1, e371, hx371_0, hx371_1, hl371_1, hi371_1⟩ := at_T37 HR0.out x3_1 p371 q371
     obtain rfl : ad370 = ad371 := (by injection e371)
     replace hx371_0 := (HB.out.cell (World.block_lt_of_cell? w _ hx371_0)).trans hx371_0
     replace hx371_1 := (HB.out.cell (World.block_lt_of_cell? w _ hx371_1)).trans hx371_1
     have HR371_1 := Aside0.mk hi371_1
     have HC371_1 := Aside0.mk hl371_1
     clear hi371_1 hl371_1
     replace p371 := eq_true p371
     replace q371 := eq_true q371
     have ea_ := Option.some.inj (hx370_1.symm.trans hx371_1)
     injection ea_ with ea_ en_ ec_
     subst ea_
     subst ec_
     clear en_
     go_wp2_with (first | (go_at_call 29; (with_reducible refine (dragnetref13_rises.calls k1 _ _ ((rd_T37 l0 x3_1).f1) 2147483647 false _ ?side1 ?side2 A5.out).mono ?_); (case side1 => exact Kd.cu_ (Kd.C_below HR371_1.out HB.out)); (case side2 => exact HC371_1.out); rintro e w' ⟨rfl, ⟨nd, rfl⟩⟩))
     go_ret
     exact ⟨rf_, bw_⟩
    subst c6
    have H1 : (dragnetref13_Formed.l0 k1 l0 (wrap64 (x3_1 + 1))) = some r := by rw [if_pos rfl] at H; exact H
    clear H
    have H := H1
    clear H1
    have H' := Aside0.mk H
    clear H
    have p370 : 0 ≤ (x3_1 : Int) := od_
    have q370 : x3_1 < (l0.length : Int) := od_
    obtain ⟨ad370, A370_1, c370_1, e370, hx370_0, hx370_1, hl370_1, hi370_1⟩ := at_T37 HR0.out x3_1 p370 q370
    cases e370
    replace hx370_0 := (HB.out.cell (World.block_lt_of_cell? w _ hx370_0)).trans hx370_0
    replace hx370_1 := (HB.out.cell (World.block_lt_of_cell? w _ hx370_1)).trans hx370_1
    have HR370_1 := Aside0.mk hi370_1
    have HC370_1 := Aside0.mk hl370_1
    clear hi370_1 hl370_1
    replace p370 := eq_true p370
    replace q370 := eq_true q370
    have p371 : 0 ≤ (x3_1 : Int) := od_
    have q371 : x3_1 < (l0.length : Int) := od_
    obtain ⟨ad371, A371_1, c371_1, e371, hx371_0, hx371_1, hl371_1, hi371_1⟩ := at_T37 HR0.out x3_1 p371 q371
    obtain rfl : ad370 = ad371 := (by injection e371)
    replace hx371_0 := (HB.out.cell (World.block_lt_of_cell? w _ hx371_0)).trans hx371_0
    replace hx371_1 := (HB.out.cell (World.block_lt_of_cell? w _ hx371_1)).trans hx371_1
    have HR371_1 := Aside0.mk hi371_1
    have HC371_1 := Aside0.mk hl371_1
    clear hi371_1 hl371_1
    replace p371 := eq_true p371
    replace q371 := eq_true q371
    have ea_ := Option.some.inj (hx370_1.symm.trans hx371_1)
    injection ea_ with ea_ en_ ec_
    subst ea_
    subst ec_
    clear en_
    go_wp2_with (first | (go_at_call 29; (with_reducible refine (dragnetref13_rises.calls k1 _ _ ((rd_T37 l0 x3_1).f1) 2147483647 true _ ?side1 ?side2 A5.out).mono ?_); (case side1 => exact Kd.cu_ (Kd.C_below HR371_1.out HB.out)); (case side2 => exact HC371_1.out); rintro e w' ⟨rfl, ⟨nd, rfl⟩⟩))
    go_roundg k1
    case measure => have := HK1.out; omega
    case rel => exact ⟨(wrap64 (x3_1 + 1)), (by first | rfl | (simp; done) | (simp [*]; done)), H', ⟨by have := HK1.out; omega⟩, ⟨bw_⟩⟩
mutual
noncomputable def dragnetlaw13_PostWalks.j0 : Nat → List (S37) → Bool → Option (Bool)
 | 0, _, _ => none
 | k + 1, x0, x19 => if x19 = true then (some true) else ((post_Put.f k ([] : List Int) x0).bind fun bt735 => (dragnetlaw13_PostWalks.l0 k x0 bt735.1 bt735.2 ([] : List (S37)) 0 0))
noncomputable def dragnetlaw13_PostWalks.l0 : Nat → List (S37) → List Int → Int → List (S37) → Int → Int → Option (Bool)
 | 0, _, _, _, _, _, _ => none
 | k + 1, x0, x3, x4, x5, x6, x7 => if x7 ≤ (x0.length : Int) then (dragnetlaw13_PostWalks.j2 k x0 x3 x4 x5 x6 x7 (x4 == 0)) else (dragnetlaw13_PostWalks.j2 k x0 x3 x4 x5 x6 x7 false)
noncomputable def dragnetlaw13_PostWalks.j2 : Nat → List (S37) → List Int → Int → List (S37) → Int → Int → Bool → Option (Bool)
 | 0, _, _, _, _, _, _, _ => none
 | k + 1, x0, x3, x4, x5, x6, x7, x32 => if x32 = true then ((post_Seek.f k x3 x6).bind fun bt739 => (if bt739.2.2.2 = 0 then (if x5.length < 4398046511104 then (dragnetlaw13_PostWalks.l0 k x0 x3 bt739.2.2.2 (x5 ++ [(⟨bt739.1, bt739.2.1⟩ : S37)]) (wrap64 (bt739.1 + 1)) (wrap64 (x7 + 1))) else (none)) else (dragnetlaw13_PostWalks.l0 k x0 x3 bt739.2.2.2 x5 x6 (wrap64 (x7 + 1))))) else (if x4 = 8 then ((dragnetref13_Same.f k x5 x0).bind fun t749 => (some t749)) else (some false))
end
noncomputable def dragnetlaw13_PostWalks.f (k : Nat) (l0 : List (S37)) : Option (Bool) := (dragnetlaw13_alive.f k).bind fun t732 => (if t732 = true then ((dragnetlaw13_great.f k l0).bind fun t733 => (if t733 = true then (dragnetlaw13_PostWalks.j0 k l0 true) else ((dragnetref13_Formed.f k l0).bind fun t734 => (dragnetlaw13_PostWalks.j0 k l0 (!t734))))) else (some false))
theorem dragnetlaw13_PostWalks.mono_l : ∀ k, (∀ y0 y1, LeO (dragnetlaw13_PostWalks.j0 k y0 y1) (dragnetlaw13_PostWalks.j0 (k + 1) y0 y1)) ∧ (∀ y0 y1 y2 y3 y4 y5, LeO (dragnetlaw13_PostWalks.l0 k y0 y1 y2 y3 y4 y5) (dragnetlaw13_PostWalks.l0 (k + 1) y0 y1 y2 y3 y4 y5)) ∧ (∀ y0 y1 y2 y3 y4 y5 y6, LeO (dragnetlaw13_PostWalks.j2 k y0 y1 y2 y3 y4 y5 y6) (dragnetlaw13_PostWalks.j2 (k + 1) y0 y1 y2 y3 y4 y5 y6))
 | 0 => ⟨fun _ _ r h => by simp [dragnetlaw13_PostWalks.j0] at h, fun _ _ _ _ _ _ r h => by simp [dragnetlaw13_PostWalks.l0] at h, fun _ _ _ _ _ _ _ r h => by simp [dragnetlaw13_PostWalks.j2] at h⟩
 | k + 1 => by
  obtain ⟨ih0, ih1, ih2⟩ := dragnetlaw13_PostWalks.mono_l k
  refine ⟨?_, ?_, ?_⟩
  ·intro y0 y1
   unfold dragnetlaw13_PostWalks.j0
   repeat' first
   | (with_reducible exact ih0 _ _)
   | (with_reducible exact ih1 _ _ _ _ _ _)
   | (with_reducible exact ih2 _ _ _ _ _ _ _)
   | (with_reducible exact dragnetlaw13_alive.mono _)
   | (with_reducible exact dragnetlaw13_great.mono _ _)
   | (with_reducible exact dragnetref13_Formed.mono _ _)
   | (with_reducible exact dragnetref13_Same.mono _ _ _)
   | (with_reducible exact post_Put.mono _ _ _)
   | (with_reducible exact post_Seek.mono _ _ _)
   | (with_reducible exact LeO.refl _)
   | (with_reducible exact LeO.none _)
   | (with_reducible refine LeO.ite ?_ ?_)
   | (with_reducible refine LeO.bind ?_ (fun _ => ?_))
  ·intro y0 y1 y2 y3 y4 y5
   unfold dragnetlaw13_PostWalks.l0
   repeat' first
   | (with_reducible exact ih0 _ _)
   | (with_reducible exact ih1 _ _ _ _ _ _)
   | (with_reducible exact ih2 _ _ _ _ _ _ _)
   | (with_reducible exact dragnetlaw13_alive.mono _)
   | (with_reducible exact dragnetlaw13_great.mono _ _)
   | (with_reducible exact dragnetref13_Formed.mono _ _)
   | (with_reducible exact dragnetref13_Same.mono _ _ _)
   | (with_reducible exact post_Put.mono _ _ _)
   | (with_reducible exact post_Seek.mono _ _ _)
   | (with_reducible exact LeO.refl _)
   | (with_reducible exact LeO.none _)
   | (with_reducible refine LeO.ite ?_ ?_)
   | (with_reducible refine LeO.bind ?_ (fun _ => ?_))
  ·intro y0 y1 y2 y3 y4 y5 y6
   unfold dragnetlaw13_PostWalks.j2
   repeat' first
   | (with_reducible exact ih0 _ _)
   | (with_reducible exact ih1 _ _ _ _ _ _)
   | (with_reducible exact ih2 _ _ _ _ _ _ _)
   | (with_reducible exact dragnetlaw13_alive.mono _)
   | (with_reducible exact dragnetlaw13_great.mono _ _)
   | (with_reducible exact dragnetref13_Formed.mono _ _)
   | (with_reducible exact dragnetref13_Same.mono _ _ _)
   | (with_reducible exact post_Put.mono _ _ _)
   | (with_reducible exact post_Seek.mono _ _ _)
   | (with_reducible exact LeO.refl _)
   | (with_reducible exact LeO.none _)
   | (with_reducible refine LeO.ite ?_ ?_)
   | (with_reducible refine LeO.bind ?_ (fun _ => ?_))
theorem dragnetlaw13_PostWalks.mono : ∀ a0 k, LeO (dragnetlaw13_PostWalks.f k a0) (dragnetlaw13_PostWalks.f (k + 1) a0) := by
 intro a0 k
 obtain ⟨ih0, ih1, ih2⟩ := dragnetlaw13_PostWalks.mono_l k
 unfold dragnetlaw13_PostWalks.f
 repeat' first
   | (with_reducible exact ih0 _ _)
   | (with_reducible exact ih1 _ _ _ _ _ _)
   | (with_reducible exact ih2 _ _ _ _ _ _ _)
   | (with_reducible exact dragnetlaw13_alive.mono _)
   | (with_reducible exact dragnetlaw13_great.mono _ _)
   | (with_reducible exact dragnetref13_Formed.mono _ _)
   | (with_reducible exact dragnetref13_Same.mono _ _ _)
   | (with_reducible exact post_Put.mono _ _ _)
   | (with_reducible exact post_Seek.mono _ _ _)
   | (with_reducible exact LeO.refl _)
   | (with_reducible exact LeO.none _)
   | (with_reducible refine LeO.ite ?_ ?_)
   | (with_reducible refine LeO.bind ?_ (fun _ => ?_))
set_option maxHeartbeats 8000000 in
set_option maxRecDepth 100000 in
theorem dragnetlaw13_PostWalks.calls (k : Nat) (A0 : Option Addr) (c0 : Nat) (l0 : List (S37)) (r : Bool) (w : World) (hr0 : Kd.C k37 w A0 l0.length l0) (hc0 : l0.length ≤ c0) (h : dragnetlaw13_PostWalks.f k l0 = some r) (hr_ : Aside0 (r = true)) :
  Calls Try.prog 6 #[.slice A0 l0.length c0] w fun e w' => e = .returned (.bool r) ∧ Below w.heap.size w w' := by
 have hu37 := Try.underlying37
 have HR0 := Aside0.mk hr0
 have HC0 := Aside0.mk hc0
 clear hr0 hc0
 have HB := Aside0.mk (Below.refl w.heap.size w)
 have H : ((dragnetlaw13_alive.f k).bind fun t732 => (if t732 = true then ((dragnetlaw13_great.f k l0).bind fun t733 => (if t733 = true then (dragnetlaw13_PostWalks.j0 k l0 true) else ((dragnetref13_Formed.f k l0).bind fun t734 => (dragnetlaw13_PostWalks.j0 k l0 (!t734))))) else (some false))) = some r := h
 clear h
 replace H := Option.bind_eq_some_iff.mp H
 obtain ⟨t732, A20, H⟩ := H
 replace H : (if t732 = true then ((dragnetlaw13_great.f k l0).bind fun t733 => (if t733 = true then (dragnetlaw13_PostWalks.j0 k l0 true) else ((dragnetref13_Formed.f k l0).bind fun t734 => (dragnetlaw13_PostWalks.j0 k l0 (!t734))))) else (some false)) = some r := H
 have A2 := Aside0.mk A20
 clear A20
 by_cases c3 : t732 = true
 rotate_left
 ·replace c3 := Bool.eq_false_iff.mpr c3
  subst c3
  have H1 : (some false) = some r := by rw [if_neg (show ¬ (false = true) by decide)] at H; exact H
  clear H
  have H := H1
  clear H1
  obtain rfl := Option.some.inj H
  cases hr_.out
 subst c3
 have H1 : ((dragnetlaw13_great.f k l0).bind fun t733 => (if t733 = true then (dragnetlaw13_PostWalks.j0 k l0 true) else ((dragnetref13_Formed.f k l0).bind fun t734 => (dragnetlaw13_PostWalks.j0 k l0 (!t734))))) = some r := by rw [if_pos rfl] at H; exact H
 clear H
 have H := H1
 clear H1
 have HC4 := Aside0.mk H
 clear H
 go_enter Try.func6, Try.ntmps6
 go_upto_region 3 with (first | ((with_reducible refine gaC_ (f := 9) rfl ?_); refine goesL_ (some 11) rfl rfl Try.func9 (by kernel_rfl) rfl #[] rfl (by (try simp only [List.map_toArray, List.map_cons, List.map_nil]); first | done | rfl | (simp only [List.length_drop, List.length_take]; rfl)) ?_; (with_reducible refine (dragnetlaw13_alive.calls k  true _ A2.out ⟨rfl⟩).mono ?_); rintro e w5 ⟨rfl, hb⟩; refine ⟨_, rfl, ?_⟩; replace HB := Aside0.mk (below_step bw_ hb); (try clear hb); (try clear hb2); (try clear hk); (try clear hi)))
 go_cut [19] (fun v19 wc => ∃ (kq : Nat) (x19_3 : Bool), v19 = .bool x19_3 ∧ Aside0 (dragnetlaw13_PostWalks.j0 kq l0 x19_3 = some r) ∧ Aside0 (kq ≤ k) ∧ Aside0 (Below w.heap.size w wc))
 case first =>
  have H := HC4.out
  clear HC4
  replace H := Option.bind_eq_some_iff.mp H
  obtain ⟨t733, A60, H⟩ := H
  replace H : (if t733 = true then (dragnetlaw13_PostWalks.j0 k l0 true) else ((dragnetref13_Formed.f k l0).bind fun t734 => (dragnetlaw13_PostWalks.j0 k l0 (!t734)))) = some r := H
  have A6 := Aside0.mk A60
  clear A60
  by_cases c7 : t733 = true
  ·subst c7
   have H1 : (dragnetlaw13_PostWalks.j0 k l0 true) = some r := by rw [if_pos rfl] at H; exact H
   clear H
   have H := H1
   clear H1
   have H' := Aside0.mk H
   clear H
   go_wp2_with (first | ((with_reducible refine gaC_ (f := 10) rfl ?_); refine goesL_ (some 14) rfl rfl Try.func10 (by kernel_rfl) rfl #[.slice A0 l0.length c0] rfl (by (try simp only [List.map_toArray, List.map_cons, List.map_nil]); first | done | rfl | (simp only [List.length_drop, List.length_take]; rfl)) ?_; (with_reducible refine (dragnetlaw13_great.calls k _ _ l0 true _ ?side1 ?side2 A6.out).mono ?_); (case side1 => exact Kd.cu_ (Kd.C_below HR0.out HB.out)); (case side2 => exact HC0.out); rintro e w' ⟨rfl, ⟨nd, rfl⟩⟩; refine ⟨_, rfl, ?_⟩))
   go_meet
   case rel => exact ⟨_, (true), (by first | rfl | (simp; done) | (simp [*]; done)), H', ⟨by first | omega | exact Nat.le_refl _⟩, ⟨bw_⟩⟩
  ·replace c7 := Bool.eq_false_iff.mpr c7
   subst c7
   have H1 : ((dragnetref13_Formed.f k l0).bind fun t734 => (dragnetlaw13_PostWalks.j0 k l0 (!t734))) = some r := by rw [if_neg (show ¬ (false = true) by decide)] at H; exact H
   clear H
   have H := H1
   clear H1
   replace H := Option.bind_eq_some_iff.mp H
   obtain ⟨t734, A80, H⟩ := H
   replace H : (dragnetlaw13_PostWalks.j0 k l0 (!t734)) = some r := H
   have A8 := Aside0.mk A80
   clear A80
   have H' := Aside0.mk H
   clear H
   go_wp2_with (first | ((with_reducible refine gaC_ (f := 10) rfl ?_); refine goesL_ (some 14) rfl rfl Try.func10 (by kernel_rfl) rfl #[.slice A0 l0.length c0] rfl (by (try simp only [List.map_toArray, List.map_cons, List.map_nil]); first | done | rfl | (simp only [List.length_drop, List.length_take]; rfl)) ?_; (with_reducible refine (dragnetlaw13_great.calls k _ _ l0 false _ ?side1 ?side2 A6.out).mono ?_); (case side1 => exact Kd.cu_ (Kd.C_below HR0.out HB.out)); (case side2 => exact HC0.out); rintro e w' ⟨rfl, ⟨nd, rfl⟩⟩; refine ⟨_, rfl, ?_⟩) | (go_at_call 17; (with_reducible refine (dragnetref13_Formed.calls k _ _ l0 t734 _ ?side1 ?side2 A8.out).mono ?_); (case side1 => exact Kd.cu_ (Kd.C_below HR0.out bw_)); (case side2 => exact HC0.out); rintro e w9 ⟨rfl, hb⟩; replace HB := Aside0.mk (below_step bw_ hb); (try clear hb); (try clear hb2); (try clear hk); (try clear hi)))
   go_meet
   case rel => exact ⟨_, (!t734), (by first | rfl | (simp; done) | (simp [*]; done)), H', ⟨by first | omega | exact Nat.le_refl _⟩, ⟨bw_⟩⟩
 case rest =>
  clear HC4
  obtain ⟨kq, x19_3, rfl, HA, HJ3, HB⟩ := hcut
  cases kq with
  | zero => exact absurd HA.out (by simp [dragnetlaw13_PostWalks.j0])
  | succ kj3 =>
   have H := HA.out
   clear HA
   simp only [dragnetlaw13_PostWalks.j0] at H
   by_cases c10 : x19_3 = true
   ·subst c10
    have H1 : (some true) = some r := by rw [if_pos rfl] at H; exact H
    clear H
    have H := H1
    clear H1
    obtain rfl := Option.some.inj H
    go_wp2
    go_ret
    exact ⟨rf_, bw_⟩
   ·replace c10 := Bool.eq_false_iff.mpr c10
    subst c10
    have H1 : ((post_Put.f kj3 ([] : List Int) l0).bind fun bt735 => (dragnetlaw13_PostWalks.l0 kj3 l0 bt735.1 bt735.2 ([] : List (S37)) 0 0)) = some r := by rw [if_neg (show ¬ (false = true) by decide)] at H; exact H
    clear H
    have H := H1
    clear H1
    replace H := Option.bind_eq_some_iff.mp H
    obtain ⟨⟨t735, t736⟩, A110, H⟩ := H
    replace H : (dragnetlaw13_PostWalks.l0 kj3 l0 t735 t736 ([] : List (S37)) 0 0) = some r := H
    have A11 := Aside0.mk A110
    clear A110
    have H' := Aside0.mk H
    clear H
    go_wp2_with (first | ((with_reducible refine gaC_ (f := 13) rfl ?_); refine goesL_ (some 22) rfl rfl Try.func13 (by kernel_rfl) rfl #[.slice none 0 0, .slice A0 l0.length c0] rfl (by (try simp only [List.map_toArray, List.map_cons, List.map_nil]); first | done | rfl | (simp only [List.length_drop, List.length_take]; rfl)) ?_; (refine (post_Put.calls kj3 _ _ ([] : List Int) _ _ l0 t735 t736 _ ?side1 ?side2 ?side3 ?side4 A11.out).mono ?_); (case side1 => exact Kd.C_nil _ _); (case side2 => exact Nat.le_refl _); (case side3 => exact Kd.cu_ (Kd.C_below HR0.out HB.out)); (case side4 => exact HC0.out); rintro e w12 ⟨v737, rfl, ho0, hb⟩; refine ⟨_, rfl, ?_⟩; have HO738 := Aside0.mk (Kd.R_lower ho0 (pbS_ bw_)); replace HB := Aside0.mk (below_step bw_ hb); (try clear hb); (try clear hb2); (try clear hk); (try clear hi); (try clear ho0)))
    go_loopg [4, 5, 6, 7] kj3 (fun kq v4 v5 v6 v7 w' => ∃ (x4_2 : Int) (x5_2 : List (S37)) (x6_2 : Int) (x7_2 : Int), v4 = .int .i64 x4_2 ∧ v6 = .int .i64 x6_2 ∧ v7 = .int .i64 x7_2 ∧ Aside0 (dragnetlaw13_PostWalks.l0 kq l0 t735 x4_2 x5_2 x6_2 x7_2 = some r) ∧ Aside0 (kq ≤ kj3) ∧ Aside0 (Kd.R (Kd.int .u8) 5 w' w.heap.size (fun _ => True) v737 t735) ∧ Aside0 (Kd.S k37 37 w' w.heap.size (fun _ => True) v5 x5_2) ∧ Aside0 (Below w.heap.size w w'))
    case atStart => exact ⟨(t736), (([] : List (S37))), (0), (0), (by first | rfl | (simp; done) | (simp [*]; done)), (by first | rfl | (simp; done) | (simp [*]; done)), (by first | rfl | (simp; done) | (simp [*]; done)), H', ⟨Nat.le_refl _⟩, ⟨Kd.ru_ HO738.out⟩, ⟨by first | exact Kd.S_nil _ _ _ _ _ | exact Kd.N_nil _ _ _ _ _ | exact Kd.V_nil _ _ _ _ _ | exact Kd.Q_nil _ _ _ _ _ | exact Kd.R_nil _ _ _ _ _⟩, ⟨bw_⟩⟩
    case round =>
     clear H'
     obtain ⟨x4_2, x5_2, x6_2, x7_2, rfl, rfl, rfl, HA, HK2, HO_3, HO_5, HB⟩ := hrel
     cases gk with
     | zero => exact absurd HA.out (by simp [dragnetlaw13_PostWalks.l0])
     | succ k2 =>
      have H := HA.out
      clear HA
      simp only [dragnetlaw13_PostWalks.l0] at H
      have HC13 := Aside0.mk H
      clear H
      go_upto_region 9 with (fail)
      go_cut [32] (fun v32 wc => ∃ (kq : Nat) (x32_12 : Bool), v32 = .bool x32_12 ∧ Aside0 (dragnetlaw13_PostWalks.j2 kq l0 t735 x4_2 x5_2 x6_2 x7_2 x32_12 = some r) ∧ Aside0 (kq ≤ k2) ∧ Aside0 (Kd.R (Kd.int .u8) 5 wc w.heap.size (fun _ => True) v737 t735) ∧ Aside0 (Kd.S k37 37 wc w.heap.size (fun _ => True) u5 x5_2) ∧ Aside0 (Below w.heap.size w wc))
      case first =>
       have H := HC13.out
       clear HC13
       by_cases c14 : x7_2 ≤ (l0.length : Int)
       rotate_left
       ·rw [if_neg c14] at H
        have c14b0 : decide (x7_2 ≤ (l0.length : Int)) = false := decide_eq_false c14
        clear c14
        (first | rw [c14b0] | (simp only [i64_w, i32_w]; rw [c14b0]) | skip)
        have H' := Aside0.mk H
        clear H
        go_wp2
        go_meet
        case rel => exact ⟨_, (false), (by first | rfl | (simp; done) | (simp [*]; done)), H', ⟨by have := HJ3.out; have := HK2.out; first | omega | exact Nat.le_refl _⟩, ⟨Kd.ru_ HO_3.out⟩, ⟨by (with_reducible repeat (first | apply Kd.S_alloc | apply Kd.S_drewN | apply Kd.S_drew)); exact HO_5.out⟩, ⟨bw_⟩⟩
       rw [if_pos c14] at H
       have c14b0 : decide (x7_2 ≤ (l0.length : Int)) = true := decide_eq_true c14
       clear c14
       (first | rw [c14b0] | (simp only [i64_w, i32_w]; rw [c14b0]) | skip)
       have H' := Aside0.mk H
       clear H
       go_wp2
       go_meet
       case rel => exact ⟨_, ((x4_2 == 0)), (by first | rfl | (simp; done) | (simp [*]; done)), H', ⟨by have := HJ3.out; have := HK2.out; first | omega | exact Nat.le_refl _⟩, ⟨Kd.ru_ HO_3.out⟩, ⟨by (with_reducible repeat (first | apply Kd.S_alloc | apply Kd.S_drewN | apply Kd.S_drew)); exact HO_5.out⟩, ⟨bw_⟩⟩
      case rest =>
       clear HC13
       obtain ⟨kq, x32_12, rfl, HA, HJ12, HO_3, HO_5, HB⟩ := hcut
       cases kq with
       | zero => exact absurd HA.out (by simp [dragnetlaw13_PostWalks.j2])
       | succ kj12 =>
        have H := HA.out
        clear HA
        simp only [dragnetlaw13_PostWalks.j2] at H
        by_cases c15 : x32_12 = true
        rotate_left
        ·replace c15 := Bool.eq_false_iff.mpr c15
         subst c15
         have H1 : (if x4_2 = 8 then ((dragnetref13_Same.f kj12 x5_2 l0).bind fun t749 => (some t749)) else (some false)) = some r := by rw [if_neg (show ¬ (false = true) by decide)] at H; exact H
         clear H
         have H := H1
         clear H1
         by_cases c33 : x4_2 = 8
         rotate_left
         ·rw [if_neg c33] at H
          have c33b0 : (x4_2 == 8) = false := beq_eq_false_iff_ne.mpr c33
          have c33b1 : (x4_2 != 8) = true := bne_iff_ne.mpr c33
          obtain rfl := Option.some.inj H
          cases hr_.out
         rw [if_pos c33] at H
         have c33b0 : (x4_2 == 8) = true := beq_iff_eq.mpr c33
         have c33b1 : (x4_2 != 8) = false := bne_eq_false_iff_eq.mpr c33
         clear c33
         replace H := Option.bind_eq_some_iff.mp H
         obtain ⟨t749, A340, H⟩ := H
         replace H : (some t749) = some r := H
         have A34 := Aside0.mk A340
         clear A340
         obtain rfl := Option.some.inj H
         obtain ⟨Ao35, co35, eo35⟩ := Kd.S_slice HO_5.out
         subst eo35
         go_wp2_with (first | (go_at_call 15; (with_reducible refine (dragnetref13_Same.calls kj12 _ _ x5_2 _ _ l0 t749 _ ?side1 ?side2 ?side3 ?side4 A34.out).mono ?_); (case side1 => exact Kd.cu_ (Kd.S_reads' HO_5.out).2.2); (case side2 => exact (Kd.S_reads' HO_5.out).2.1); (case side3 => exact Kd.cu_ (Kd.C_below HR0.out HB.out)); (case side4 => exact HC0.out); rintro e w36 ⟨rfl, hb⟩; replace HO_3 := Aside0.mk (Kd.R_below (Kd.ru_ HO_3.out) hb); replace HO_5 := Aside0.mk (Kd.S_below (by (with_reducible repeat (first | apply Kd.S_alloc | apply Kd.S_drewN | apply Kd.S_drew)); exact HO_5.out) hb); replace HB := Aside0.mk (below_step bw_ hb); (try clear hb); (try clear hb2); (try clear hk); (try clear hi)))
         go_ret
         exact ⟨rf_, bw_⟩
        subst c15
        have H1 : ((post_Seek.f kj12 t735 x6_2).bind fun bt739 => (if bt739.2.2.2 = 0 then (if x5_2.length < 4398046511104 then (dragnetlaw13_PostWalks.l0 kj12 l0 t735 bt739.2.2.2 (x5_2 ++ [(⟨bt739.1, bt739.2.1⟩ : S37)]) (wrap64 (bt739.1 + 1)) (wrap64 (x7_2 + 1))) else (none)) else (dragnetlaw13_PostWalks.l0 kj12 l0 t735 bt739.2.2.2 x5_2 x6_2 (wrap64 (x7_2 + 1))))) = some r := by rw [if_pos rfl] at H; exact H
        clear H
        have H := H1
        clear H1
        replace H := Option.bind_eq_some_iff.mp H
        obtain ⟨⟨t739, t740, t743, t744⟩, A160, H⟩ := H
        replace H : (if t744 = 0 then (if x5_2.length < 4398046511104 then (dragnetlaw13_PostWalks.l0 kj12 l0 t735 t744 (x5_2 ++ [(⟨t739, t740⟩ : S37)]) (wrap64 (t739 + 1)) (wrap64 (x7_2 + 1))) else (none)) else (dragnetlaw13_PostWalks.l0 kj12 l0 t735 t744 x5_2 x6_2 (wrap64 (x7_2 + 1)))) = some r := H
        have A16 := Aside0.mk A160
        clear A160
        by_cases c17 : t744 = 0
        rotate_left
        ·rw [if_neg c17] at H
         have c17b0 : (t744 == 0) = false := beq_eq_false_iff_ne.mpr c17
         have c17b1 : (t744 != 0) = true := bne_iff_ne.mpr c17
         have H' := Aside0.mk H
         clear H
         obtain ⟨Ao28, co28, eo28⟩ := Kd.R_slice HO_3.out
         subst eo28
         go_wp2_with (first | ((with_reducible refine gaC_ (f := 19) rfl ?_); refine goesL_ (some 38) rfl rfl Try.func19 (by kernel_rfl) rfl #[.slice Ao28 t735.length co28, .int .i64 x6_2] rfl (by (try simp only [List.map_toArray, List.map_cons, List.map_nil]); first | done | rfl | (simp only [List.length_drop, List.length_take]; rfl)) ?_; (with_reducible refine (post_Seek.calls kj12 _ _ t735 x6_2 t739 t740 t743 t744 _ ?side1 ?side2 A16.out).mono ?_); (case side1 => exact Kd.cu_ (Kd.R_reads' HO_3.out).2.2); (case side2 => exact (Kd.R_reads' HO_3.out).2.1); rintro e w29 ⟨v741, rfl, ho0, hb⟩; refine ⟨_, rfl, ?_⟩; replace HO_3 := Aside0.mk (Kd.R_below (Kd.ru_ HO_3.out) hb); replace HO_5 := Aside0.mk (Kd.S_elder' (by (with_reducible repeat (first | apply Kd.S_alloc | apply Kd.S_drewN | apply Kd.S_drew)); exact HO_5.out) (Kd.R_base ho0) hb); have HO742 := Aside0.mk (Kd.R_lower ho0 (pbS_ bw_)); replace HB := Aside0.mk (below_step bw_ hb); (try clear hb); (try clear hb2); (try clear hk); (try clear hi); (try clear ho0)) | ((with_reducible refine gate_dst (N := 8) rfl ?_); refine box_event ?hg (N := 8) ?hd (cs := #[.int .i64 0, .slice none 0 0]) (t := 37) ?hr ?_; (case hd => rfl); (case hg => rfl); (case hr => first | (go_simp; done) | (go_simp; rfl)); intro gb745 hg w30 hbox hb; have n0_ := Aside0.mk (Kd.R_below (Kd.ru_ HO_3.out) hb); have n1_ := Aside0.mk (Kd.S_below (Kd.S_elderB (by (with_reducible repeat (first | apply Kd.S_alloc | apply Kd.S_drewN | apply Kd.S_drew)); exact HO_5.out) gb745 (Nat.le_of_eq hg.symm)) hb); have n2_ := Aside0.mk (Kd.R_below (Kd.ru_ HO742.out) hb); have n3_ := Aside0.mk (below_step bw_ hb); have n4_ := Aside0.mk (hbox); have n5_ := Aside0.mk ((by rw [hg]; exact (pbS_ bw_) : w.heap.size ≤ gb745)); have n6_ := Aside0.mk ((by rw [hg]; exact (pbS_ bw_) : w.heap.size ≤ gb745)); clear HO_3; clear HO_5; clear HO742; clear HB; have HO_3 := n0_; have HO_5 := n1_; have HO742 := n2_; have HB := n3_; have BK745 := n4_; have GW745 := n5_; have GE745 := n6_; clear n0_ n1_ n2_ n3_ n4_ n5_ n6_; clear hb hbox hg; have hcz31_0 : w30.cell? ⟨gb745, 0, none⟩ = some (.int .i64 0) := (blk_cell BK745.out 0).trans rfl; have hcz31_1 : w30.cell? ⟨gb745, 1, none⟩ = some (.slice none 0 0) := (blk_cell BK745.out 1).trans rfl; have hfz31_0 := blk_frozen BK745.out 0; have hfz31_1 := blk_frozen BK745.out 1; obtain ⟨Ao32, co32, eo32⟩ := Kd.R_slice HO742.out; subst eo32))
         go_roundg kj12
         case measure => have := HJ3.out; have := HK2.out; have := HJ12.out; omega
         case rel => exact ⟨(t744), (x5_2), (x6_2), (wrap64 (x7_2 + 1)), (by first | rfl | (simp; done) | (simp [*]; done)), (by first | rfl | (simp; done) | (simp [*]; done)), (by first | rfl | (simp; done) | (simp [*]; done)), H', ⟨by have := HJ3.out; have := HK2.out; have := HJ12.out; omega⟩, ⟨by (with_reducible repeat (first | apply Kd.rA_ | apply Kd.rN_ | apply Kd.rD_)); exact Kd.R_mono (Kd.R_far (p := ⟨gb745, 1, none⟩) (Kd.R_far (p := ⟨gb745, 0, none⟩) (Kd.R_types HO_3.out BK745.out (by decide)) (fun _ hk => hk.2) (.int .i64 t739)) (fun _ hk => hk.2) (.slice Ao32 t740.length co32)) (fun _ hk => trivial)⟩, ⟨by (with_reducible repeat (first | apply Kd.S_alloc | apply Kd.S_drewN | apply Kd.S_drew)); exact Kd.S_mono (Kd.S_far (p := ⟨gb745, 1, none⟩) (Kd.S_far (p := ⟨gb745, 0, none⟩) (Kd.S_mono HO_5.out (fun k_ hk => (⟨hk, hk.2⟩ : _ ∧ k_ ≠ gb745))) (fun _ hk => hk.2) (.int .i64 t739)) (fun _ hk => hk.2) (.slice Ao32 t740.length co32)) (fun _ hk => trivial)⟩, ⟨by repeat (first | (with_reducible first | exact HB.out | apply pbA_ | apply pbN_ | apply pb1_ | refine below_set ?_ GE745.out) | exact HB.out)⟩⟩
        rw [if_pos c17] at H
        have c17b0 : (t744 == 0) = true := beq_iff_eq.mpr c17
        have c17b1 : (t744 != 0) = false := bne_eq_false_iff_eq.mpr c17
        clear c17
        by_cases c18 : x5_2.length < 4398046511104
        rotate_left
        ·rw [if_neg c18] at H
         exact absurd H (by simp)
        rw [if_pos c18] at H
        have LMc18 := Aside0.mk c18
        clear c18
        obtain ⟨y746, hy746⟩ : ∃ y_ : List (S37), y_ = (x5_2 ++ [(⟨t739, t740⟩ : S37)]) := ⟨_, rfl⟩
        replace H : (dragnetlaw13_PostWalks.l0 kj12 l0 t735 t744 y746 (wrap64 (t739 + 1)) (wrap64 (x7_2 + 1))) = some r := by first | (rw [hy746]; with_reducible exact H) | (have H2_ := (Option.bind_some _ _).symm.trans H; rw [hy746]; with_reducible exact H2_) | (have H2_ := (Option.bind_some _ _).symm.trans H; with_reducible exact H2_) | with_reducible exact H | (rw [hy746]; exact H) | exact H
        have Ny746 := Aside0.mk hy746
        clear hy746
        have H' := Aside0.mk H
        clear H
        obtain ⟨Ao19, co19, eo19⟩ := Kd.R_slice HO_3.out
        subst eo19
        go_wp2_with (first | ((with_reducible refine gaC_ (f := 19) rfl ?_); refine goesL_ (some 38) rfl rfl Try.func19 (by kernel_rfl) rfl #[.slice Ao19 t735.length co19, .int .i64 x6_2] rfl (by (try simp only [List.map_toArray, List.map_cons, List.map_nil]); first | done | rfl | (simp only [List.length_drop, List.length_take]; rfl)) ?_; (with_reducible refine (post_Seek.calls kj12 _ _ t735 x6_2 t739 t740 t743 t744 _ ?side1 ?side2 A16.out).mono ?_); (case side1 => exact Kd.cu_ (Kd.R_reads' HO_3.out).2.2); (case side2 => exact (Kd.R_reads' HO_3.out).2.1); rintro e w20 ⟨v741, rfl, ho0, hb⟩; refine ⟨_, rfl, ?_⟩; replace HO_3 := Aside0.mk (Kd.R_below (Kd.ru_ HO_3.out) hb); replace HO_5 := Aside0.mk (Kd.S_elder' (by (with_reducible repeat (first | apply Kd.S_alloc | apply Kd.S_drewN | apply Kd.S_drew)); exact HO_5.out) (Kd.R_base ho0) hb); have HO742 := Aside0.mk (Kd.R_lower ho0 (pbS_ bw_)); replace HB := Aside0.mk (below_step bw_ hb); (try clear hb); (try clear hb2); (try clear hk); (try clear hi); (try clear ho0)) | ((with_reducible refine gate_dst (N := 8) rfl ?_); refine box_event ?hg (N := 8) ?hd (cs := #[.int .i64 0, .slice none 0 0]) (t := 37) ?hr ?_; (case hd => rfl); (case hg => rfl); (case hr => first | (go_simp; done) | (go_simp; rfl)); intro gb745 hg w21 hbox hb; have n0_ := Aside0.mk (Kd.R_below (Kd.ru_ HO_3.out) hb); have n1_ := Aside0.mk (Kd.S_below (Kd.S_elderB (by (with_reducible repeat (first | apply Kd.S_alloc | apply Kd.S_drewN | apply Kd.S_drew)); exact HO_5.out) gb745 (Nat.le_of_eq hg.symm)) hb); have n2_ := Aside0.mk (Kd.R_below (Kd.ru_ HO742.out) hb); have n3_ := Aside0.mk (below_step bw_ hb); have n4_ := Aside0.mk (hbox); have n5_ := Aside0.mk ((by rw [hg]; exact (pbS_ bw_) : w.heap.size ≤ gb745)); have n6_ := Aside0.mk ((by rw [hg]; exact (pbS_ bw_) : w.heap.size ≤ gb745)); clear HO_3; clear HO_5; clear HO742; clear HB; have HO_3 := n0_; have HO_5 := n1_; have HO742 := n2_; have HB := n3_; have BK745 := n4_; have GW745 := n5_; have GE745 := n6_; clear n0_ n1_ n2_ n3_ n4_ n5_ n6_; clear hb hbox hg; have hcz22_0 : w21.cell? ⟨gb745, 0, none⟩ = some (.int .i64 0) := (blk_cell BK745.out 0).trans rfl; have hcz22_1 : w21.cell? ⟨gb745, 1, none⟩ = some (.slice none 0 0) := (blk_cell BK745.out 1).trans rfl; have hfz22_0 := blk_frozen BK745.out 0; have hfz22_1 := blk_frozen BK745.out 1; obtain ⟨Ao23, co23, eo23⟩ := Kd.R_slice HO742.out; subst eo23) | ((with_reducible refine gate_store (t := 37) (p := 8) rfl ?_); refine store_event (t := 37) (p := 8) (v := ?vo_w24) (w1 := ((w21.setCell ⟨gb745, 0, none⟩ (.int .i64 t739)).setCell ⟨gb745, 1, none⟩ (.slice Ao23 t740.length co23))) ?hg ?ho ?hn ?hr ?_; (case ho => rfl); (case hg => rfl); (case hn => rfl); (case hr => first | (go_simp; done) | (go_simp; rfl)); intro w24 hw; have n0_ : Aside0 (Kd.R (Kd.int .u8) 5 w24 w.heap.size (fun _ => True) (.slice Ao19 t735.length co19) t735) := ⟨(by rw [hw]; exact (by (with_reducible repeat (first | apply Kd.rA_ | apply Kd.rN_ | apply Kd.rD_)); exact Kd.R_mono (Kd.R_far (p := ⟨gb745, 1, none⟩) (Kd.R_far (p := ⟨gb745, 0, none⟩) (Kd.R_types HO_3.out BK745.out (by decide)) (fun _ hk => hk.2) (.int .i64 t739)) (fun _ hk => hk.2) (.slice Ao23 t740.length co23)) (fun _ hk => trivial)))⟩; have n1_ : Aside0 (Kd.S k37 37 w24 w.heap.size (fun k_ => some k_ ≠ (.slice Ao23 t740.length co23 : Value).ownBlock ∧ k_ ≠ gb745) u5 x5_2) := ⟨(by rw [hw]; exact (by (with_reducible repeat (first | apply Kd.S_alloc | apply Kd.S_drewN | apply Kd.S_drew)); exact Kd.S_mono (Kd.S_far (p := ⟨gb745, 1, none⟩) (Kd.S_far (p := ⟨gb745, 0, none⟩) (Kd.S_mono HO_5.out (fun k_ hk => (⟨hk, hk.2⟩ : _ ∧ k_ ≠ gb745))) (fun _ hk => hk.2) (.int .i64 t739)) (fun _ hk => hk.2) (.slice Ao23 t740.length co23)) (fun _ hk => ⟨hk.1.1.2, hk.1.2⟩)))⟩; have n2_ : Aside0 (Kd.R (Kd.int .i64) 3 w24 w.heap.size (fun _ => True) (.slice Ao23 t740.length co23) t740) := ⟨(by rw [hw]; exact (by (with_reducible repeat (first | apply Kd.rA_ | apply Kd.rN_ | apply Kd.rD_)); exact Kd.R_mono (Kd.R_far (p := ⟨gb745, 1, none⟩) (Kd.R_far (p := ⟨gb745, 0, none⟩) (Kd.R_types HO742.out BK745.out (by decide)) (fun _ hk => hk.2) (.int .i64 t739)) (fun _ hk => hk.2) (.slice Ao23 t740.length co23)) (fun _ hk => trivial)))⟩; have n3_ : Aside0 (w24.heap[gb745]? = some (.cells #[.int .i64 t739, .slice Ao23 t740.length co23] 37 (0, 0))) := ⟨(by rw [hw]; exact (by (with_reducible repeat (first | refine blk_drewN ?_ _ | refine blk_drew ?_ | refine blk_alloc ?_ _)); refine blk_put (cs := #[.int .i64 t739, .slice none 0 0]) ?_ 1 _ rfl; (with_reducible repeat (first | refine blk_drewN ?_ _ | refine blk_drew ?_ | refine blk_alloc ?_ _)); refine blk_put (cs := #[.int .i64 0, .slice none 0 0]) ?_ 0 _ rfl; (with_reducible repeat (first | refine blk_drewN ?_ _ | refine blk_drew ?_ | refine blk_alloc ?_ _)); exact BK745.out))⟩; have n4_ : Aside0 (Below w.heap.size w w24) := ⟨(by rw [hw]; exact (by repeat (first | (with_reducible first | exact HB.out | apply pbA_ | apply pbN_ | apply pb1_ | refine below_set ?_ GE745.out) | exact HB.out)))⟩; clear hw; clear HO_3; clear HO_5; clear HO742; clear BK745; clear HB; have HO_3 := n0_; have HO_5 := n1_; have HO742 := n2_; have BK745 := n3_; have HB := n4_; clear n0_ n1_ n2_ n3_ n4_; have hcz25_0 : w24.cell? ⟨gb745, 0, none⟩ = some (.int .i64 t739) := (blk_cell BK745.out 0).trans rfl; have hcz25_1 : w24.cell? ⟨gb745, 1, none⟩ = some (.slice Ao23 t740.length co23) := (blk_cell BK745.out 1).trans rfl; have hfz25_0 := blk_frozen BK745.out 0; have hfz25_1 := blk_frozen BK745.out 1) | ((with_reducible refine gate_builtin (b := .append) (xs := #[.tmp 44, .tmp 46]) rfl ?_); at_builtin; refine Kd.S_append k37 (w0 := w) w.heap.size rfl (.tmp 44) (.tmp 46) 23 37 (.agg #[(.int .i64 0), (.slice none 0 0)]) 32 rfl Try.underlying23 info37 rfl (by decide) (by omega) u5 x5_2 (⟨t739, t740⟩ : S37) [.int .i64 t739, .slice Ao23 t740.length co23] (fun k_ => k_ ≠ gb745) (fun k_ => some k_ = (.slice Ao23 t740.length co23 : Value).ownBlock) rfl rfl ?aP (fun k_ hk_ => ((Kd.R_mono (ok' := fun k_ => ((fun k_ => k_ ≠ gb745)) k_ ∧ some k_ ≠ (u5 : Value).ownBlock) (Kd.R_types (Kd.R_apart' (HO742.out) (Kd.S_typed HO_5.out) (by decide)) BK745.out (by decide)) (fun k_ hk => ⟨hk.2, hk.1.2⟩))).1 k_ hk_.symm) ?aF ?aO ?aB ?aS ?aL ?_; (case aP => exact k37_mkM _ _ _ (⟨t739, t740⟩ : S37) (Kd.R_mono (Kd.R_tight rfl (Kd.R_mono (ok' := fun k_ => ((fun k_ => k_ ≠ gb745)) k_ ∧ some k_ ≠ (u5 : Value).ownBlock) (Kd.R_types (Kd.R_apart' (HO742.out) (Kd.S_typed HO_5.out) (by decide)) BK745.out (by decide)) (fun k_ hk => ⟨hk.2, hk.1.2⟩))) (fun _ h_ => h_))); (case aB => exact (by repeat (first | (with_reducible first | exact HB.out | apply pbA_ | apply pbN_ | apply pb1_ | refine below_set ?_ GE745.out) | exact HB.out))); (case aF => exact (fun k_ hk => Kd.freshB (g := gb745) (o := .cells #[.int .i64 t739, .slice Ao23 t740.length co23] 37 (0, 0)) (by (with_reducible repeat (first | refine blk_drewN ?_ _ | refine blk_drew ?_ | refine blk_alloc ?_ _)); exact BK745.out) k_ hk)); (case aO => exact (by (with_reducible repeat (first | apply Kd.S_alloc | apply Kd.S_drewN | apply Kd.S_drew)); exact Kd.S_mono HO_5.out (fun k_ hk => ⟨hk.2, fun e_ => hk.1 e_⟩))); (case aS => exact (pbS_ (by repeat (first | (with_reducible first | exact HB.out | apply pbA_ | apply pbN_ | apply pb1_ | refine below_set ?_ GE745.out) | exact HB.out)))); (case aL => have := LMc18.out; omega); intro v747 w26 ho hb hg hat; rw [← Ny746.out] at ho; have n0_ := Aside0.mk (Kd.R_over' (Kd.ru_ HO_3.out) (Kd.S_typed (by (with_reducible repeat (first | apply Kd.S_alloc | apply Kd.S_drewN | apply Kd.S_drew)); exact HO_5.out)) (by decide) hg); have n1_ := Aside0.mk (blk_grown (g := gb745) (o := .cells #[.int .i64 t739, .slice Ao23 t740.length co23] 37 (0, 0)) (by (with_reducible repeat (first | refine blk_drewN ?_ _ | refine blk_drew ?_ | refine blk_alloc ?_ _)); exact BK745.out) hg (Kd.S_away HO_5.out (fun _ hk => hk.2))); have n2_ := Aside0.mk (hb); have n3_ := Aside0.mk (ho); clear HO_3; clear BK745; clear HB; clear HO_5; clear HO742; have HO_3 := n0_; have BK745 := n1_; have HB := n2_; have HO748 := n3_; clear n0_ n1_ n2_ n3_; clear ho hb hg hat; have hcz27_0 : w26.cell? ⟨gb745, 0, none⟩ = some (.int .i64 t739) := (blk_cell BK745.out 0).trans rfl; have hcz27_1 : w26.cell? ⟨gb745, 1, none⟩ = some (.slice Ao23 t740.length co23) := (blk_cell BK745.out 1).trans rfl; have hfz27_0 := blk_frozen BK745.out 0; have hfz27_1 := blk_frozen BK745.out 1))
        go_roundg kj12
        case measure => have := HJ3.out; have := HK2.out; have := HJ12.out; omega
        case rel => exact ⟨(t744), (y746), (wrap64 (t739 + 1)), (wrap64 (x7_2 + 1)), (by first | rfl | (simp; done) | (simp [*]; done)), (by first | rfl | (simp; done) | (simp [*]; done)), (by first | rfl | (simp; done) | (simp [*]; done)), H', ⟨by have := HJ3.out; have := HK2.out; have := HJ12.out; omega⟩, ⟨Kd.ru_ HO_3.out⟩, ⟨by (with_reducible repeat (first | apply Kd.S_alloc | apply Kd.S_drewN | apply Kd.S_drew)); exact Kd.S_mono HO748.out (fun _ hk => trivial)⟩, ⟨by repeat (first | (with_reducible first | exact HB.out | apply pbA_ | apply pbN_ | apply pb1_ | refine below_set ?_ GE745.out) | exact HB.out)⟩⟩
end Go.Proofs.Ytooeclfeallkkaa.P
end
