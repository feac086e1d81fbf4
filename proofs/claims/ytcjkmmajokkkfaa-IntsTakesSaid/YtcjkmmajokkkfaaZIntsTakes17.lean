/- Words and proofs that IntsTakes leans on; put together by wip/tools/shake.py. -/
import Derived.Test.YtcjkmmajokkkfaaZIntsTakes7
import Derived.Test.YtcjkmmajokkkfaaZIntsTakes13
import Derived.Test.YtcjkmmajokkkfaaZIntsTakes14
import Derived.Test.YtcjkmmajokkkfaaZIntsTakes15
import Derived.Test.YtcjkmmajokkkfaaZIntsTakes16
section
namespace Go.Proofs.Ytcjkmmajokkkfaa.P
open Go.RowKit Go.Proofs.YtcjkmmajokkkfaaW.PrintWords Go.Proofs.YtcjkmmajokkkfaaW.PrintLast Go.Proofs.YtcjkmmajokkkfaaW.PrintMore
attribute [local go_sem] max2_int min2_int max_two min_two max_three min_three max_four min_four
set_option linter.unusedVariables false
set_option linter.unusedSimpArgs false
mutual
noncomputable def dragnetref04_TakeBlock.j0 : Nat → List Int → Int → Int → Int → Int → Bool → List Int → Int → Bool → Option (List Int × Int × Int)
 | 0, _, _, _, _, _, _, _, _, _ => none
 | k + 1, x0, x6, x7, x8, x9, x47, x616000, x616001, x616002 => if x47 = true then (some (([] : List Int), 0, 2)) else ((dragnetref03_Size.f x6 x8).bind fun t629 => (if 0 ≤ x616001 then (if x616001 ≤ (wrap64 (x616001 + t629)) then (if (wrap64 (x616001 + t629)) ≤ (x0.length : Int) then ((dragnetref03_Unpack.f k ((x0.take ((wrap64 (x616001 + t629)) : Int).toNat).drop (x616001 : Int).toNat) x6 x8).bind fun bt631 => (if bt631.2 = 0 then (dragnetref04_TakeBlock.l0 k x0 x6 x7 x8 x9 bt631.1 x616000 (wrap64 (x616001 + t629)) x616002) else (some (([] : List Int), 0, 2)))) else (none)) else (none)) else (none)))
noncomputable def dragnetref04_TakeBlock.l0 : Nat → List Int → Int → Int → Int → Int → List Int → List Int → Int → Bool → Option (List Int × Int × Int)
 | 0, _, _, _, _, _, _, _, _, _ => none
 | k + 1, x0, x6, x7, x8, x9, x11, x616000, x616001, x616002 => if x9 > 0 then ((dragnetref02_Reader_Count.f k x616000 x616001 x616002 31).bind fun bt635 => ((dragnetref02_Reader_Number.f k x616000 bt635.2.1 bt635.2.2 18446744073709551615).bind fun bt638 => (if bt638.2.2 = true then (some (([] : List Int), 0, 2)) else (if bt635.1 ≥ x6 then (some (([] : List Int), 0, 2)) else (if x8 = 64 then (some (([] : List Int), 0, 2)) else (if 0 ≤ bt635.1 then (if bt635.1 < (x11.length : Int) then (if 0 ≤ x8 then (dragnetref04_TakeBlock.l0 k x0 x6 x7 x8 (wrap64 (x9 - 1)) (x11.set (bt635.1 : Int).toNat (IntKind.u64.wrap ((rd x11 bt635.1) + (shl .u64 bt638.1 x8)))) x616000 bt638.2.1 bt638.2.2) else (none)) else (none)) else (none))))))) else (dragnetref04_TakeBlock.l1 k x0 x6 x7 x11 0 x616000 x616001 x616002)
noncomputable def dragnetref04_TakeBlock.l1 : Nat → List Int → Int → Int → List Int → Int → List Int → Int → Bool → Option (List Int × Int × Int)
 | 0, _, _, _, _, _, _, _, _ => none
 | k + 1, x0, x6, x7, x11, x15, x616000, x616001, x616002 => if x15 < x6 then (if 0 ≤ x15 then (if x15 < (x11.length : Int) then (dragnetref04_TakeBlock.l1 k x0 x6 x7 (x11.set (x15 : Int).toNat (IntKind.u64.wrap ((rd x11 x15) + x7))) (wrap64 (x15 + 1)) x616000 x616001 x616002) else (none)) else (none)) else ((dragnetref04_Block.f k x11).bind fun t645 => (if 0 ≤ x616001 then (if x616001 ≤ (x0.length : Int) then ((dragnetref01_Same.f t645 (x0.take (x616001 : Int).toNat)).bind fun t649 => (if t649 = true then (some (x11, x616001, 0)) else (some (([] : List Int), 0, 2)))) else (none)) else (none)))
end
noncomputable def dragnetref04_TakeBlock.f (k : Nat) (l0 : List Int) : Option (List Int × Int × Int) := (dragnetref02_Reader_Count.f k l0 0 false 32).bind fun bt616 => ((dragnetref02_Reader_Number.f k l0 bt616.2.1 bt616.2.2 18446744073709551615).bind fun bt619 => ((dragnetref02_Reader_Count.f k l0 bt619.2.1 bt619.2.2 64).bind fun bt622 => ((dragnetref02_Reader_Count.f k l0 bt622.2.1 bt622.2.2 32).bind fun bt625 => (if bt625.2.2 = true then (dragnetref04_TakeBlock.j0 k l0 bt616.1 bt619.1 bt622.1 bt625.1 true l0 bt625.2.1 bt625.2.2) else (if bt616.1 = 0 then (dragnetref04_TakeBlock.j0 k l0 bt616.1 bt619.1 bt622.1 bt625.1 true l0 bt625.2.1 bt625.2.2) else ((dragnetref03_Size.f bt616.1 bt622.1).bind fun t628 => (dragnetref04_TakeBlock.j0 k l0 bt616.1 bt619.1 bt622.1 bt625.1 (decide (t628 > (wrap64 ((l0.length : Int) - bt625.2.1)))) l0 bt625.2.1 bt625.2.2)))))))
theorem dragnetref04_TakeBlock.mono_l : ∀ k, (∀ y0 y1 y2 y3 y4 y5 y6 y7 y8, LeO (dragnetref04_TakeBlock.j0 k y0 y1 y2 y3 y4 y5 y6 y7 y8) (dragnetref04_TakeBlock.j0 (k + 1) y0 y1 y2 y3 y4 y5 y6 y7 y8)) ∧ (∀ y0 y1 y2 y3 y4 y5 y6 y7 y8, LeO (dragnetref04_TakeBlock.l0 k y0 y1 y2 y3 y4 y5 y6 y7 y8) (dragnetref04_TakeBlock.l0 (k + 1) y0 y1 y2 y3 y4 y5 y6 y7 y8)) ∧ (∀ y0 y1 y2 y3 y4 y5 y6 y7, LeO (dragnetref04_TakeBlock.l1 k y0 y1 y2 y3 y4 y5 y6 y7) (dragnetref04_TakeBlock.l1 (k + 1) y0 y1 y2 y3 y4 y5 y6 y7))
 | 0 => ⟨fun _ _ _ _ _ _ _ _ _ r h => by simp [dragnetref04_TakeBlock.j0] at h, fun _ _ _ _ _ _ _ _ _ r h => by simp [dragnetref04_TakeBlock.l0] at h, fun _ _ _ _ _ _ _ _ r h => by simp [dragnetref04_TakeBlock.l1] at h⟩
 | k + 1 => by
  obtain ⟨ih0, ih1, ih2⟩ := dragnetref04_TakeBlock.mono_l k
  refine ⟨?_, ?_, ?_⟩
  ·intro y0 y1 y2 y3 y4 y5 y6 y7 y8
   unfold dragnetref04_TakeBlock.j0
   repeat' first
   | (with_reducible exact ih0 _ _ _ _ _ _ _ _ _)
   | (with_reducible exact ih1 _ _ _ _ _ _ _ _ _)
   | (with_reducible exact ih2 _ _ _ _ _ _ _ _)
   | (with_reducible exact dragnetref02_Reader_Count.mono _ _ _ _ _)
   | (with_reducible exact dragnetref02_Reader_Number.mono _ _ _ _ _)
   | (with_reducible exact dragnetref03_Unpack.mono _ _ _ _)
   | (with_reducible exact dragnetref04_Block.mono _ _)
   | (with_reducible exact LeO.refl _)
   | (with_reducible exact LeO.none _)
   | (with_reducible refine LeO.ite ?_ ?_)
   | (with_reducible refine LeO.bind ?_ (fun _ => ?_))
  ·intro y0 y1 y2 y3 y4 y5 y6 y7 y8
   unfold dragnetref04_TakeBlock.l0
   repeat' first
   | (with_reducible exact ih0 _ _ _ _ _ _ _ _ _)
   | (with_reducible exact ih1 _ _ _ _ _ _ _ _ _)
   | (with_reducible exact ih2 _ _ _ _ _ _ _ _)
   | (with_reducible exact dragnetref02_Reader_Count.mono _ _ _ _ _)
   | (with_reducible exact dragnetref02_Reader_Number.mono _ _ _ _ _)
   | (with_reducible exact dragnetref03_Unpack.mono _ _ _ _)
   | (with_reducible exact dragnetref04_Block.mono _ _)
   | (with_reducible exact LeO.refl _)
   | (with_reducible exact LeO.none _)
   | (with_reducible refine LeO.ite ?_ ?_)
   | (with_reducible refine LeO.bind ?_ (fun _ => ?_))
  ·intro y0 y1 y2 y3 y4 y5 y6 y7
   unfold dragnetref04_TakeBlock.l1
   repeat' first
   | (with_reducible exact ih0 _ _ _ _ _ _ _ _ _)
   | (with_reducible exact ih1 _ _ _ _ _ _ _ _ _)
   | (with_reducible exact ih2 _ _ _ _ _ _ _ _)
   | (with_reducible exact dragnetref02_Reader_Count.mono _ _ _ _ _)
   | (with_reducible exact dragnetref02_Reader_Number.mono _ _ _ _ _)
   | (with_reducible exact dragnetref03_Unpack.mono _ _ _ _)
   | (with_reducible exact dragnetref04_Block.mono _ _)
   | (with_reducible exact LeO.refl _)
   | (with_reducible exact LeO.none _)
   | (with_reducible refine LeO.ite ?_ ?_)
   | (with_reducible refine LeO.bind ?_ (fun _ => ?_))
theorem dragnetref04_TakeBlock.mono : ∀ a0 k, LeO (dragnetref04_TakeBlock.f k a0) (dragnetref04_TakeBlock.f (k + 1) a0) := by
 intro a0 k
 obtain ⟨ih0, ih1, ih2⟩ := dragnetref04_TakeBlock.mono_l k
 unfold dragnetref04_TakeBlock.f
 repeat' first
   | (with_reducible exact ih0 _ _ _ _ _ _ _ _ _)
   | (with_reducible exact ih1 _ _ _ _ _ _ _ _ _)
   | (with_reducible exact ih2 _ _ _ _ _ _ _ _)
   | (with_reducible exact dragnetref02_Reader_Count.mono _ _ _ _ _)
   | (with_reducible exact dragnetref02_Reader_Number.mono _ _ _ _ _)
   | (with_reducible exact dragnetref03_Unpack.mono _ _ _ _)
   | (with_reducible exact dragnetref04_Block.mono _ _)
   | (with_reducible exact LeO.refl _)
   | (with_reducible exact LeO.none _)
   | (with_reducible refine LeO.ite ?_ ?_)
   | (with_reducible refine LeO.bind ?_ (fun _ => ?_))
def dragnetref04_TakeBlock.T6 : Bool × List (List Nat × List Nat) := (true, [([], []), ([0], [0]), ([1], [1]), ([2], [2]), ([3], [3]), ([4], [4]), ([5, 4], [4, 5]), ([4, 6], [4, 6]), ([7, 4], [7]), ([8], [8]), ([8], [8]), ([9, 10, 8, 8], [8, 9, 10]), ([8], [8]), ([12, 8], [8, 12]), ([8], [8]), ([14, 8], [8, 14]), ([15, 8], [8, 15]), ([16, 8], [8, 16]), ([13, 17, 8], [8, 13, 17]), ([11, 18, 8], [8, 11, 18]), ([8, 19], [8, 19])])
def dragnetref04_TakeBlock.B6 : List Nat := [0, 1, 3, 7, 15, 31, 63, 127, 255, 511, 511, 2047, 511, 4607, 511, 16895, 49663, 115199, 258559, 524287, 1048575]
theorem dragnetref04_TakeBlock.tab6 : rtab .any (opsOf Try.f66 6) = dragnetref04_TakeBlock.T6 := by kernel_rfl
theorem dragnetref04_TakeBlock.bits6 : waitsOk dragnetref04_TakeBlock.T6.2 dragnetref04_TakeBlock.B6 = true := by kernel_rfl
def dragnetref04_TakeBlock.T8 : Bool × List (List Nat × List Nat) := (true, [([], []), ([0], [0]), ([1], [1]), ([2], [2]), ([], []), ([], []), ([4, 5], [4, 5]), ([3, 6], [3, 6]), ([7, 6, 0, 1, 2, 3, 4, 5, 6, 7], [7])])
def dragnetref04_TakeBlock.B8 : List Nat := [0, 1, 3, 7, 0, 0, 48, 127, 255]
theorem dragnetref04_TakeBlock.tab8 : rtab .any (opsOf Try.f66 8) = dragnetref04_TakeBlock.T8 := by kernel_rfl
theorem dragnetref04_TakeBlock.bits8 : waitsOk dragnetref04_TakeBlock.T8.2 dragnetref04_TakeBlock.B8 = true := by kernel_rfl
def dragnetref04_TakeBlock.T19 : Bool × List (List Nat × List Nat) := (true, [([], []), ([], []), ([0, 1], [0, 1]), ([2], [2]), ([], []), ([], []), ([4, 5], [4, 5]), ([3, 6], [3, 6]), ([0, 1, 0, 1, 2, 3, 4, 5, 6, 7], [0, 1]), ([8, 7, 0, 1, 2, 3, 4, 5, 6, 7], [7, 8])])
def dragnetref04_TakeBlock.B19 : List Nat := [0, 0, 3, 7, 0, 0, 48, 127, 255, 511]
theorem dragnetref04_TakeBlock.tab19 : rtab .any (opsOf Try.f66 19) = dragnetref04_TakeBlock.T19 := by kernel_rfl
theorem dragnetref04_TakeBlock.bits19 : waitsOk dragnetref04_TakeBlock.T19.2 dragnetref04_TakeBlock.B19 = true := by kernel_rfl
def dragnetref04_TakeBlock.T24 : Bool × List (List Nat × List Nat) := (true, [([], []), ([0], [0]), ([], []), ([], []), ([3], [3]), ([4], [4]), ([5], [5]), ([2, 6], [2, 6]), ([1, 7, 1], [1, 7]), ([8], [8])])
def dragnetref04_TakeBlock.B24 : List Nat := [0, 1, 0, 0, 8, 24, 56, 124, 255, 511]
theorem dragnetref04_TakeBlock.tab24 : rtab .any (opsOf Try.f66 24) = dragnetref04_TakeBlock.T24 := by kernel_rfl
theorem dragnetref04_TakeBlock.bits24 : waitsOk dragnetref04_TakeBlock.T24.2 dragnetref04_TakeBlock.B24 = true := by kernel_rfl
def dragnetref04_TakeBlock.T26 : Bool × List (List Nat × List Nat) := (true, [([], []), ([], []), ([1], [1]), ([2], [2]), ([3], [3]), ([0, 0], [0]), ([4, 5, 0, 1, 2, 3, 4, 5], [4]), ([6, 0, 1, 2, 3, 4, 5, 6], [])])
def dragnetref04_TakeBlock.B26 : List Nat := [0, 0, 2, 6, 14, 1, 63, 127]
theorem dragnetref04_TakeBlock.tab26 : rtab .any (opsOf Try.f66 26) = dragnetref04_TakeBlock.T26 := by kernel_rfl
theorem dragnetref04_TakeBlock.bits26 : waitsOk dragnetref04_TakeBlock.T26.2 dragnetref04_TakeBlock.B26 = true := by kernel_rfl
set_option maxHeartbeats 8000000 in
set_option maxRecDepth 100000 in
theorem dragnetref04_TakeBlock.calls (k : Nat) (A0 : Option Addr) (c0 : Nat) (l0 : List Int) (r1 : List Int) (r2 : Int) (r3 : Int) (w : World) (hr0 : Kd.C (Kd.int .u8) w A0 l0.length l0) (hc0 : l0.length ≤ c0) (h : dragnetref04_TakeBlock.f k l0 = some (r1, r2, r3)) :
  Calls Try.prog 66 #[.slice A0 l0.length c0] w fun e w' => ∃ v0_ : Value, e = .returned (.tuple #[v0_, .int .i64 r2, .int .i64 r3]) ∧ Kd.R (Kd.int .u64) 50 w' w.heap.size (fun _ => True) v0_ r1 ∧ Below w.heap.size w w' := by
 have hu97 := Try.underlying97
 have HR0 := Aside0.mk hr0
 have HC0 := Aside0.mk hc0
 clear hr0 hc0
 have HB := Aside0.mk (Below.refl w.heap.size w)
 have H : ((dragnetref02_Reader_Count.f k l0 0 false 32).bind fun bt616 => ((dragnetref02_Reader_Number.f k l0 bt616.2.1 bt616.2.2 18446744073709551615).bind fun bt619 => ((dragnetref02_Reader_Count.f k l0 bt619.2.1 bt619.2.2 64).bind fun bt622 => ((dragnetref02_Reader_Count.f k l0 bt622.2.1 bt622.2.2 32).bind fun bt625 => (if bt625.2.2 = true then (dragnetref04_TakeBlock.j0 k l0 bt616.1 bt619.1 bt622.1 bt625.1 true l0 bt625.2.1 bt625.2.2) else (if bt616.1 = 0 then (dragnetref04_TakeBlock.j0 k l0 bt616.1 bt619.1 bt622.1 bt625.1 true l0 bt625.2.1 bt625.2.2) else ((dragnetref03_Size.f bt616.1 bt622.1).bind fun t628 => (dragnetref04_TakeBlock.j0 k l0 bt616.1 bt619.1 bt622.1 bt625.1 (decide (t628 > (wrap64 ((l0.length : Int) - bt625.2.1)))) l0 bt625.2.1 bt625.2.2)))))))) = some (r1, r2, r3) := h
 clear h
 replace H := Option.bind_eq_some_iff.mp H
 obtain ⟨⟨t616, t617, t618⟩, A20, H⟩ := H
 replace H : ((dragnetref02_Reader_Number.f k l0 t617 t618 18446744073709551615).bind fun bt619 => ((dragnetref02_Reader_Count.f k l0 bt619.2.1 bt619.2.2 64).bind fun bt622 => ((dragnetref02_Reader_Count.f k l0 bt622.2.1 bt622.2.2 32).bind fun bt625 => (if bt625.2.2 = true then (dragnetref04_TakeBlock.j0 k l0 t616 bt619.1 bt622.1 bt625.1 true l0 bt625.2.1 bt625.2.2) else (if t616 = 0 then (dragnetref04_TakeBlock.j0 k l0 t616 bt619.1 bt622.1 bt625.1 true l0 bt625.2.1 bt625.2.2) else ((dragnetref03_Size.f t616 bt622.1).bind fun t628 => (dragnetref04_TakeBlock.j0 k l0 t616 bt619.1 bt622.1 bt625.1 (decide (t628 > (wrap64 ((l0.length : Int) - bt625.2.1)))) l0 bt625.2.1 bt625.2.2))))))) = some (r1, r2, r3) := H
 have A2 := Aside0.mk A20
 clear A20
 replace H := Option.bind_eq_some_iff.mp H
 obtain ⟨⟨t619, t620, t621⟩, A30, H⟩ := H
 replace H : ((dragnetref02_Reader_Count.f k l0 t620 t621 64).bind fun bt622 => ((dragnetref02_Reader_Count.f k l0 bt622.2.1 bt622.2.2 32).bind fun bt625 => (if bt625.2.2 = true then (dragnetref04_TakeBlock.j0 k l0 t616 t619 bt622.1 bt625.1 true l0 bt625.2.1 bt625.2.2) else (if t616 = 0 then (dragnetref04_TakeBlock.j0 k l0 t616 t619 bt622.1 bt625.1 true l0 bt625.2.1 bt625.2.2) else ((dragnetref03_Size.f t616 bt622.1).bind fun t628 => (dragnetref04_TakeBlock.j0 k l0 t616 t619 bt622.1 bt625.1 (decide (t628 > (wrap64 ((l0.length : Int) - bt625.2.1)))) l0 bt625.2.1 bt625.2.2)))))) = some (r1, r2, r3) := H
 have A3 := Aside0.mk A30
 clear A30
 replace H := Option.bind_eq_some_iff.mp H
 obtain ⟨⟨t622, t623, t624⟩, A40, H⟩ := H
 replace H : ((dragnetref02_Reader_Count.f k l0 t623 t624 32).bind fun bt625 => (if bt625.2.2 = true then (dragnetref04_TakeBlock.j0 k l0 t616 t619 t622 bt625.1 true l0 bt625.2.1 bt625.2.2) else (if t616 = 0 then (dragnetref04_TakeBlock.j0 k l0 t616 t619 t622 bt625.1 true l0 bt625.2.1 bt625.2.2) else ((dragnetref03_Size.f t616 t622).bind fun t628 => (dragnetref04_TakeBlock.j0 k l0 t616 t619 t622 bt625.1 (decide (t628 > (wrap64 ((l0.length : Int) - bt625.2.1)))) l0 bt625.2.1 bt625.2.2))))) = some (r1, r2, r3) := H
 have A4 := Aside0.mk A40
 clear A40
 replace H := Option.bind_eq_some_iff.mp H
 obtain ⟨⟨t625, t626, t627⟩, A50, H⟩ := H
 replace H : (if t627 = true then (dragnetref04_TakeBlock.j0 k l0 t616 t619 t622 t625 true l0 t626 t627) else (if t616 = 0 then (dragnetref04_TakeBlock.j0 k l0 t616 t619 t622 t625 true l0 t626 t627) else ((dragnetref03_Size.f t616 t622).bind fun t628 => (dragnetref04_TakeBlock.j0 k l0 t616 t619 t622 t625 (decide (t628 > (wrap64 ((l0.length : Int) - t626)))) l0 t626 t627)))) = some (r1, r2, r3) := H
 have A5 := Aside0.mk A50
 clear A50
 have HC6 := Aside0.mk H
 clear H
 go_enter Try.func66, Try.ntmps66
 go_upto_region 6 with (first | ((with_reducible refine gate_dst (N := 18) rfl ?_); (try (refine gate_guard (by rfl) ?_; dsimp only)); refine box_event ?hg (N := 18) ?hd (cs := #[.slice A0 l0.length c0, .int .i64 0, .bool false]) (t := 97) ?hr ?_; (case hd => rfl); (case hg => rfl); (case hr => first | (go_simp; done) | (go_simp; rfl)); intro gb615 hg w7 hbox hb; have n0_ := Aside0.mk (below_step bw_ hb); have n1_ := Aside0.mk ((show IsS97 w w7 gb615 l0 0 false from ⟨_, _, hbox, (by rw [hg]; exact (pbS_ bw_) : w.heap.size ≤ gb615), ⟨HR0.out, HC0.out⟩⟩)); have n2_ := Aside0.mk ((by rw [hg]; exact (pbS_ bw_) : w.heap.size ≤ gb615)); have n3_ := Aside0.mk ((by rw [hg]; exact (pbS_ bw_) : w.heap.size ≤ gb615)); clear HB; have HB := n0_; have HI615 := n1_; have GW615 := n2_; have GE615 := n3_; clear n0_ n1_ n2_ n3_; clear hb hbox hg) | ((with_reducible refine gaC_ (f := 76) rfl ?_); refine goesL_ (some 20) rfl rfl Try.func76 (by kernel_rfl) rfl #[.pointer (some ⟨gb615, 0, none⟩), .int .i64 32] rfl (by (try simp only [List.map_toArray, List.map_cons, List.map_nil]); first | done | rfl | (simp only [List.length_drop, List.length_take]; rfl)) ?_; (with_reducible refine (dragnetref02_Reader_Count.calls k gb615 l0 0 false 32 t616 t617 t618 w _ ?side1 ?side2 A2.out).mono ?_); (case side1 => repeat (first | (with_reducible first | exact HI615.out | apply IsS97.alloc | apply IsS97.drewN | apply IsS97.drew | apply IsS97.set_1 | apply IsS97.set_2) | exact HI615.out)); (case side2 => repeat (first | (with_reducible first | exact HB.out | apply pbA_ | apply pbN_ | apply pb1_ | refine below_set ?_ (IsS97.ge HI615.out)) | exact HB.out)); rintro e w8 ⟨rfl, hi, hb, hk⟩; refine ⟨_, rfl, ?_⟩; replace HB := Aside0.mk (hb); replace HI615 := Aside0.mk (hi); (try clear hb); (try clear hb2); (try clear hk); (try clear hi)) | ((with_reducible refine gaC_ (f := 77) rfl ?_); refine goesL_ (some 22) rfl rfl Try.func77 (by kernel_rfl) rfl #[.pointer (some ⟨gb615, 0, none⟩), .int .u64 18446744073709551615] rfl (by (try simp only [List.map_toArray, List.map_cons, List.map_nil]); first | done | rfl | (simp only [List.length_drop, List.length_take]; rfl)) ?_; (with_reducible refine (dragnetref02_Reader_Number.calls k gb615 l0 t617 t618 18446744073709551615 t619 t620 t621 w _ ?side1 ?side2 A3.out).mono ?_); (case side1 => repeat (first | (with_reducible first | exact HI615.out | apply IsS97.alloc | apply IsS97.drewN | apply IsS97.drew | apply IsS97.set_1 | apply IsS97.set_2) | exact HI615.out)); (case side2 => repeat (first | (with_reducible first | exact HB.out | apply pbA_ | apply pbN_ | apply pb1_ | refine below_set ?_ (IsS97.ge HI615.out)) | exact HB.out)); rintro e w9 ⟨rfl, hi, hb, hk⟩; refine ⟨_, rfl, ?_⟩; replace HB := Aside0.mk (hb); replace HI615 := Aside0.mk (hi); (try clear hb); (try clear hb2); (try clear hk); (try clear hi)) | ((with_reducible refine gaC_ (f := 76) rfl ?_); refine goesL_ (some 24) rfl rfl Try.func76 (by kernel_rfl) rfl #[.pointer (some ⟨gb615, 0, none⟩), .int .i64 64] rfl (by (try simp only [List.map_toArray, List.map_cons, List.map_nil]); first | done | rfl | (simp only [List.length_drop, List.length_take]; rfl)) ?_; (with_reducible refine (dragnetref02_Reader_Count.calls k gb615 l0 t620 t621 64 t622 t623 t624 w _ ?side1 ?side2 A4.out).mono ?_); (case side1 => repeat (first | (with_reducible first | exact HI615.out | apply IsS97.alloc | apply IsS97.drewN | apply IsS97.drew | apply IsS97.set_1 | apply IsS97.set_2) | exact HI615.out)); (case side2 => repeat (first | (with_reducible first | exact HB.out | apply pbA_ | apply pbN_ | apply pb1_ | refine below_set ?_ (IsS97.ge HI615.out)) | exact HB.out)); rintro e w10 ⟨rfl, hi, hb, hk⟩; refine ⟨_, rfl, ?_⟩; replace HB := Aside0.mk (hb); replace HI615 := Aside0.mk (hi); (try clear hb); (try clear hb2); (try clear hk); (try clear hi)) | ((with_reducible refine gaC_ (f := 76) rfl ?_); refine goesL_ (some 26) rfl rfl Try.func76 (by kernel_rfl) rfl #[.pointer (some ⟨gb615, 0, none⟩), .int .i64 32] rfl (by (try simp only [List.map_toArray, List.map_cons, List.map_nil]); first | done | rfl | (simp only [List.length_drop, List.length_take]; rfl)) ?_; (with_reducible refine (dragnetref02_Reader_Count.calls k gb615 l0 t623 t624 32 t625 t626 t627 w _ ?side1 ?side2 A5.out).mono ?_); (case side1 => repeat (first | (with_reducible first | exact HI615.out | apply IsS97.alloc | apply IsS97.drewN | apply IsS97.drew | apply IsS97.set_1 | apply IsS97.set_2) | exact HI615.out)); (case side2 => repeat (first | (with_reducible first | exact HB.out | apply pbA_ | apply pbN_ | apply pb1_ | refine below_set ?_ (IsS97.ge HI615.out)) | exact HB.out)); rintro e w11 ⟨rfl, hi, hb, hk⟩; refine ⟨_, rfl, ?_⟩; replace HB := Aside0.mk (hb); replace HI615 := Aside0.mk (hi); (try clear hb); (try clear hb2); (try clear hk); (try clear hi)))
 (try simp only [Act.put, List.setIfInBounds_toArray, List.set_cons_zero, List.set_cons_succ])
 go_cut [47] (fun v47 wc => ∃ (kq : Nat) (x47_5 : Bool), v47 = .bool x47_5 ∧ Aside0 (dragnetref04_TakeBlock.j0 kq l0 t616 t619 t622 t625 x47_5 l0 t626 t627 = some (r1, r2, r3)) ∧ Aside0 (kq ≤ k) ∧ Aside0 (IsS97 w wc gb615 l0 t626 t627) ∧ Aside0 (Below w.heap.size w wc))
 case first =>
  have H := HC6.out
  clear HC6
  by_cases c12 : t627 = true
  ·subst c12
   have H1 : (dragnetref04_TakeBlock.j0 k l0 t616 t619 t622 t625 true l0 t626 true) = some (r1, r2, r3) := by rw [if_pos rfl] at H; exact H
   clear H
   have H := H1
   clear H1
   have H' := Aside0.mk H
   clear H
   try go_wp2
   (try (rw [drewN_self w11]; generalize hq_ : World.drewN w11 _ = w11; have n0_ : Aside0 (IsS97 w w11 gb615 l0 t626 true) := ⟨by rw [← hq_]; exact (by repeat (first | (with_reducible first | exact HI615.out | apply IsS97.alloc | apply IsS97.drewN | apply IsS97.drew | apply IsS97.set_1 | apply IsS97.set_2) | exact HI615.out))⟩; have n1_ : Aside0 (Below w.heap.size w w11) := ⟨by rw [← hq_]; exact (by repeat (first | (with_reducible first | exact HB.out | apply pbA_ | apply pbN_ | apply pb1_ | refine below_set ?_ (IsS97.ge HI615.out)) | exact HB.out))⟩; clear HI615 HB hq_; have HI615 := n0_; have HB := n1_; clear n0_ n1_))
   have n0_ := Aside0.mk (IsS97.drew HI615.out)
   have n1_ := Aside0.mk (pb1_ HB.out)
   clear HI615
   clear HB
   have HI615 := n0_
   have HB := n1_
   clear n0_ n1_
   obtain ⟨ASz14_0, cSz14_0, HGz14, hgz14, HSz14_0⟩ := HI615.out
   have hcz14_0 := cellS97_0 HGz14
   have hcz14_1 := cellS97_1 HGz14
   have hcz14_2 := cellS97_2 HGz14
   have hfz14_1 := blk_frozen HGz14 1
   have hfz14_2 := blk_frozen HGz14 2
   clear HGz14 hgz14
   refine start_ (n := 21) (S := fun w' => w'.cell? ⟨gb615, 0, none⟩ = some (.slice ASz14_0 l0.length cSz14_0) ∧ w'.cell? ⟨gb615, 1, none⟩ = some (.int .i64 t626) ∧ w'.cell? ⟨gb615, 2, none⟩ = some (.bool true)) (ds := []) #[false, false, false, false, false, false, false, false, false, false, false, false, false, false, false, false, false, false, false, false, false] (by kernel_rfl) rfl rfl ⟨hcz14_0, hcz14_1, hcz14_2⟩ (fun hHeld => ?_); refine with_tabW dragnetref04_TakeBlock.tab6 dragnetref04_TakeBlock.bits6 (fun HT_ HW_ => ?_)
   generalize w11.drew = w13 at HI615 HB hHeld ⊢
   refine pu_ (i := 0) (N := some 27) HT_ #[true, false, false, false, false, false, false, false, false, false, false, false, false, false, false, false, false, false, false, false, false] ?_
   refine pu_ (i := 1) (N := some 28) HT_ #[true, true, false, false, false, false, false, false, false, false, false, false, false, false, false, false, false, false, false, false, false] ?_
   refine pu_ (i := 2) (N := some 29) HT_ #[true, true, true, false, false, false, false, false, false, false, false, false, false, false, false, false, false, false, false, false, false] ?_
   refine ta_ (i := 3) (N := some 30) HT_ HW_ #[true, true, true, true, false, false, false, false, false, false, false, false, false, false, false, false, false, false, false, false, false] hHeld ?_
   refine pu_ (i := 4) (N := some 31) HT_ #[true, true, true, true, true, false, false, false, false, false, false, false, false, false, false, false, false, false, false, false, false] ?_
   refine pn_ (i := 5) (N := some 32) HT_ #[true, true, true, true, true, true, false, false, false, false, false, false, false, false, false, false, false, false, false, false, false] ?_
   refine pn_ (i := 6) (N := some 33) HT_ #[true, true, true, true, true, true, true, false, false, false, false, false, false, false, false, false, false, false, false, false, false] ?_
   refine pu_ (i := 7) (N := some 34) HT_ #[true, true, true, true, true, true, true, true, false, false, false, false, false, false, false, false, false, false, false, false, false] ?_
   refine pu_ (i := 8) (N := some 35) HT_ #[true, true, true, true, true, true, true, true, true, false, false, false, false, false, false, false, false, false, false, false, false] ?_
   refine pn_ (i := 9) (N := some 36) HT_ #[true, true, true, true, true, true, true, true, true, true, false, false, false, false, false, false, false, false, false, false, false] ?_
   refine pn_ (i := 10) (N := some 37) HT_ #[true, true, true, true, true, true, true, true, true, true, true, false, false, false, false, false, false, false, false, false, false] ?_
   refine pn_ (i := 11) (N := some 38) HT_ #[true, true, true, true, true, true, true, true, true, true, true, true, false, false, false, false, false, false, false, false, false] ?_
   refine pn_ (i := 12) (N := some 39) HT_ #[true, true, true, true, true, true, true, true, true, true, true, true, true, false, false, false, false, false, false, false, false] ?_
   refine pn_ (i := 13) (N := some 40) HT_ #[true, true, true, true, true, true, true, true, true, true, true, true, true, true, false, false, false, false, false, false, false] ?_
   refine pn_ (i := 14) (N := some 41) HT_ #[true, true, true, true, true, true, true, true, true, true, true, true, true, true, true, false, false, false, false, false, false] ?_
   refine pn_ (i := 15) (N := some 42) HT_ #[true, true, true, true, true, true, true, true, true, true, true, true, true, true, true, true, false, false, false, false, false] ?_
   refine pn_ (i := 16) (N := some 43) HT_ #[true, true, true, true, true, true, true, true, true, true, true, true, true, true, true, true, true, false, false, false, false] ?_
   refine pn_ (i := 17) (N := some 44) HT_ #[true, true, true, true, true, true, true, true, true, true, true, true, true, true, true, true, true, true, false, false, false] ?_
   refine pn_ (i := 18) (N := some 45) HT_ #[true, true, true, true, true, true, true, true, true, true, true, true, true, true, true, true, true, true, true, false, false] ?_
   refine pn_ (i := 19) (N := some 46) HT_ #[true, true, true, true, true, true, true, true, true, true, true, true, true, true, true, true, true, true, true, true, false] ?_
   refine pu_ (i := 20) (N := some 47) HT_ #[true, true, true, true, true, true, true, true, true, true, true, true, true, true, true, true, true, true, true, true, true] ?_
   refine done_ (done_of HT_.out (by kernel_rfl)) ?_
   try go_wp2
   go_meet
   case rel => exact ⟨_, (true), (by first | rfl | (simp; done) | (simp [*]; done)), H', ⟨by first | omega | exact Nat.le_refl _⟩, ⟨by repeat (first | (with_reducible first | exact HI615.out | apply IsS97.alloc | apply IsS97.drewN | apply IsS97.drew | apply IsS97.set_1 | apply IsS97.set_2) | exact HI615.out)⟩, ⟨by repeat (first | (with_reducible first | exact HB.out | apply pbA_ | apply pbN_ | apply pb1_ | refine below_set ?_ (IsS97.ge HI615.out)) | exact HB.out)⟩⟩
  ·replace c12 := Bool.eq_false_iff.mpr c12
   subst c12
   have H1 : (if t616 = 0 then (dragnetref04_TakeBlock.j0 k l0 t616 t619 t622 t625 true l0 t626 false) else ((dragnetref03_Size.f t616 t622).bind fun t628 => (dragnetref04_TakeBlock.j0 k l0 t616 t619 t622 t625 (decide (t628 > (wrap64 ((l0.length : Int) - t626)))) l0 t626 false))) = some (r1, r2, r3) := by rw [if_neg (show ¬ (false = true) by decide)] at H; exact H
   clear H
   have H := H1
   clear H1
   by_cases c15 : t616 = 0
   ·rw [if_pos c15] at H
    have c15b0 : (t616 == 0) = true := beq_iff_eq.mpr c15
    have c15b1 : (t616 != 0) = false := bne_eq_false_iff_eq.mpr c15
    clear c15
    (first | rw [c15b0] | (simp only [i64_w, i32_w]; rw [c15b0]) | skip)
    have H' := Aside0.mk H
    clear H
    try go_wp2
    (try (rw [drewN_self w11]; generalize hq_ : World.drewN w11 _ = w11; have n0_ : Aside0 (IsS97 w w11 gb615 l0 t626 false) := ⟨by rw [← hq_]; exact (by repeat (first | (with_reducible first | exact HI615.out | apply IsS97.alloc | apply IsS97.drewN | apply IsS97.drew | apply IsS97.set_1 | apply IsS97.set_2) | exact HI615.out))⟩; have n1_ : Aside0 (Below w.heap.size w w11) := ⟨by rw [← hq_]; exact (by repeat (first | (with_reducible first | exact HB.out | apply pbA_ | apply pbN_ | apply pb1_ | refine below_set ?_ (IsS97.ge HI615.out)) | exact HB.out))⟩; clear HI615 HB hq_; have HI615 := n0_; have HB := n1_; clear n0_ n1_))
    have n0_ := Aside0.mk (IsS97.drew HI615.out)
    have n1_ := Aside0.mk (pb1_ HB.out)
    clear HI615
    clear HB
    have HI615 := n0_
    have HB := n1_
    clear n0_ n1_
    obtain ⟨ASz17_0, cSz17_0, HGz17, hgz17, HSz17_0⟩ := HI615.out
    have hcz17_0 := cellS97_0 HGz17
    have hcz17_1 := cellS97_1 HGz17
    have hcz17_2 := cellS97_2 HGz17
    have hfz17_1 := blk_frozen HGz17 1
    have hfz17_2 := blk_frozen HGz17 2
    clear HGz17 hgz17
    refine start_ (n := 21) (S := fun w' => w'.cell? ⟨gb615, 0, none⟩ = some (.slice ASz17_0 l0.length cSz17_0) ∧ w'.cell? ⟨gb615, 1, none⟩ = some (.int .i64 t626) ∧ w'.cell? ⟨gb615, 2, none⟩ = some (.bool false)) (ds := []) #[false, false, false, false, false, false, false, false, false, false, false, false, false, false, false, false, false, false, false, false, false] (by kernel_rfl) rfl rfl ⟨hcz17_0, hcz17_1, hcz17_2⟩ (fun hHeld => ?_); refine with_tabW dragnetref04_TakeBlock.tab6 dragnetref04_TakeBlock.bits6 (fun HT_ HW_ => ?_)
    generalize w11.drew = w16 at HI615 HB hHeld ⊢
    refine pu_ (i := 0) (N := some 27) HT_ #[true, false, false, false, false, false, false, false, false, false, false, false, false, false, false, false, false, false, false, false, false] ?_
    refine pu_ (i := 1) (N := some 28) HT_ #[true, true, false, false, false, false, false, false, false, false, false, false, false, false, false, false, false, false, false, false, false] ?_
    refine pu_ (i := 2) (N := some 29) HT_ #[true, true, true, false, false, false, false, false, false, false, false, false, false, false, false, false, false, false, false, false, false] ?_
    refine ta_ (i := 3) (N := some 30) HT_ HW_ #[true, true, true, true, false, false, false, false, false, false, false, false, false, false, false, false, false, false, false, false, false] hHeld ?_
    refine pu_ (i := 4) (N := some 31) HT_ #[true, true, true, true, true, false, false, false, false, false, false, false, false, false, false, false, false, false, false, false, false] ?_
    refine pu_ (i := 5) (N := some 32) HT_ #[true, true, true, true, true, true, false, false, false, false, false, false, false, false, false, false, false, false, false, false, false] ?_
    refine pu_ (i := 6) (N := some 33) HT_ #[true, true, true, true, true, true, true, false, false, false, false, false, false, false, false, false, false, false, false, false, false] ?_
    refine pu_ (i := 7) (N := some 34) HT_ #[true, true, true, true, true, true, true, true, false, false, false, false, false, false, false, false, false, false, false, false, false] ?_
    refine pu_ (i := 8) (N := some 35) HT_ #[true, true, true, true, true, true, true, true, true, false, false, false, false, false, false, false, false, false, false, false, false] ?_
    refine pn_ (i := 9) (N := some 36) HT_ #[true, true, true, true, true, true, true, true, true, true, false, false, false, false, false, false, false, false, false, false, false] ?_
    refine pn_ (i := 10) (N := some 37) HT_ #[true, true, true, true, true, true, true, true, true, true, true, false, false, false, false, false, false, false, false, false, false] ?_
    refine pn_ (i := 11) (N := some 38) HT_ #[true, true, true, true, true, true, true, true, true, true, true, true, false, false, false, false, false, false, false, false, false] ?_
    refine pn_ (i := 12) (N := some 39) HT_ #[true, true, true, true, true, true, true, true, true, true, true, true, true, false, false, false, false, false, false, false, false] ?_
    refine pn_ (i := 13) (N := some 40) HT_ #[true, true, true, true, true, true, true, true, true, true, true, true, true, true, false, false, false, false, false, false, false] ?_
    refine pn_ (i := 14) (N := some 41) HT_ #[true, true, true, true, true, true, true, true, true, true, true, true, true, true, true, false, false, false, false, false, false] ?_
    refine pn_ (i := 15) (N := some 42) HT_ #[true, true, true, true, true, true, true, true, true, true, true, true, true, true, true, true, false, false, false, false, false] ?_
    refine pn_ (i := 16) (N := some 43) HT_ #[true, true, true, true, true, true, true, true, true, true, true, true, true, true, true, true, true, false, false, false, false] ?_
    refine pn_ (i := 17) (N := some 44) HT_ #[true, true, true, true, true, true, true, true, true, true, true, true, true, true, true, true, true, true, false, false, false] ?_
    refine pn_ (i := 18) (N := some 45) HT_ #[true, true, true, true, true, true, true, true, true, true, true, true, true, true, true, true, true, true, true, false, false] ?_
    refine pn_ (i := 19) (N := some 46) HT_ #[true, true, true, true, true, true, true, true, true, true, true, true, true, true, true, true, true, true, true, true, false] ?_
    refine pu_ (i := 20) (N := some 47) HT_ #[true, true, true, true, true, true, true, true, true, true, true, true, true, true, true, true, true, true, true, true, true] ?_
    refine done_ (done_of HT_.out (by kernel_rfl)) ?_
    try go_wp2
    go_meet
    case rel => exact ⟨_, (true), (by first | rfl | (simp; done) | (simp [*]; done)), H', ⟨by first | omega | exact Nat.le_refl _⟩, ⟨by repeat (first | (with_reducible first | exact HI615.out | apply IsS97.alloc | apply IsS97.drewN | apply IsS97.drew | apply IsS97.set_1 | apply IsS97.set_2) | exact HI615.out)⟩, ⟨by repeat (first | (with_reducible first | exact HB.out | apply pbA_ | apply pbN_ | apply pb1_ | refine below_set ?_ (IsS97.ge HI615.out)) | exact HB.out)⟩⟩
   ·rw [if_neg c15] at H
    have c15b0 : (t616 == 0) = false := beq_eq_false_iff_ne.mpr c15
    have c15b1 : (t616 != 0) = true := bne_iff_ne.mpr c15
    (first | rw [c15b0] | (simp only [i64_w, i32_w]; rw [c15b0]) | skip)
    replace H := Option.bind_eq_some_iff.mp H
    obtain ⟨t628, A180, H⟩ := H
    replace H : (dragnetref04_TakeBlock.j0 k l0 t616 t619 t622 t625 (decide (t628 > (wrap64 ((l0.length : Int) - t626)))) l0 t626 false) = some (r1, r2, r3) := H
    have A18 := Aside0.mk A180
    clear A180
    have H' := Aside0.mk H
    clear H
    try go_wp2
    (try (rw [drewN_self w11]; generalize hq_ : World.drewN w11 _ = w11; have n0_ : Aside0 (IsS97 w w11 gb615 l0 t626 false) := ⟨by rw [← hq_]; exact (by repeat (first | (with_reducible first | exact HI615.out | apply IsS97.alloc | apply IsS97.drewN | apply IsS97.drew | apply IsS97.set_1 | apply IsS97.set_2) | exact HI615.out))⟩; have n1_ : Aside0 (Below w.heap.size w w11) := ⟨by rw [← hq_]; exact (by repeat (first | (with_reducible first | exact HB.out | apply pbA_ | apply pbN_ | apply pb1_ | refine below_set ?_ (IsS97.ge HI615.out)) | exact HB.out))⟩; clear HI615 HB hq_; have HI615 := n0_; have HB := n1_; clear n0_ n1_))
    have n0_ := Aside0.mk (IsS97.drew HI615.out)
    have n1_ := Aside0.mk (pb1_ HB.out)
    clear HI615
    clear HB
    have HI615 := n0_
    have HB := n1_
    clear n0_ n1_
    obtain ⟨ASz20_0, cSz20_0, HGz20, hgz20, HSz20_0⟩ := HI615.out
    have hcz20_0 := cellS97_0 HGz20
    have hcz20_1 := cellS97_1 HGz20
    have hcz20_2 := cellS97_2 HGz20
    have hfz20_1 := blk_frozen HGz20 1
    have hfz20_2 := blk_frozen HGz20 2
    clear HGz20 hgz20
    refine start_ (n := 21) (S := fun w' => w'.cell? ⟨gb615, 0, none⟩ = some (.slice ASz20_0 l0.length cSz20_0) ∧ w'.cell? ⟨gb615, 1, none⟩ = some (.int .i64 t626) ∧ w'.cell? ⟨gb615, 2, none⟩ = some (.bool false)) (ds := []) #[false, false, false, false, false, false, false, false, false, false, false, false, false, false, false, false, false, false, false, false, false] (by kernel_rfl) rfl rfl ⟨hcz20_0, hcz20_1, hcz20_2⟩ (fun hHeld => ?_); refine with_tabW dragnetref04_TakeBlock.tab6 dragnetref04_TakeBlock.bits6 (fun HT_ HW_ => ?_)
    generalize w11.drew = w19 at HI615 HB hHeld ⊢
    refine pu_ (i := 0) (N := some 27) HT_ #[true, false, false, false, false, false, false, false, false, false, false, false, false, false, false, false, false, false, false, false, false] ?_
    refine pu_ (i := 1) (N := some 28) HT_ #[true, true, false, false, false, false, false, false, false, false, false, false, false, false, false, false, false, false, false, false, false] ?_
    refine pu_ (i := 2) (N := some 29) HT_ #[true, true, true, false, false, false, false, false, false, false, false, false, false, false, false, false, false, false, false, false, false] ?_
    refine ta_ (i := 3) (N := some 30) HT_ HW_ #[true, true, true, true, false, false, false, false, false, false, false, false, false, false, false, false, false, false, false, false, false] hHeld ?_
    refine pu_ (i := 4) (N := some 31) HT_ #[true, true, true, true, true, false, false, false, false, false, false, false, false, false, false, false, false, false, false, false, false] ?_
    refine pu_ (i := 5) (N := some 32) HT_ #[true, true, true, true, true, true, false, false, false, false, false, false, false, false, false, false, false, false, false, false, false] ?_
    refine pu_ (i := 6) (N := some 33) HT_ #[true, true, true, true, true, true, true, false, false, false, false, false, false, false, false, false, false, false, false, false, false] ?_
    refine pu_ (i := 7) (N := some 34) HT_ #[true, true, true, true, true, true, true, true, false, false, false, false, false, false, false, false, false, false, false, false, false] ?_
    refine pu_ (i := 8) (N := some 35) HT_ #[true, true, true, true, true, true, true, true, true, false, false, false, false, false, false, false, false, false, false, false, false] ?_
    refine pu_ (i := 9) (N := some 36) HT_ #[true, true, true, true, true, true, true, true, true, true, false, false, false, false, false, false, false, false, false, false, false] ?_
    refine pu_ (i := 10) (N := some 37) HT_ #[true, true, true, true, true, true, true, true, true, true, true, false, false, false, false, false, false, false, false, false, false] ?_
    refine pu_ (i := 12) (N := some 39) HT_ #[true, true, true, true, true, true, true, true, true, true, true, false, true, false, false, false, false, false, false, false, false] ?_
    refine pu_ (i := 13) (N := some 40) HT_ #[true, true, true, true, true, true, true, true, true, true, true, false, true, true, false, false, false, false, false, false, false] ?_
    refine pu_ (i := 14) (N := some 41) HT_ #[true, true, true, true, true, true, true, true, true, true, true, false, true, true, true, false, false, false, false, false, false] ?_
    refine pu_ (i := 15) (N := some 42) HT_ #[true, true, true, true, true, true, true, true, true, true, true, false, true, true, true, true, false, false, false, false, false] ?_
    refine pu_ (i := 16) (N := some 43) HT_ #[true, true, true, true, true, true, true, true, true, true, true, false, true, true, true, true, true, false, false, false, false] ?_
    refine ta_ (i := 17) (N := some 44) HT_ HW_ #[true, true, true, true, true, true, true, true, true, true, true, false, true, true, true, true, true, true, false, false, false] hHeld ?_
    refine pu_ (i := 18) (N := some 45) HT_ #[true, true, true, true, true, true, true, true, true, true, true, false, true, true, true, true, true, true, true, false, false] ?_
    refine one_ (i := 11) (N := some 38) #[tT,tT,tT,tT,tT,tT,tT,tT,tT,tT,tT,tT,tT,tT,tT,tT,tT,tT,tT,fF,fF] rfl rfl (one_of HT_.out (by kernel_rfl)) (by decide) (fun K hK => ?_)
    refine goes_ Try.func42 (by kernel_rfl) rfl #[.int .i64 t616, .int .i64 t622] (by rfl) rfl rfl (by (try simp only [List.map_toArray, List.map_cons, List.map_nil]); first | done | rfl | (simp only [List.length_drop, List.length_take]; rfl)) ?_
    with_reducible refine (dragnetref03_Size.calls t616 t622 t628 _ A18.out).mono ?_
    rintro e w' ⟨rfl, ⟨nd, rfl⟩⟩
    refine ⟨_, rfl, ?_⟩
    refine hK.out _ _ ⟨hHeld.1, hHeld.2.1, hHeld.2.2⟩ (fun hHeld => ?_)
    clear hK K
    refine norm_ (a' := ?_) ?_ ?_
    rotate_left
    ·show Act.put _ (some 38) _ = _
     simp only [Act.put, List.setIfInBounds_toArray, List.set_cons_zero, List.set_cons_succ, i64_w, i32_w]
     rfl
    refine pu_ (i := 19) (N := some 46) HT_ #[true, true, true, true, true, true, true, true, true, true, true, true, true, true, true, true, true, true, true, true, false] ?_
    refine pu_ (i := 20) (N := some 47) HT_ #[true, true, true, true, true, true, true, true, true, true, true, true, true, true, true, true, true, true, true, true, true] ?_
    refine done_ (done_of HT_.out (by kernel_rfl)) ?_
    try go_wp2
    go_meet
    case rel => exact ⟨_, (decide (t628 > (wrap64 ((l0.length : Int) - t626)))), (by first | rfl | (simp; done) | (simp [*]; done)), H', ⟨by first | omega | exact Nat.le_refl _⟩, ⟨by repeat (first | (with_reducible first | exact HI615.out | apply IsS97.alloc | apply IsS97.drewN | apply IsS97.drew | apply IsS97.set_1 | apply IsS97.set_2) | exact HI615.out)⟩, ⟨by repeat (first | (with_reducible first | exact HB.out | apply pbA_ | apply pbN_ | apply pb1_ | refine below_set ?_ (IsS97.ge HI615.out)) | exact HB.out)⟩⟩
 case rest =>
  clear HC6
  try clear c1
  try clear p2
  try clear c4
  try clear c6
  try clear p6
  try clear c7
  try clear c12
  try clear c15
  try clear c15b0
  try clear c15b1
  try clear hcz14_0
  try clear hcz14_1
  try clear hcz14_2
  try clear hcz17_0
  try clear hcz17_1
  try clear hcz17_2
  try clear hcz20_0
  try clear hcz20_1
  try clear hcz20_2
  try clear hfz14_1
  try clear hfz14_2
  try clear hfz17_1
  try clear hfz17_2
  try clear hfz20_1
  try clear hfz20_2
  obtain ⟨kq, x47_5, rfl, HA, HJ5, HI615, HB⟩ := hcut
  cases kq with
  | zero => exact absurd HA.out (by simp [dragnetref04_TakeBlock.j0])
  | succ kj5 =>
   have H := HA.out
   clear HA
   simp only [dragnetref04_TakeBlock.j0] at H
   by_cases c21 : x47_5 = true
   ·subst c21
    have H1 : (some (([] : List Int), 0, 2)) = some (r1, r2, r3) := by rw [if_pos rfl] at H; exact H
    clear H
    have H := H1
    clear H1
    simp only [Option.some.injEq, Prod.mk.injEq] at H
    obtain ⟨rfl, rfl, rfl⟩ := H
    go_wp2
    go_ret3
    exact ⟨_, rf_, ni_, by repeat (first | (with_reducible first | exact HB.out | apply pbA_ | apply pbN_ | apply pb1_ | refine below_set ?_ (IsS97.ge HI615.out)) | exact HB.out)⟩
   ·replace c21 := Bool.eq_false_iff.mpr c21
    subst c21
    have H1 : ((dragnetref03_Size.f t616 t622).bind fun t629 => (if 0 ≤ t626 then (if t626 ≤ (wrap64 (t626 + t629)) then (if (wrap64 (t626 + t629)) ≤ (l0.length : Int) then ((dragnetref03_Unpack.f kj5 ((l0.take ((wrap64 (t626 + t629)) : Int).toNat).drop (t626 : Int).toNat) t616 t622).bind fun bt631 => (if bt631.2 = 0 then (dragnetref04_TakeBlock.l0 kj5 l0 t616 t619 t622 t625 bt631.1 l0 (wrap64 (t626 + t629)) t627) else (some (([] : List Int), 0, 2)))) else (none)) else (none)) else (none))) = some (r1, r2, r3) := by rw [if_neg (show ¬ (false = true) by decide)] at H; exact H
    clear H
    have H := H1
    clear H1
    replace H := Option.bind_eq_some_iff.mp H
    obtain ⟨t629, A220, H⟩ := H
    replace H : (if 0 ≤ t626 then (if t626 ≤ (wrap64 (t626 + t629)) then (if (wrap64 (t626 + t629)) ≤ (l0.length : Int) then ((dragnetref03_Unpack.f kj5 ((l0.take ((wrap64 (t626 + t629)) : Int).toNat).drop (t626 : Int).toNat) t616 t622).bind fun bt631 => (if bt631.2 = 0 then (dragnetref04_TakeBlock.l0 kj5 l0 t616 t619 t622 t625 bt631.1 l0 (wrap64 (t626 + t629)) t627) else (some (([] : List Int), 0, 2)))) else (none)) else (none)) else (none)) = some (r1, r2, r3) := H
    have A22 := Aside0.mk A220
    clear A220
    by_cases c23 : 0 ≤ t626
    rotate_left
    ·rw [if_neg c23] at H
     exact absurd H (by simp)
    rw [if_pos c23] at H
    have c23b0 := eq_true c23
    have c23b1 : decide (0 ≤ t626) = true := decide_eq_true c23
    clear c23
    by_cases c24 : t626 ≤ (wrap64 (t626 + t629))
    rotate_left
    ·rw [if_neg c24] at H
     exact absurd H (by simp)
    rw [if_pos c24] at H
    have c24b0 := eq_true c24
    have c24b1 : decide (t626 ≤ (wrap64 (t626 + t629))) = true := decide_eq_true c24
    by_cases c25 : (wrap64 (t626 + t629)) ≤ (l0.length : Int)
    rotate_left
    ·rw [if_neg c25] at H
     exact absurd H (by simp)
    rw [if_pos c25] at H
    have c25b0 := eq_true c25
    have c25b1 : decide ((wrap64 (t626 + t629)) ≤ (l0.length : Int)) = true := decide_eq_true c25
    replace H := Option.bind_eq_some_iff.mp H
    obtain ⟨⟨t631, t632⟩, A260, H⟩ := H
    replace H : (if t632 = 0 then (dragnetref04_TakeBlock.l0 kj5 l0 t616 t619 t622 t625 t631 l0 (wrap64 (t626 + t629)) t627) else (some (([] : List Int), 0, 2))) = some (r1, r2, r3) := H
    have A26 := Aside0.mk A260
    clear A260
    by_cases c27 : t632 = 0
    rotate_left
    ·rw [if_neg c27] at H
     have c27b0 : (t632 == 0) = false := beq_eq_false_iff_ne.mpr c27
     have c27b1 : (t632 != 0) = true := bne_iff_ne.mpr c27
     simp only [Option.some.injEq, Prod.mk.injEq] at H
     obtain ⟨rfl, rfl, rfl⟩ := H
     try go_wp2
     (try (rw [drewN_self wc]; generalize hq_ : World.drewN wc _ = wc; have n0_ : Aside0 (IsS97 w wc gb615 l0 t626 t627) := ⟨by rw [← hq_]; exact (by repeat (first | (with_reducible first | exact HI615.out | apply IsS97.alloc | apply IsS97.drewN | apply IsS97.drew | apply IsS97.set_1 | apply IsS97.set_2) | exact HI615.out))⟩; have n1_ : Aside0 (Below w.heap.size w wc) := ⟨by rw [← hq_]; exact (by repeat (first | (with_reducible first | exact HB.out | apply pbA_ | apply pbN_ | apply pb1_ | refine below_set ?_ (IsS97.ge HI615.out)) | exact HB.out))⟩; clear HI615 HB hq_; have HI615 := n0_; have HB := n1_; clear n0_ n1_))
     have n0_ := Aside0.mk (IsS97.drew HI615.out)
     have n1_ := Aside0.mk (pb1_ HB.out)
     clear HI615
     clear HB
     have HI615 := n0_
     have HB := n1_
     clear n0_ n1_
     obtain ⟨ASz86_0, cSz86_0, HGz86, hgz86, HSz86_0⟩ := HI615.out
     have hcz86_0 := cellS97_0 HGz86
     have hcz86_1 := cellS97_1 HGz86
     have hcz86_2 := cellS97_2 HGz86
     have hfz86_1 := blk_frozen HGz86 1
     have hfz86_2 := blk_frozen HGz86 2
     clear HGz86 hgz86
     refine start_ (n := 9) (S := fun w' => w'.cell? ⟨gb615, 0, none⟩ = some (.slice ASz86_0 l0.length cSz86_0) ∧ w'.cell? ⟨gb615, 1, none⟩ = some (.int .i64 t626) ∧ w'.cell? ⟨gb615, 2, none⟩ = some (.bool t627)) (ds := []) #[false, false, false, false, false, false, false, false, false] (by kernel_rfl) rfl rfl ⟨hcz86_0, hcz86_1, hcz86_2⟩ (fun hHeld => ?_); refine with_tabW dragnetref04_TakeBlock.tab8 dragnetref04_TakeBlock.bits8 (fun HT_ HW_ => ?_)
     generalize wc.drew = w85 at HI615 HB hHeld ⊢
     refine pu_ (i := 0) (N := some 48) HT_ #[true, false, false, false, false, false, false, false, false] ?_
     refine pu_ (i := 1) (N := some 49) HT_ #[true, true, false, false, false, false, false, false, false] ?_
     refine pu_ (i := 2) (N := some 50) HT_ #[true, true, true, false, false, false, false, false, false] ?_
     refine pu_ (i := 4) (N := some 52) HT_ #[true, true, true, false, true, false, false, false, false] ?_
     refine pu_ (i := 5) (N := some 53) HT_ #[true, true, true, false, true, true, false, false, false] ?_
     refine ta_ (i := 3) (N := some 51) HT_ HW_ #[true, true, true, true, true, true, false, false, false] hHeld ?_
     refine one_ (i := 6) (N := some 54) #[tT,tT,tT,tT,tT,tT,tT,fF,fF] rfl rfl (one_of HT_.out (by kernel_rfl)) (by decide) (fun K hK => ?_)
     refine goes_ Try.func42 (by kernel_rfl) rfl #[.int .i64 t616, .int .i64 t622] (by rfl) rfl rfl (by (try simp only [List.map_toArray, List.map_cons, List.map_nil]); first | done | rfl | (simp only [List.length_drop, List.length_take]; rfl)) ?_
     with_reducible refine (dragnetref03_Size.calls t616 t622 t629 _ A22.out).mono ?_
     rintro e w' ⟨rfl, ⟨nd, rfl⟩⟩
     refine ⟨_, rfl, ?_⟩
     refine hK.out _ _ ⟨hHeld.1, hHeld.2.1, hHeld.2.2⟩ (fun hHeld => ?_)
     clear hK K
     refine norm_ (a' := ?_) ?_ ?_
     rotate_left
     ·show Act.put _ (some 54) _ = _
      simp only [Act.put, List.setIfInBounds_toArray, List.set_cons_zero, List.set_cons_succ, i64_w, i32_w]
      rfl
     refine pu_ (i := 7) (N := some 55) HT_ #[true, true, true, true, true, true, true, true, false] ?_
     refine pu_ (i := 8) (N := some 10) HT_ #[true, true, true, true, true, true, true, true, true] ?_
     refine done_ (done_of HT_.out (by kernel_rfl)) ?_
     obtain ⟨i087, hi087, _, hsz87, _⟩ := info_parts info5
     obtain ⟨A87, hcut87, hA87, hC87⟩ := print_mid_of (P := Try.prog) (Value.int .u8) 0 22 5 .i64 .i64 Try.underlying22 hi087 hsz87 A0 c0 l0 t626 (wrap64 (t626 + t629)) od_ (by first | omega | exact od_) od_ HC0.out
     have HR630 := Aside0.mk (Kd.C_of_reads (h1 := fun _ => rfl) (hA87 _ (Kd.reads_of_C HR0.out)))
     have HC630 := Aside0.mk hC87
     clear hA87 hC87 hi087 hsz87
     try go_wp2_with (first | ((with_reducible refine gaC_ (f := 43) rfl ?_); refine goesL_ (some 66) rfl rfl Try.func43 (by kernel_rfl) rfl #[.slice A87 ((l0.take ((wrap64 (t626 + t629)) : Int).toNat).drop (t626 : Int).toNat).length (c0 - t626.toNat), .int .i64 t616, .int .i64 t622] rfl (by (try simp only [List.map_toArray, List.map_cons, List.map_nil]); first | done | (rw [show ((l0.take ((wrap64 (t626 + t629)) : Int).toNat).drop (t626 : Int).toNat).length = ((wrap64 (t626 + t629)).toNat - t626.toNat) from (by rw [List.length_drop, List.length_take]; have h_ : ((wrap64 (t626 + t629)) : Int) ≤ (l0.length : Int) := od_; omega)] <;> rfl) | rfl | (simp only [List.length_drop, List.length_take]; rfl)) ?_; (with_reducible refine (dragnetref03_Unpack.calls kj5 _ _ ((l0.take ((wrap64 (t626 + t629)) : Int).toNat).drop (t626 : Int).toNat) t616 t622 t631 t632 _ ?side1 ?side2 A26.out).mono ?_); (case side1 => repeat (first | exact (Kd.C_below HR630.out (by repeat (first | (with_reducible first | exact HB.out | apply pbA_ | apply pbN_ | apply pb1_ | refine below_set ?_ (IsS97.ge HI615.out)) | exact HB.out))) | (with_reducible refine Kd.cA_ ?_ _) | (with_reducible refine Kd.cN_ ?_ _) | (with_reducible refine Kd.cD_ ?_))); (case side2 => exact HC630.out); rintro e w88 ⟨v633, rfl, ho0, hb⟩; refine ⟨_, rfl, ?_⟩; have n0_ := Aside0.mk (Kd.R_lower ho0 (pbS_ (by repeat (first | (with_reducible first | exact HB.out | apply pbA_ | apply pbN_ | apply pb1_ | refine below_set ?_ (IsS97.ge HI615.out)) | exact HB.out)))); have n1_ := Aside0.mk (IsS97.below (by repeat (first | (with_reducible first | exact HI615.out | apply IsS97.alloc | apply IsS97.drewN | apply IsS97.drew | apply IsS97.set_1 | apply IsS97.set_2) | exact HI615.out)) hb); have n2_ := Aside0.mk (below_step (by repeat (first | (with_reducible first | exact HB.out | apply pbA_ | apply pbN_ | apply pb1_ | refine below_set ?_ (IsS97.ge HI615.out)) | exact HB.out)) hb); clear HI615; clear HB; have HO634 := n0_; have HI615 := n1_; have HB := n2_; clear n0_ n1_ n2_; (try clear hb); (try clear hb2); (try clear hk); (try clear hi); (try clear ho0)))
     go_ret3
     exact ⟨_, rf_, ni_, by repeat (first | (with_reducible first | exact HB.out | apply pbA_ | apply pbN_ | apply pb1_ | refine below_set ?_ (IsS97.ge HI615.out)) | exact HB.out)⟩
    rw [if_pos c27] at H
    have c27b0 : (t632 == 0) = true := beq_iff_eq.mpr c27
    have c27b1 : (t632 != 0) = false := bne_eq_false_iff_eq.mpr c27
    clear c27
    have H' := Aside0.mk H
    clear H
    try go_wp2
    (try (rw [drewN_self wc]; generalize hq_ : World.drewN wc _ = wc; have n0_ : Aside0 (IsS97 w wc gb615 l0 t626 t627) := ⟨by rw [← hq_]; exact (by repeat (first | (with_reducible first | exact HI615.out | apply IsS97.alloc | apply IsS97.drewN | apply IsS97.drew | apply IsS97.set_1 | apply IsS97.set_2) | exact HI615.out))⟩; have n1_ : Aside0 (Below w.heap.size w wc) := ⟨by rw [← hq_]; exact (by repeat (first | (with_reducible first | exact HB.out | apply pbA_ | apply pbN_ | apply pb1_ | refine below_set ?_ (IsS97.ge HI615.out)) | exact HB.out))⟩; clear HI615 HB hq_; have HI615 := n0_; have HB := n1_; clear n0_ n1_))
    have n0_ := Aside0.mk (IsS97.drew HI615.out)
    have n1_ := Aside0.mk (pb1_ HB.out)
    clear HI615
    clear HB
    have HI615 := n0_
    have HB := n1_
    clear n0_ n1_
    obtain ⟨ASz29_0, cSz29_0, HGz29, hgz29, HSz29_0⟩ := HI615.out
    have hcz29_0 := cellS97_0 HGz29
    have hcz29_1 := cellS97_1 HGz29
    have hcz29_2 := cellS97_2 HGz29
    have hfz29_1 := blk_frozen HGz29 1
    have hfz29_2 := blk_frozen HGz29 2
    clear HGz29 hgz29
    refine start_ (n := 9) (S := fun w' => w'.cell? ⟨gb615, 0, none⟩ = some (.slice ASz29_0 l0.length cSz29_0) ∧ w'.cell? ⟨gb615, 1, none⟩ = some (.int .i64 t626) ∧ w'.cell? ⟨gb615, 2, none⟩ = some (.bool t627)) (ds := []) #[false, false, false, false, false, false, false, false, false] (by kernel_rfl) rfl rfl ⟨hcz29_0, hcz29_1, hcz29_2⟩ (fun hHeld => ?_); refine with_tabW dragnetref04_TakeBlock.tab8 dragnetref04_TakeBlock.bits8 (fun HT_ HW_ => ?_)
    generalize wc.drew = w28 at HI615 HB hHeld ⊢
    refine pu_ (i := 0) (N := some 48) HT_ #[true, false, false, false, false, false, false, false, false] ?_
    refine pu_ (i := 1) (N := some 49) HT_ #[true, true, false, false, false, false, false, false, false] ?_
    refine pu_ (i := 2) (N := some 50) HT_ #[true, true, true, false, false, false, false, false, false] ?_
    refine pu_ (i := 4) (N := some 52) HT_ #[true, true, true, false, true, false, false, false, false] ?_
    refine pu_ (i := 5) (N := some 53) HT_ #[true, true, true, false, true, true, false, false, false] ?_
    refine ta_ (i := 3) (N := some 51) HT_ HW_ #[true, true, true, true, true, true, false, false, false] hHeld ?_
    refine one_ (i := 6) (N := some 54) #[tT,tT,tT,tT,tT,tT,tT,fF,fF] rfl rfl (one_of HT_.out (by kernel_rfl)) (by decide) (fun K hK => ?_)
    refine goes_ Try.func42 (by kernel_rfl) rfl #[.int .i64 t616, .int .i64 t622] (by rfl) rfl rfl (by (try simp only [List.map_toArray, List.map_cons, List.map_nil]); first | done | rfl | (simp only [List.length_drop, List.length_take]; rfl)) ?_
    with_reducible refine (dragnetref03_Size.calls t616 t622 t629 _ A22.out).mono ?_
    rintro e w' ⟨rfl, ⟨nd, rfl⟩⟩
    refine ⟨_, rfl, ?_⟩
    refine hK.out _ _ ⟨hHeld.1, hHeld.2.1, hHeld.2.2⟩ (fun hHeld => ?_)
    clear hK K
    refine norm_ (a' := ?_) ?_ ?_
    rotate_left
    ·show Act.put _ (some 54) _ = _
     simp only [Act.put, List.setIfInBounds_toArray, List.set_cons_zero, List.set_cons_succ, i64_w, i32_w]
     rfl
    refine pu_ (i := 7) (N := some 55) HT_ #[true, true, true, true, true, true, true, true, false] ?_
    refine pu_ (i := 8) (N := some 10) HT_ #[true, true, true, true, true, true, true, true, true] ?_
    refine done_ (done_of HT_.out (by kernel_rfl)) ?_
    obtain ⟨i030, hi030, _, hsz30, _⟩ := info_parts info5
    obtain ⟨A30, hcut30, hA30, hC30⟩ := print_mid_of (P := Try.prog) (Value.int .u8) 0 22 5 .i64 .i64 Try.underlying22 hi030 hsz30 A0 c0 l0 t626 (wrap64 (t626 + t629)) od_ (by first | omega | exact od_) od_ HC0.out
    have HR630 := Aside0.mk (Kd.C_of_reads (h1 := fun _ => rfl) (hA30 _ (Kd.reads_of_C HR0.out)))
    have HC630 := Aside0.mk hC30
    clear hA30 hC30 hi030 hsz30
    try go_wp2_with (first | ((with_reducible refine gaC_ (f := 43) rfl ?_); refine goesL_ (some 66) rfl rfl Try.func43 (by kernel_rfl) rfl #[.slice A30 ((l0.take ((wrap64 (t626 + t629)) : Int).toNat).drop (t626 : Int).toNat).length (c0 - t626.toNat), .int .i64 t616, .int .i64 t622] rfl (by (try simp only [List.map_toArray, List.map_cons, List.map_nil]); first | done | (rw [show ((l0.take ((wrap64 (t626 + t629)) : Int).toNat).drop (t626 : Int).toNat).length = ((wrap64 (t626 + t629)).toNat - t626.toNat) from (by rw [List.length_drop, List.length_take]; have h_ : ((wrap64 (t626 + t629)) : Int) ≤ (l0.length : Int) := od_; omega)] <;> rfl) | rfl | (simp only [List.length_drop, List.length_take]; rfl)) ?_; (with_reducible refine (dragnetref03_Unpack.calls kj5 _ _ ((l0.take ((wrap64 (t626 + t629)) : Int).toNat).drop (t626 : Int).toNat) t616 t622 t631 t632 _ ?side1 ?side2 A26.out).mono ?_); (case side1 => repeat (first | exact (Kd.C_below HR630.out (by repeat (first | (with_reducible first | exact HB.out | apply pbA_ | apply pbN_ | apply pb1_ | refine below_set ?_ (IsS97.ge HI615.out)) | exact HB.out))) | (with_reducible refine Kd.cA_ ?_ _) | (with_reducible refine Kd.cN_ ?_ _) | (with_reducible refine Kd.cD_ ?_))); (case side2 => exact HC630.out); rintro e w31 ⟨v633, rfl, ho0, hb⟩; refine ⟨_, rfl, ?_⟩; have n0_ := Aside0.mk (Kd.R_lower ho0 (pbS_ (by repeat (first | (with_reducible first | exact HB.out | apply pbA_ | apply pbN_ | apply pb1_ | refine below_set ?_ (IsS97.ge HI615.out)) | exact HB.out)))); have n1_ := Aside0.mk (IsS97.below (by repeat (first | (with_reducible first | exact HI615.out | apply IsS97.alloc | apply IsS97.drewN | apply IsS97.drew | apply IsS97.set_1 | apply IsS97.set_2) | exact HI615.out)) hb); have n2_ := Aside0.mk (below_step (by repeat (first | (with_reducible first | exact HB.out | apply pbA_ | apply pbN_ | apply pb1_ | refine below_set ?_ (IsS97.ge HI615.out)) | exact HB.out)) hb); clear HI615; clear HB; have HO634 := n0_; have HI615 := n1_; have HB := n2_; clear n0_ n1_ n2_; (try clear hb); (try clear hb2); (try clear hk); (try clear hi); (try clear ho0); obtain ⟨ASz32_0, cSz32_0, HGz32, hgz32, HSz32_0⟩ := HI615.out; have hcz32_0 := cellS97_0 HGz32; have hcz32_1 := cellS97_1 HGz32; have hcz32_2 := cellS97_2 HGz32; have hfz32_1 := blk_frozen HGz32 1; have hfz32_2 := blk_frozen HGz32 2; clear HGz32 hgz32))
    go_loopg [9] kj5 (fun kq v9 w' => ∃ (x9_2 : Int) (x11_2 : List Int) (x616001_2 : Int) (x616002_2 : Bool), v9 = .int .i64 x9_2 ∧ Aside0 (dragnetref04_TakeBlock.l0 kq l0 t616 t619 t622 x9_2 x11_2 l0 x616001_2 x616002_2 = some (r1, r2, r3)) ∧ Aside0 (kq ≤ kj5) ∧ Aside0 (Kd.R (Kd.int .u64) 50 w' w.heap.size (fun _ => True) v633 x11_2) ∧ Aside0 (IsS97 w w' gb615 l0 x616001_2 x616002_2) ∧ Aside0 (Below w.heap.size w w'))
    case atStart => exact ⟨(t625), (t631), (wrap64 (t626 + t629)), (t627), (by first | rfl | (simp; done) | (simp [*]; done)), H', ⟨Nat.le_refl _⟩, ⟨by (with_reducible repeat (first | apply Kd.rA_ | apply Kd.rN_ | apply Kd.rD_)); exact Kd.R_mono (Kd.R_far (p := ⟨gb615, 1, none⟩) (IsS97.apart HI615.out HO634.out (by decide)) (fun _ hk => hk.2) (.int .i64 (wrap64 (t626 + t629)))) (fun _ hk => trivial)⟩, ⟨by repeat (first | (with_reducible first | exact HI615.out | apply IsS97.alloc | apply IsS97.drewN | apply IsS97.drew | apply IsS97.set_1 | apply IsS97.set_2) | exact HI615.out)⟩, ⟨by repeat (first | (with_reducible first | exact HB.out | apply pbA_ | apply pbN_ | apply pb1_ | refine below_set ?_ (IsS97.ge HI615.out)) | exact HB.out)⟩⟩
    case round =>
     clear H'
     try clear c1
     try clear c2
     try clear p2
     try clear c4
     try clear c6
     try clear p6
     try clear c7
     try clear c12
     try clear c15
     try clear c15b0
     try clear c15b1
     try clear c21
     try clear c23
     try clear c23b0
     try clear c23b1
     try clear c24
     try clear c24b0
     try clear c24b1
     try clear c25
     try clear c25b0
     try clear c25b1
     try clear c27
     try clear c27b0
     try clear c27b1
     try clear hcz14_0
     try clear hcz14_1
     try clear hcz14_2
     try clear hcz17_0
     try clear hcz17_1
     try clear hcz17_2
     try clear hcz20_0
     try clear hcz20_1
     try clear hcz20_2
     try clear hcz29_0
     try clear hcz29_1
     try clear hcz29_2
     try clear hcz32_0
     try clear hcz32_1
     try clear hcz32_2
     try clear hfz14_1
     try clear hfz14_2
     try clear hfz17_1
     try clear hfz17_2
     try clear hfz20_1
     try clear hfz20_2
     try clear hfz29_1
     try clear hfz29_2
     try clear hfz32_1
     try clear hfz32_2
     try clear p2
     try clear p6
     obtain ⟨x9_2, x11_2, x616001_2, x616002_2, rfl, HA, HK2, HO_11, HI615, HB⟩ := hrel
     cases gk with
     | zero => exact absurd HA.out (by simp [dragnetref04_TakeBlock.l0])
     | succ k2 =>
      have H := HA.out
      clear HA
      simp only [dragnetref04_TakeBlock.l0] at H
      by_cases c33 : x9_2 > 0
      ·rw [if_pos c33] at H
       have c33b0 : decide (0 < x9_2) = true := decide_eq_true c33
       clear c33
       replace H := Option.bind_eq_some_iff.mp H
       obtain ⟨⟨t635, t636, t637⟩, A340, H⟩ := H
       replace H : ((dragnetref02_Reader_Number.f k2 l0 t636 t637 18446744073709551615).bind fun bt638 => (if bt638.2.2 = true then (some (([] : List Int), 0, 2)) else (if t635 ≥ t616 then (some (([] : List Int), 0, 2)) else (if t622 = 64 then (some (([] : List Int), 0, 2)) else (if 0 ≤ t635 then (if t635 < (x11_2.length : Int) then (if 0 ≤ t622 then (dragnetref04_TakeBlock.l0 k2 l0 t616 t619 t622 (wrap64 (x9_2 - 1)) (x11_2.set (t635 : Int).toNat (IntKind.u64.wrap ((rd x11_2 t635) + (shl .u64 bt638.1 t622)))) l0 bt638.2.1 bt638.2.2) else (none)) else (none)) else (none)))))) = some (r1, r2, r3) := H
       have A34 := Aside0.mk A340
       clear A340
       replace H := Option.bind_eq_some_iff.mp H
       obtain ⟨⟨t638, t639, t640⟩, A350, H⟩ := H
       replace H : (if t640 = true then (some (([] : List Int), 0, 2)) else (if t635 ≥ t616 then (some (([] : List Int), 0, 2)) else (if t622 = 64 then (some (([] : List Int), 0, 2)) else (if 0 ≤ t635 then (if t635 < (x11_2.length : Int) then (if 0 ≤ t622 then (dragnetref04_TakeBlock.l0 k2 l0 t616 t619 t622 (wrap64 (x9_2 - 1)) (x11_2.set (t635 : Int).toNat (IntKind.u64.wrap ((rd x11_2 t635) + (shl .u64 t638 t622)))) l0 t639 t640) else (none)) else (none)) else (none))))) = some (r1, r2, r3) := H
       have A35 := Aside0.mk A350
       clear A350
       by_cases c36 : t640 = true
       ·subst c36
        have H1 : (some (([] : List Int), 0, 2)) = some (r1, r2, r3) := by rw [if_pos rfl] at H; exact H
        clear H
        have H := H1
        clear H1
        simp only [Option.some.injEq, Prod.mk.injEq] at H
        obtain ⟨rfl, rfl, rfl⟩ := H
        go_wp2_with (first | ((with_reducible refine gaC_ (f := 76) rfl ?_); refine goesL_ (some 80) rfl rfl Try.func76 (by kernel_rfl) rfl #[.pointer (some ⟨gb615, 0, none⟩), .int .i64 31] rfl (by (try simp only [List.map_toArray, List.map_cons, List.map_nil]); first | done | rfl | (simp only [List.length_drop, List.length_take]; rfl)) ?_; (with_reducible refine (dragnetref02_Reader_Count.calls k2 gb615 l0 x616001_2 x616002_2 31 t635 t636 t637 w _ ?side1 ?side2 A34.out).mono ?_); (case side1 => repeat (first | (with_reducible first | exact HI615.out | apply IsS97.alloc | apply IsS97.drewN | apply IsS97.drew | apply IsS97.set_1 | apply IsS97.set_2) | exact HI615.out)); (case side2 => repeat (first | (with_reducible first | exact HB.out | apply pbA_ | apply pbN_ | apply pb1_ | refine below_set ?_ (IsS97.ge HI615.out)) | exact HB.out)); rintro e w37 ⟨rfl, hi, hb, hk⟩; refine ⟨_, rfl, ?_⟩; replace HO_11 := Aside0.mk (Kd.R_mono (Kd.R_keep (IsS97.apart (show IsS97 w _ gb615 l0 x616001_2 x616002_2 from by repeat (first | (with_reducible first | exact HI615.out | apply IsS97.alloc | apply IsS97.drewN | apply IsS97.drew | apply IsS97.set_1 | apply IsS97.set_2) | exact HI615.out)) (Kd.ru_ HO_11.out) (by decide)) hk (fun _ h => h.2)) (fun _ h => h.1)); replace HB := Aside0.mk (hb); replace HI615 := Aside0.mk (hi); (try clear hb); (try clear hb2); (try clear hk); (try clear hi)) | ((with_reducible refine gaC_ (f := 77) rfl ?_); refine goesL_ (some 82) rfl rfl Try.func77 (by kernel_rfl) rfl #[.pointer (some ⟨gb615, 0, none⟩), .int .u64 18446744073709551615] rfl (by (try simp only [List.map_toArray, List.map_cons, List.map_nil]); first | done | rfl | (simp only [List.length_drop, List.length_take]; rfl)) ?_; (with_reducible refine (dragnetref02_Reader_Number.calls k2 gb615 l0 t636 t637 18446744073709551615 t638 t639 true w _ ?side1 ?side2 A35.out).mono ?_); (case side1 => repeat (first | (with_reducible first | exact HI615.out | apply IsS97.alloc | apply IsS97.drewN | apply IsS97.drew | apply IsS97.set_1 | apply IsS97.set_2) | exact HI615.out)); (case side2 => repeat (first | (with_reducible first | exact HB.out | apply pbA_ | apply pbN_ | apply pb1_ | refine below_set ?_ (IsS97.ge HI615.out)) | exact HB.out)); rintro e w38 ⟨rfl, hi, hb, hk⟩; refine ⟨_, rfl, ?_⟩; replace HO_11 := Aside0.mk (Kd.R_mono (Kd.R_keep (IsS97.apart (show IsS97 w _ gb615 l0 t636 t637 from by repeat (first | (with_reducible first | exact HI615.out | apply IsS97.alloc | apply IsS97.drewN | apply IsS97.drew | apply IsS97.set_1 | apply IsS97.set_2) | exact HI615.out)) (Kd.ru_ HO_11.out) (by decide)) hk (fun _ h => h.2)) (fun _ h => h.1)); replace HB := Aside0.mk (hb); replace HI615 := Aside0.mk (hi); (try clear hb); (try clear hb2); (try clear hk); (try clear hi); obtain ⟨ASz39_0, cSz39_0, HGz39, hgz39, HSz39_0⟩ := HI615.out; have hcz39_0 := cellS97_0 HGz39; have hcz39_1 := cellS97_1 HGz39; have hcz39_2 := cellS97_2 HGz39; have hfz39_1 := blk_frozen HGz39 1; have hfz39_2 := blk_frozen HGz39 2; clear HGz39 hgz39))
        go_ret3
        exact ⟨_, rf_, ni_, by repeat (first | (with_reducible first | exact HB.out | apply pbA_ | apply pbN_ | apply pb1_ | refine below_set ?_ (IsS97.ge HI615.out)) | exact HB.out)⟩
       ·replace c36 := Bool.eq_false_iff.mpr c36
        subst c36
        have H1 : (if t635 ≥ t616 then (some (([] : List Int), 0, 2)) else (if t622 = 64 then (some (([] : List Int), 0, 2)) else (if 0 ≤ t635 then (if t635 < (x11_2.length : Int) then (if 0 ≤ t622 then (dragnetref04_TakeBlock.l0 k2 l0 t616 t619 t622 (wrap64 (x9_2 - 1)) (x11_2.set (t635 : Int).toNat (IntKind.u64.wrap ((rd x11_2 t635) + (shl .u64 t638 t622)))) l0 t639 false) else (none)) else (none)) else (none)))) = some (r1, r2, r3) := by rw [if_neg (show ¬ (false = true) by decide)] at H; exact H
        clear H
        have H := H1
        clear H1
        by_cases c40 : t635 ≥ t616
        ·rw [if_pos c40] at H
         have c40b0 : decide (t616 ≤ t635) = true := decide_eq_true c40
         clear c40
         simp only [Option.some.injEq, Prod.mk.injEq] at H
         obtain ⟨rfl, rfl, rfl⟩ := H
         go_wp2_with (first | ((with_reducible refine gaC_ (f := 76) rfl ?_); refine goesL_ (some 80) rfl rfl Try.func76 (by kernel_rfl) rfl #[.pointer (some ⟨gb615, 0, none⟩), .int .i64 31] rfl (by (try simp only [List.map_toArray, List.map_cons, List.map_nil]); first | done | rfl | (simp only [List.length_drop, List.length_take]; rfl)) ?_; (with_reducible refine (dragnetref02_Reader_Count.calls k2 gb615 l0 x616001_2 x616002_2 31 t635 t636 t637 w _ ?side1 ?side2 A34.out).mono ?_); (case side1 => repeat (first | (with_reducible first | exact HI615.out | apply IsS97.alloc | apply IsS97.drewN | apply IsS97.drew | apply IsS97.set_1 | apply IsS97.set_2) | exact HI615.out)); (case side2 => repeat (first | (with_reducible first | exact HB.out | apply pbA_ | apply pbN_ | apply pb1_ | refine below_set ?_ (IsS97.ge HI615.out)) | exact HB.out)); rintro e w41 ⟨rfl, hi, hb, hk⟩; refine ⟨_, rfl, ?_⟩; replace HO_11 := Aside0.mk (Kd.R_mono (Kd.R_keep (IsS97.apart (show IsS97 w _ gb615 l0 x616001_2 x616002_2 from by repeat (first | (with_reducible first | exact HI615.out | apply IsS97.alloc | apply IsS97.drewN | apply IsS97.drew | apply IsS97.set_1 | apply IsS97.set_2) | exact HI615.out)) (Kd.ru_ HO_11.out) (by decide)) hk (fun _ h => h.2)) (fun _ h => h.1)); replace HB := Aside0.mk (hb); replace HI615 := Aside0.mk (hi); (try clear hb); (try clear hb2); (try clear hk); (try clear hi)) | ((with_reducible refine gaC_ (f := 77) rfl ?_); refine goesL_ (some 82) rfl rfl Try.func77 (by kernel_rfl) rfl #[.pointer (some ⟨gb615, 0, none⟩), .int .u64 18446744073709551615] rfl (by (try simp only [List.map_toArray, List.map_cons, List.map_nil]); first | done | rfl | (simp only [List.length_drop, List.length_take]; rfl)) ?_; (with_reducible refine (dragnetref02_Reader_Number.calls k2 gb615 l0 t636 t637 18446744073709551615 t638 t639 false w _ ?side1 ?side2 A35.out).mono ?_); (case side1 => repeat (first | (with_reducible first | exact HI615.out | apply IsS97.alloc | apply IsS97.drewN | apply IsS97.drew | apply IsS97.set_1 | apply IsS97.set_2) | exact HI615.out)); (case side2 => repeat (first | (with_reducible first | exact HB.out | apply pbA_ | apply pbN_ | apply pb1_ | refine below_set ?_ (IsS97.ge HI615.out)) | exact HB.out)); rintro e w42 ⟨rfl, hi, hb, hk⟩; refine ⟨_, rfl, ?_⟩; replace HO_11 := Aside0.mk (Kd.R_mono (Kd.R_keep (IsS97.apart (show IsS97 w _ gb615 l0 t636 t637 from by repeat (first | (with_reducible first | exact HI615.out | apply IsS97.alloc | apply IsS97.drewN | apply IsS97.drew | apply IsS97.set_1 | apply IsS97.set_2) | exact HI615.out)) (Kd.ru_ HO_11.out) (by decide)) hk (fun _ h => h.2)) (fun _ h => h.1)); replace HB := Aside0.mk (hb); replace HI615 := Aside0.mk (hi); (try clear hb); (try clear hb2); (try clear hk); (try clear hi); obtain ⟨ASz43_0, cSz43_0, HGz43, hgz43, HSz43_0⟩ := HI615.out; have hcz43_0 := cellS97_0 HGz43; have hcz43_1 := cellS97_1 HGz43; have hcz43_2 := cellS97_2 HGz43; have hfz43_1 := blk_frozen HGz43 1; have hfz43_2 := blk_frozen HGz43 2; clear HGz43 hgz43))
         go_ret3
         exact ⟨_, rf_, ni_, by repeat (first | (with_reducible first | exact HB.out | apply pbA_ | apply pbN_ | apply pb1_ | refine below_set ?_ (IsS97.ge HI615.out)) | exact HB.out)⟩
        ·rw [if_neg c40] at H
         have c40b0 : decide (t616 ≤ t635) = false := decide_eq_false c40
         clear c40
         by_cases c44 : t622 = 64
         ·rw [if_pos c44] at H
          have c44b0 : (t622 == 64) = true := beq_iff_eq.mpr c44
          have c44b1 : (t622 != 64) = false := bne_eq_false_iff_eq.mpr c44
          clear c44
          simp only [Option.some.injEq, Prod.mk.injEq] at H
          obtain ⟨rfl, rfl, rfl⟩ := H
          go_wp2_with (first | ((with_reducible refine gaC_ (f := 76) rfl ?_); refine goesL_ (some 80) rfl rfl Try.func76 (by kernel_rfl) rfl #[.pointer (some ⟨gb615, 0, none⟩), .int .i64 31] rfl (by (try simp only [List.map_toArray, List.map_cons, List.map_nil]); first | done | rfl | (simp only [List.length_drop, List.length_take]; rfl)) ?_; (with_reducible refine (dragnetref02_Reader_Count.calls k2 gb615 l0 x616001_2 x616002_2 31 t635 t636 t637 w _ ?side1 ?side2 A34.out).mono ?_); (case side1 => repeat (first | (with_reducible first | exact HI615.out | apply IsS97.alloc | apply IsS97.drewN | apply IsS97.drew | apply IsS97.set_1 | apply IsS97.set_2) | exact HI615.out)); (case side2 => repeat (first | (with_reducible first | exact HB.out | apply pbA_ | apply pbN_ | apply pb1_ | refine below_set ?_ (IsS97.ge HI615.out)) | exact HB.out)); rintro e w45 ⟨rfl, hi, hb, hk⟩; refine ⟨_, rfl, ?_⟩; replace HO_11 := Aside0.mk (Kd.R_mono (Kd.R_keep (IsS97.apart (show IsS97 w _ gb615 l0 x616001_2 x616002_2 from by repeat (first | (with_reducible first | exact HI615.out | apply IsS97.alloc | apply IsS97.drewN | apply IsS97.drew | apply IsS97.set_1 | apply IsS97.set_2) | exact HI615.out)) (Kd.ru_ HO_11.out) (by decide)) hk (fun _ h => h.2)) (fun _ h => h.1)); replace HB := Aside0.mk (hb); replace HI615 := Aside0.mk (hi); (try clear hb); (try clear hb2); (try clear hk); (try clear hi)) | ((with_reducible refine gaC_ (f := 77) rfl ?_); refine goesL_ (some 82) rfl rfl Try.func77 (by kernel_rfl) rfl #[.pointer (some ⟨gb615, 0, none⟩), .int .u64 18446744073709551615] rfl (by (try simp only [List.map_toArray, List.map_cons, List.map_nil]); first | done | rfl | (simp only [List.length_drop, List.length_take]; rfl)) ?_; (with_reducible refine (dragnetref02_Reader_Number.calls k2 gb615 l0 t636 t637 18446744073709551615 t638 t639 false w _ ?side1 ?side2 A35.out).mono ?_); (case side1 => repeat (first | (with_reducible first | exact HI615.out | apply IsS97.alloc | apply IsS97.drewN | apply IsS97.drew | apply IsS97.set_1 | apply IsS97.set_2) | exact HI615.out)); (case side2 => repeat (first | (with_reducible first | exact HB.out | apply pbA_ | apply pbN_ | apply pb1_ | refine below_set ?_ (IsS97.ge HI615.out)) | exact HB.out)); rintro e w46 ⟨rfl, hi, hb, hk⟩; refine ⟨_, rfl, ?_⟩; replace HO_11 := Aside0.mk (Kd.R_mono (Kd.R_keep (IsS97.apart (show IsS97 w _ gb615 l0 t636 t637 from by repeat (first | (with_reducible first | exact HI615.out | apply IsS97.alloc | apply IsS97.drewN | apply IsS97.drew | apply IsS97.set_1 | apply IsS97.set_2) | exact HI615.out)) (Kd.ru_ HO_11.out) (by decide)) hk (fun _ h => h.2)) (fun _ h => h.1)); replace HB := Aside0.mk (hb); replace HI615 := Aside0.mk (hi); (try clear hb); (try clear hb2); (try clear hk); (try clear hi); obtain ⟨ASz47_0, cSz47_0, HGz47, hgz47, HSz47_0⟩ := HI615.out; have hcz47_0 := cellS97_0 HGz47; have hcz47_1 := cellS97_1 HGz47; have hcz47_2 := cellS97_2 HGz47; have hfz47_1 := blk_frozen HGz47 1; have hfz47_2 := blk_frozen HGz47 2; clear HGz47 hgz47))
          go_ret3
          exact ⟨_, rf_, ni_, by repeat (first | (with_reducible first | exact HB.out | apply pbA_ | apply pbN_ | apply pb1_ | refine below_set ?_ (IsS97.ge HI615.out)) | exact HB.out)⟩
         ·rw [if_neg c44] at H
          have c44b0 : (t622 == 64) = false := beq_eq_false_iff_ne.mpr c44
          have c44b1 : (t622 != 64) = true := bne_iff_ne.mpr c44
          by_cases c48 : 0 ≤ t635
          rotate_left
          ·rw [if_neg c48] at H
           exact absurd H (by simp)
          rw [if_pos c48] at H
          have c48b0 : decide (0 ≤ t635) = true := decide_eq_true c48
          clear c48
          by_cases c49 : t635 < (x11_2.length : Int)
          rotate_left
          ·rw [if_neg c49] at H
           exact absurd H (by simp)
          rw [if_pos c49] at H
          have c49b0 : decide (t635 < (x11_2.length : Int)) = true := decide_eq_true c49
          clear c49
          by_cases c50 : 0 ≤ t622
          rotate_left
          ·rw [if_neg c50] at H
           exact absurd H (by simp)
          rw [if_pos c50] at H
          have c50b0 := eq_true c50
          have c50b1 : decide (0 ≤ t622) = true := decide_eq_true c50
          clear c50
          obtain ⟨ji51, hji51⟩ : ∃ j_ : Int, (shl .u64 t638 t622) = j_ := ⟨_, rfl⟩
          replace H : (dragnetref04_TakeBlock.l0 k2 l0 t616 t619 t622 (wrap64 (x9_2 - 1)) (x11_2.set (t635 : Int).toNat (IntKind.u64.wrap ((rd x11_2 t635) + (ji51)))) l0 t639 false) = some (r1, r2, r3) := by first | (rw [hji51] at H; exact H) | (simp only [hji51] at H ⊢; exact H)
          (try rw [hji51] at A34)
          (try rw [hji51] at A35)
          have hji51_ : (IntKind.u64.wrap (t638 * 2 ^ min t622.toNat 64)) = ji51 := hji51
          have hji51z : t622 ≤ 64 → (IntKind.u64.wrap (t638 * 2 ^ t622.toNat)) = ji51 := shl_small hji51
          obtain ⟨y642, hy642⟩ : ∃ y_ : List Int, y_ = (x11_2.set (t635 : Int).toNat (IntKind.u64.wrap ((rd x11_2 t635) + (ji51)))) := ⟨_, rfl⟩
          replace H : (dragnetref04_TakeBlock.l0 k2 l0 t616 t619 t622 (wrap64 (x9_2 - 1)) y642 l0 t639 false) = some (r1, r2, r3) := by first | (rw [hy642]; with_reducible exact H) | (have H2_ := (Option.bind_some _ _).symm.trans H; rw [hy642]; with_reducible exact H2_) | (have H2_ := (Option.bind_some _ _).symm.trans H; with_reducible exact H2_) | with_reducible exact H | (rw [hy642]; exact H) | exact H
          have Ny642 := Aside0.mk hy642
          clear hy642
          have H' := Aside0.mk H
          clear H
          try go_wp2_with (first | ((with_reducible refine gaC_ (f := 76) rfl ?_); refine goesL_ (some 80) rfl rfl Try.func76 (by kernel_rfl) rfl #[.pointer (some ⟨gb615, 0, none⟩), .int .i64 31] rfl (by (try simp only [List.map_toArray, List.map_cons, List.map_nil]); first | done | rfl | (simp only [List.length_drop, List.length_take]; rfl)) ?_; (with_reducible refine (dragnetref02_Reader_Count.calls k2 gb615 l0 x616001_2 x616002_2 31 t635 t636 t637 w _ ?side1 ?side2 A34.out).mono ?_); (case side1 => repeat (first | (with_reducible first | exact HI615.out | apply IsS97.alloc | apply IsS97.drewN | apply IsS97.drew | apply IsS97.set_1 | apply IsS97.set_2) | exact HI615.out)); (case side2 => repeat (first | (with_reducible first | exact HB.out | apply pbA_ | apply pbN_ | apply pb1_ | refine below_set ?_ (IsS97.ge HI615.out)) | exact HB.out)); rintro e w53 ⟨rfl, hi, hb, hk⟩; refine ⟨_, rfl, ?_⟩; replace HO_11 := Aside0.mk (Kd.R_mono (Kd.R_keep (IsS97.apart (show IsS97 w _ gb615 l0 x616001_2 x616002_2 from by repeat (first | (with_reducible first | exact HI615.out | apply IsS97.alloc | apply IsS97.drewN | apply IsS97.drew | apply IsS97.set_1 | apply IsS97.set_2) | exact HI615.out)) (Kd.ru_ HO_11.out) (by decide)) hk (fun _ h => h.2)) (fun _ h => h.1)); replace HB := Aside0.mk (hb); replace HI615 := Aside0.mk (hi); (try clear hb); (try clear hb2); (try clear hk); (try clear hi)) | ((with_reducible refine gaC_ (f := 77) rfl ?_); refine goesL_ (some 82) rfl rfl Try.func77 (by kernel_rfl) rfl #[.pointer (some ⟨gb615, 0, none⟩), .int .u64 18446744073709551615] rfl (by (try simp only [List.map_toArray, List.map_cons, List.map_nil]); first | done | rfl | (simp only [List.length_drop, List.length_take]; rfl)) ?_; (with_reducible refine (dragnetref02_Reader_Number.calls k2 gb615 l0 t636 t637 18446744073709551615 t638 t639 false w _ ?side1 ?side2 A35.out).mono ?_); (case side1 => repeat (first | (with_reducible first | exact HI615.out | apply IsS97.alloc | apply IsS97.drewN | apply IsS97.drew | apply IsS97.set_1 | apply IsS97.set_2) | exact HI615.out)); (case side2 => repeat (first | (with_reducible first | exact HB.out | apply pbA_ | apply pbN_ | apply pb1_ | refine below_set ?_ (IsS97.ge HI615.out)) | exact HB.out)); rintro e w54 ⟨rfl, hi, hb, hk⟩; refine ⟨_, rfl, ?_⟩; replace HO_11 := Aside0.mk (Kd.R_mono (Kd.R_keep (IsS97.apart (show IsS97 w _ gb615 l0 t636 t637 from by repeat (first | (with_reducible first | exact HI615.out | apply IsS97.alloc | apply IsS97.drewN | apply IsS97.drew | apply IsS97.set_1 | apply IsS97.set_2) | exact HI615.out)) (Kd.ru_ HO_11.out) (by decide)) hk (fun _ h => h.2)) (fun _ h => h.1)); replace HB := Aside0.mk (hb); replace HI615 := Aside0.mk (hi); (try clear hb); (try clear hb2); (try clear hk); (try clear hi); obtain ⟨ASz55_0, cSz55_0, HGz55, hgz55, HSz55_0⟩ := HI615.out; have hcz55_0 := cellS97_0 HGz55; have hcz55_1 := cellS97_1 HGz55; have hcz55_2 := cellS97_2 HGz55; have hfz55_1 := blk_frozen HGz55 1; have hfz55_2 := blk_frozen HGz55 2; clear HGz55 hgz55))
          (try (rw [drewN_self w54]; generalize hq_ : World.drewN w54 _ = w54; have n0_ : Aside0 (Kd.R (Kd.int .u64) 50 w54 w.heap.size (fun _ => True) v633 x11_2) := ⟨by rw [← hq_]; exact (Kd.ru_ HO_11.out)⟩; have n1_ : Aside0 (IsS97 w w54 gb615 l0 t639 false) := ⟨by rw [← hq_]; exact (by repeat (first | (with_reducible first | exact HI615.out | apply IsS97.alloc | apply IsS97.drewN | apply IsS97.drew | apply IsS97.set_1 | apply IsS97.set_2) | exact HI615.out))⟩; have n2_ : Aside0 (Below w.heap.size w w54) := ⟨by rw [← hq_]; exact (by repeat (first | (with_reducible first | exact HB.out | apply pbA_ | apply pbN_ | apply pb1_ | refine below_set ?_ (IsS97.ge HI615.out)) | exact HB.out))⟩; clear HO_11 HI615 HB hq_; have HO_11 := n0_; have HI615 := n1_; have HB := n2_; clear n0_ n1_ n2_))
          have n0_ := Aside0.mk (Kd.rD_ HO_11.out)
          have n1_ := Aside0.mk (IsS97.drew HI615.out)
          have n2_ := Aside0.mk (pb1_ HB.out)
          clear HO_11
          clear HI615
          clear HB
          have HO_11 := n0_
          have HI615 := n1_
          have HB := n2_
          clear n0_ n1_ n2_
          obtain ⟨Ao57, co57, eo57⟩ := Kd.R_slice HO_11.out
          (first | subst eo57 | (injection eo57 with f1_ f2_ f3_; have f4_ := f1_.symm; have f5_ := f3_.symm; clear f1_ f2_ f3_; subst f4_; subst f5_))
          have p641 : 0 ≤ (t635 : Int) := od_
          have q641 : t635 < (x11_2.length : Int) := od_
          obtain ⟨ad641, e641, hx641_0⟩ := Kd.at_int (Kd.R_reads' HO_11.out).2.2 t635 p641 q641
          cases e641
          replace p641 := eq_true p641
          replace q641 := eq_true q641
          have p52 : 0 ≤ (t635 : Int) := od_
          have q52 : (t635 : Int) < ((x11_2.length : Int) : Int) := od_
          obtain ⟨go52, co52, eo52, gb52, gl52, cl52, HG52⟩ := Kd.R_form HO_11.out (by omega)
          (first | cases eo52 | (injection eo52 with ea_ en_ ec_; (first | subst ea_ | (injection ea_ with ea_; subst ea_)); subst ec_; clear en_))
          have GB52 := Aside0.mk gb52
          have GG52 := Aside0.mk HG52
          clear gb52 gl52 HG52
          (first | simp only [add_plain] at hx641_0 | skip)
          obtain ⟨hx52_0, hf52_0⟩ := Kd.R_celln 0 HO_11.out (t635 : Int) p52 q52
          replace p52 := eq_true p52
          replace q52 := eq_true q52
          have HN615_go52 := Aside0.mk (show gb615 ≠ go52 from by have h_ := IsS97.own_ne HI615.out HO_11.out (by decide); intro e_; exact h_ (by rw [e_]; rfl))
          have HP58 := Kd.R_putn HO_11.out (t635 : Int) (IntKind.u64.wrap ((rd x11_2 t635) + (ji51)))
          rw [← Ny642.out] at HP58
          have HQ58 := Aside0.mk HP58
          clear HP58
          refine start_ (n := 10) (S := fun w' => w'.cell? ⟨go52, (t635).toNat, none⟩ = some (.int .u64 (rd x11_2 t635))) (ds := [9]) #[false, false, false, false, false, false, false, false, false, false] (by kernel_rfl) rfl rfl (hx641_0) (fun hHeld => ?_); refine with_tabW dragnetref04_TakeBlock.tab19 dragnetref04_TakeBlock.bits19 (fun HT_ HW_ => ?_)
          generalize w54.drew = w56 at HO_11 HI615 HB GG52 HQ58 hf52_0 hx52_0 hx641_0 hHeld ⊢
          refine pu_ (i := 0) (N := some 96) HT_ #[true, false, false, false, false, false, false, false, false, false] ?_
          refine pu_ (i := 1) (N := some 97) HT_ #[true, true, false, false, false, false, false, false, false, false] ?_
          refine pu_ (i := 2) (N := some 98) HT_ #[true, true, true, false, false, false, false, false, false, false] ?_
          refine pu_ (i := 4) (N := some 100) HT_ #[true, true, true, false, true, false, false, false, false, false] ?_
          refine pu_ (i := 5) (N := some 101) HT_ #[true, true, true, false, true, true, false, false, false, false] ?_
          refine pu_ (i := 6) (N := some 102) HT_ #[true, true, true, false, true, true, true, false, false, false] ?_
          refine ta_ (i := 3) (N := some 99) HT_ HW_ #[true, true, true, true, true, true, true, false, false, false] hHeld ?_
          refine pu_ (i := 7) (N := some 103) HT_ #[true, true, true, true, true, true, true, true, false, false] ?_
          refine pu_ (i := 8) (N := some 104) HT_ #[true, true, true, true, true, true, true, true, true, false] ?_
          refine last_ (i := 9) (N := none) #[tT,tT,tT,tT,tT,tT,tT,tT,tT,tT] rfl rfl (one_of HT_.out (by kernel_rfl)) (by decide) (fun K hK => ?_)
          refine skip_ (w1 := ?_) (by rfl) rfl ?_ ?_
          rotate_left
          ·go_simp
           rfl
          refine hK.out _ _ ?_
          clear hK K
          refine done_ (done_of HT_.out (by kernel_rfl)) ?_
          try go_wp2
          (try subst hji51)
          go_roundg k2
          case measure => have := HJ5.out; have := HK2.out; omega
          case rel => exact ⟨(wrap64 (x9_2 - 1)), (y642), (t639), (false), (by first | rfl | (simp; done) | (simp [*]; done)), H', ⟨by have := HJ5.out; have := HK2.out; omega⟩, ⟨Kd.ru_ HQ58.out⟩, ⟨by repeat (first | (with_reducible first | exact HI615.out | apply IsS97.alloc | apply IsS97.drewN | apply IsS97.drew | apply IsS97.set_1 | apply IsS97.set_2 | refine IsS97.far ?_ HN615_go52.out _) | exact HI615.out)⟩, ⟨by repeat (first | (with_reducible first | exact HB.out | apply pbA_ | apply pbN_ | apply pb1_ | refine below_set ?_ GB52.out | refine below_set ?_ (IsS97.ge HI615.out)) | exact HB.out)⟩⟩
      ·rw [if_neg c33] at H
       have c33b0 : decide (0 < x9_2) = false := decide_eq_false c33
       clear c33
       have H' := Aside0.mk H
       clear H
       go_wp2
       go_loopg [15] k2 (fun kq v15 w' => ∃ (x11_3 : List Int) (x15_3 : Int), v15 = .int .i64 x15_3 ∧ Aside0 (dragnetref04_TakeBlock.l1 kq l0 t616 t619 x11_3 x15_3 l0 x616001_2 x616002_2 = some (r1, r2, r3)) ∧ Aside0 (kq ≤ k2) ∧ Aside0 (Kd.R (Kd.int .u64) 50 w' w.heap.size (fun _ => True) v633 x11_3) ∧ Aside0 (IsS97 w w' gb615 l0 x616001_2 x616002_2) ∧ Aside0 (Below w.heap.size w w'))
       case atStart => exact ⟨(x11_2), (0), (by first | rfl | (simp; done) | (simp [*]; done)), H', ⟨Nat.le_refl _⟩, ⟨Kd.ru_ HO_11.out⟩, ⟨by repeat (first | (with_reducible first | exact HI615.out | apply IsS97.alloc | apply IsS97.drewN | apply IsS97.drew | apply IsS97.set_1 | apply IsS97.set_2) | exact HI615.out)⟩, ⟨by repeat (first | (with_reducible first | exact HB.out | apply pbA_ | apply pbN_ | apply pb1_ | refine below_set ?_ (IsS97.ge HI615.out)) | exact HB.out)⟩⟩
       case round =>
        clear H'
        try clear c1
        try clear c2
        try clear p2
        try clear c3
        try clear c4
        try clear c5
        try clear p5
        try clear q5
        try clear hx5
        try clear hf5
        try clear c6
        try clear p6
        try clear q6
        try clear hx6
        try clear c7
        try clear c12
        try clear c15
        try clear c15b0
        try clear c15b1
        try clear c21
        try clear c23
        try clear c23b0
        try clear c23b1
        try clear c24
        try clear c24b0
        try clear c24b1
        try clear c25
        try clear c25b0
        try clear c25b1
        try clear c27
        try clear c27b0
        try clear c27b1
        try clear c33
        try clear c33b0
        try clear c36
        try clear c40
        try clear c40b0
        try clear c42
        try clear c43
        try clear c44
        try clear c44b0
        try clear c44b1
        try clear c48
        try clear c48b0
        try clear c49
        try clear c49b0
        try clear c50
        try clear c50b0
        try clear c50b1
        try clear p52
        try clear q52
        try clear hx52
        try clear hf52
        try clear hcz14_0
        try clear hcz14_1
        try clear hcz14_2
        try clear hcz17_0
        try clear hcz17_1
        try clear hcz17_2
        try clear hcz20_0
        try clear hcz20_1
        try clear hcz20_2
        try clear hcz29_0
        try clear hcz29_1
        try clear hcz29_2
        try clear hcz32_0
        try clear hcz32_1
        try clear hcz32_2
        try clear hcz39_0
        try clear hcz39_1
        try clear hcz39_2
        try clear hcz43_0
        try clear hcz43_1
        try clear hcz43_2
        try clear hcz47_0
        try clear hcz47_1
        try clear hcz47_2
        try clear hcz55_0
        try clear hcz55_1
        try clear hcz55_2
        try clear hfz14_1
        try clear hfz14_2
        try clear hfz17_1
        try clear hfz17_2
        try clear hfz20_1
        try clear hfz20_2
        try clear hfz29_1
        try clear hfz29_2
        try clear hfz32_1
        try clear hfz32_2
        try clear hfz39_1
        try clear hfz39_2
        try clear hfz43_1
        try clear hfz43_2
        try clear hfz47_1
        try clear hfz47_2
        try clear hfz55_1
        try clear hfz55_2
        try clear hx52_0
        try clear hx641_0
        try clear p2
        try clear p52
        try clear p6
        try clear p641
        try clear q52
        try clear q641
        obtain ⟨x11_3, x15_3, rfl, HA, HK3, HO_11, HI615, HB⟩ := hrel
        cases gk with
        | zero => exact absurd HA.out (by simp [dragnetref04_TakeBlock.l1])
        | succ k3 =>
         have H := HA.out
         clear HA
         simp only [dragnetref04_TakeBlock.l1] at H
         by_cases c59 : x15_3 < t616
         ·rw [if_pos c59] at H
          have c59b0 : decide (x15_3 < t616) = true := decide_eq_true c59
          clear c59
          by_cases c60 : 0 ≤ x15_3
          rotate_left
          ·rw [if_neg c60] at H
           exact absurd H (by simp)
          rw [if_pos c60] at H
          have c60b0 : decide (0 ≤ x15_3) = true := decide_eq_true c60
          clear c60
          by_cases c61 : x15_3 < (x11_3.length : Int)
          rotate_left
          ·rw [if_neg c61] at H
           exact absurd H (by simp)
          rw [if_pos c61] at H
          have c61b0 : decide (x15_3 < (x11_3.length : Int)) = true := decide_eq_true c61
          clear c61
          obtain ⟨y644, hy644⟩ : ∃ y_ : List Int, y_ = (x11_3.set (x15_3 : Int).toNat (IntKind.u64.wrap ((rd x11_3 x15_3) + t619))) := ⟨_, rfl⟩
          replace H : (dragnetref04_TakeBlock.l1 k3 l0 t616 t619 y644 (wrap64 (x15_3 + 1)) l0 x616001_2 x616002_2) = some (r1, r2, r3) := by first | (rw [hy644]; with_reducible exact H) | (have H2_ := (Option.bind_some _ _).symm.trans H; rw [hy644]; with_reducible exact H2_) | (have H2_ := (Option.bind_some _ _).symm.trans H; with_reducible exact H2_) | with_reducible exact H | (rw [hy644]; exact H) | exact H
          have Ny644 := Aside0.mk hy644
          clear hy644
          have H' := Aside0.mk H
          clear H
          obtain ⟨Ao63, co63, eo63⟩ := Kd.R_slice HO_11.out
          subst eo63
          have p643 : 0 ≤ (x15_3 : Int) := od_
          have q643 : x15_3 < (x11_3.length : Int) := od_
          obtain ⟨ad643, e643, hx643_0⟩ := Kd.at_int (Kd.R_reads' HO_11.out).2.2 x15_3 p643 q643
          cases e643
          replace p643 := eq_true p643
          replace q643 := eq_true q643
          have p62 : 0 ≤ (x15_3 : Int) := od_
          have q62 : (x15_3 : Int) < ((x11_3.length : Int) : Int) := od_
          obtain ⟨go62, co62, eo62, gb62, gl62, cl62, HG62⟩ := Kd.R_form HO_11.out (by omega)
          (first | cases eo62 | (injection eo62 with ea_ en_ ec_; (first | subst ea_ | (injection ea_ with ea_; subst ea_)); subst ec_; clear en_))
          have GB62 := Aside0.mk gb62
          have GG62 := Aside0.mk HG62
          clear gb62 gl62 HG62
          (first | simp only [add_plain] at hx643_0 | skip)
          obtain ⟨hx62_0, hf62_0⟩ := Kd.R_celln 0 HO_11.out (x15_3 : Int) p62 q62
          replace p62 := eq_true p62
          replace q62 := eq_true q62
          have HP64 := Kd.R_putg HO_11.out (x15_3 : Int) (IntKind.u64.wrap ((rd x11_3 x15_3) + t619))
          go_wp2_with (first | ((with_reducible refine gate_store (t := 50) (p := 116) rfl ?_); refine store_event (t := 50) (p := 116) (v := ?vo_w65) (w1 := (wr.setCell ⟨go62, (x15_3 : Int).toNat, none⟩ (.int .u64 (IntKind.u64.wrap ((rd x11_3 x15_3) + t619))))) ?hg ?ho ?hn ?hr ?_; (case ho => rfl); (case hg => rfl); (case hn => rfl); (case hr => first | (go_simp; done) | (go_simp; rfl)); intro w65 hw; have hg : wr.grownBy w65 (some go62) := (by rw [hw]; exact HP64.2); have hp_ : Kd.R (Kd.int .u64) 50 w65 w.heap.size (fun _ => True) (.slice (some ⟨go62, 0, none⟩) x11_3.length co63) y644 := (by rw [hw, Ny644.out]; exact HP64.1); clear HP64; have n0_ := Aside0.mk (hp_); have n1_ := Aside0.mk (IsS97.grown (by repeat (first | (with_reducible first | exact HI615.out | apply IsS97.alloc | apply IsS97.drewN | apply IsS97.drew | apply IsS97.set_1 | apply IsS97.set_2) | exact HI615.out)) hg (IsS97.own_ne HI615.out HO_11.out (by decide))); have n2_ := Aside0.mk ((by rw [hw]; exact below_set (HB.out) GB62.out : Below w.heap.size w w65)); clear HO_11; clear HI615; clear HB; have HO_11 := n0_; have HI615 := n1_; have HB := n2_; clear n0_ n1_ n2_; clear hg hw hp_))
          go_roundg k3
          case measure => have := HJ5.out; have := HK2.out; have := HK3.out; omega
          case rel => exact ⟨(y644), (wrap64 (x15_3 + 1)), (by first | rfl | (simp; done) | (simp [*]; done)), H', ⟨by have := HJ5.out; have := HK2.out; have := HK3.out; omega⟩, ⟨Kd.ru_ HO_11.out⟩, ⟨by repeat (first | (with_reducible first | exact HI615.out | apply IsS97.alloc | apply IsS97.drewN | apply IsS97.drew | apply IsS97.set_1 | apply IsS97.set_2) | exact HI615.out)⟩, ⟨by repeat (first | (with_reducible first | exact HB.out | apply pbA_ | apply pbN_ | apply pb1_ | refine below_set ?_ (IsS97.ge HI615.out)) | exact HB.out)⟩⟩
         ·rw [if_neg c59] at H
          have c59b0 : decide (x15_3 < t616) = false := decide_eq_false c59
          clear c59
          replace H := Option.bind_eq_some_iff.mp H
          obtain ⟨t645, A660, H⟩ := H
          replace H : (if 0 ≤ x616001_2 then (if x616001_2 ≤ (l0.length : Int) then ((dragnetref01_Same.f t645 (l0.take (x616001_2 : Int).toNat)).bind fun t649 => (if t649 = true then (some (x11_3, x616001_2, 0)) else (some (([] : List Int), 0, 2)))) else (none)) else (none)) = some (r1, r2, r3) := H
          have A66 := Aside0.mk A660
          clear A660
          by_cases c67 : 0 ≤ x616001_2
          rotate_left
          ·rw [if_neg c67] at H
           exact absurd H (by simp)
          rw [if_pos c67] at H
          have c67b0 := eq_true c67
          have c67b1 : decide (0 ≤ x616001_2) = true := decide_eq_true c67
          clear c67
          by_cases c68 : x616001_2 ≤ (l0.length : Int)
          rotate_left
          ·rw [if_neg c68] at H
           exact absurd H (by simp)
          rw [if_pos c68] at H
          have c68b0 := eq_true c68
          have c68b1 : decide (x616001_2 ≤ (l0.length : Int)) = true := decide_eq_true c68
          clear c68
          replace H := Option.bind_eq_some_iff.mp H
          obtain ⟨t649, A690, H⟩ := H
          replace H : (if t649 = true then (some (x11_3, x616001_2, 0)) else (some (([] : List Int), 0, 2))) = some (r1, r2, r3) := H
          have A69 := Aside0.mk A690
          clear A690
          by_cases c70 : t649 = true
          rotate_left
          ·replace c70 := Bool.eq_false_iff.mpr c70
           subst c70
           have H1 : (some (([] : List Int), 0, 2)) = some (r1, r2, r3) := by rw [if_neg (show ¬ (false = true) by decide)] at H; exact H
           clear H
           have H := H1
           clear H1
           simp only [Option.some.injEq, Prod.mk.injEq] at H
           obtain ⟨rfl, rfl, rfl⟩ := H
           try go_wp2
           (try (rw [drewN_self wr]; generalize hq_ : World.drewN wr _ = wr; have n0_ : Aside0 (Kd.R (Kd.int .u64) 50 wr w.heap.size (fun _ => True) v633 x11_3) := ⟨by rw [← hq_]; exact (Kd.ru_ HO_11.out)⟩; have n1_ : Aside0 (IsS97 w wr gb615 l0 x616001_2 x616002_2) := ⟨by rw [← hq_]; exact (by repeat (first | (with_reducible first | exact HI615.out | apply IsS97.alloc | apply IsS97.drewN | apply IsS97.drew | apply IsS97.set_1 | apply IsS97.set_2) | exact HI615.out))⟩; have n2_ : Aside0 (Below w.heap.size w wr) := ⟨by rw [← hq_]; exact (by repeat (first | (with_reducible first | exact HB.out | apply pbA_ | apply pbN_ | apply pb1_ | refine below_set ?_ (IsS97.ge HI615.out)) | exact HB.out))⟩; clear HO_11 HI615 HB hq_; have HO_11 := n0_; have HI615 := n1_; have HB := n2_; clear n0_ n1_ n2_))
           have n0_ := Aside0.mk (Kd.rD_ HO_11.out)
           have n1_ := Aside0.mk (IsS97.drew HI615.out)
           have n2_ := Aside0.mk (pb1_ HB.out)
           clear HO_11
           clear HI615
           clear HB
           have HO_11 := n0_
           have HI615 := n1_
           have HB := n2_
           clear n0_ n1_ n2_
           obtain ⟨ASz80_0, cSz80_0, HGz80, hgz80, HSz80_0⟩ := HI615.out
           have hcz80_0 := cellS97_0 HGz80
           have hcz80_1 := cellS97_1 HGz80
           have hcz80_2 := cellS97_2 HGz80
           have hfz80_1 := blk_frozen HGz80 1
           have hfz80_2 := blk_frozen HGz80 2
           clear HGz80 hgz80
           obtain ⟨i081, hi081, _, hsz81, _⟩ := info_parts info5
           obtain ⟨hcut81, hA81, hC81⟩ := print_take_of (P := Try.prog) (Value.int .u8) 0 22 5 .i64 Try.underlying22 hi081 hsz81 A0 c0 l0 x616001_2 od_ od_ HC0.out
           have HR648 := Aside0.mk (Kd.C_of_reads (h1 := fun _ => rfl) (hA81 _ (Kd.reads_of_C HR0.out)))
           have HC648 := Aside0.mk hC81
           clear hA81 hC81 hi081 hsz81
           obtain ⟨Ao82, co82, eo82⟩ := Kd.R_slice HO_11.out
           (first | subst eo82 | (injection eo82 with f1_ f2_ f3_; have f4_ := f1_.symm; have f5_ := f3_.symm; clear f1_ f2_ f3_; subst f4_; subst f5_))
           refine start_ (n := 10) (S := fun w' => w'.cell? ⟨gb615, 0, none⟩ = some (.slice ASz80_0 l0.length cSz80_0) ∧ w'.cell? ⟨gb615, 1, none⟩ = some (.int .i64 x616001_2) ∧ w'.cell? ⟨gb615, 2, none⟩ = some (.bool x616002_2)) (ds := []) #[false, false, false, false, false, false, false, false, false, false] (by kernel_rfl) rfl rfl ⟨hcz80_0, hcz80_1, hcz80_2⟩ (fun hHeld => ?_); refine with_tabW dragnetref04_TakeBlock.tab24 dragnetref04_TakeBlock.bits24 (fun HT_ HW_ => ?_)
           generalize wr.drew = w79 at HO_11 HI615 HB HR648 hHeld ⊢
           refine pu_ (i := 0) (N := some 117) HT_ #[true, false, false, false, false, false, false, false, false, false] ?_
           refine pu_ (i := 2) (N := some 119) HT_ #[true, false, true, false, false, false, false, false, false, false] ?_
           refine pu_ (i := 3) (N := some 120) HT_ #[true, false, true, true, false, false, false, false, false, false] ?_
           refine pu_ (i := 4) (N := some 121) HT_ #[true, false, true, true, true, false, false, false, false, false] ?_
           refine pu_ (i := 5) (N := some 122) HT_ #[true, false, true, true, true, true, false, false, false, false] ?_
           refine ta_ (i := 6) (N := some 123) HT_ HW_ #[true, false, true, true, true, true, true, false, false, false] hHeld ?_
           refine pu_ (i := 7) (N := some 124) HT_ #[true, false, true, true, true, true, true, true, false, false] ?_
           refine one_ (i := 1) (N := some 118) #[tT,tT,tT,tT,tT,tT,tT,tT,fF,fF] rfl rfl (one_of HT_.out (by kernel_rfl)) (by decide) (fun K hK => ?_)
           refine goes_ Try.func63 (by kernel_rfl) rfl #[.slice Ao82 x11_3.length co82] (by rfl) rfl rfl (by (try simp only [List.map_toArray, List.map_cons, List.map_nil]); first | done | rfl | (simp only [List.length_drop, List.length_take]; rfl)) ?_
           with_reducible refine (dragnetref04_Block.calls k3 _ _ x11_3 t645 _ ?side1 ?side2 A66.out).mono ?_
           (case side1 => exact Kd.cu_ (Kd.R_reads' HO_11.out).2.2)
           (case side2 => exact (Kd.R_reads' HO_11.out).2.1)
           rintro e w83 ⟨v646, rfl, ho0, hb⟩
           have HS0_ := (hb.cell (World.block_lt_of_cell? _ _ (hHeld.1))).trans (hHeld.1)
           have HS1_ := (hb.cell (World.block_lt_of_cell? _ _ (hHeld.2.1))).trans (hHeld.2.1)
           have HS2_ := (hb.cell (World.block_lt_of_cell? _ _ (hHeld.2.2))).trans (hHeld.2.2)
           refine ⟨_, rfl, ?_⟩
           have n0_ := Aside0.mk (Kd.R_below (Kd.ru_ HO_11.out) hb)
           have n1_ := Aside0.mk (Kd.R_lower ho0 (pbS_ (by repeat (first | (with_reducible first | exact HB.out | apply pbA_ | apply pbN_ | apply pb1_ | refine below_set ?_ (IsS97.ge HI615.out)) | exact HB.out))))
           have n2_ := Aside0.mk (IsS97.below (by repeat (first | (with_reducible first | exact HI615.out | apply IsS97.alloc | apply IsS97.drewN | apply IsS97.drew | apply IsS97.set_1 | apply IsS97.set_2) | exact HI615.out)) hb)
           have n3_ := Aside0.mk (below_step (by repeat (first | (with_reducible first | exact HB.out | apply pbA_ | apply pbN_ | apply pb1_ | refine below_set ?_ (IsS97.ge HI615.out)) | exact HB.out)) hb)
           clear HO_11
           clear HI615
           clear HB
           have HO_11 := n0_
           have HO647 := n1_
           have HI615 := n2_
           have HB := n3_
           clear n0_ n1_ n2_ n3_
           (try clear hb)
           (try clear hb2)
           (try clear hk)
           (try clear hi)
           (try clear ho0)
           obtain ⟨Ao84, co84, eo84⟩ := Kd.R_slice HO647.out
           (first | subst eo84 | (injection eo84 with f1_ f2_ f3_; have f4_ := f1_.symm; have f5_ := f3_.symm; clear f1_ f2_ f3_; subst f4_; subst f5_))
           refine hK.out _ _ ⟨HS0_, HS1_, HS2_⟩ (fun hHeld => ?_)
           clear hK K
           refine norm_ (a' := ?_) ?_ ?_
           rotate_left
           ·show Act.put _ (some 118) _ = _
            simp only [Act.put, List.setIfInBounds_toArray, List.set_cons_zero, List.set_cons_succ, i64_w, i32_w]
            rfl
           refine one_ (i := 8) (N := some 125) #[tT,tT,tT,tT,tT,tT,tT,tT,tT,fF] rfl rfl (one_of HT_.out (by kernel_rfl)) (by decide) (fun K hK => ?_)
           refine goes_ Try.func13 (by kernel_rfl) rfl #[.slice Ao84 t645.length co84, .slice A0 (l0.take (x616001_2 : Int).toNat).length c0] (by rfl) rfl rfl (by (try simp only [List.map_toArray, List.map_cons, List.map_nil]); first | done | (rw [show (l0.take (x616001_2 : Int).toNat).length = x616001_2.toNat from (by rw [List.length_take]; have h_ : (x616001_2 : Int) ≤ (l0.length : Int) := od_; omega)] <;> rfl) | rfl | (simp only [List.length_drop, List.length_take]; rfl)) ?_
           with_reducible refine (dragnetref01_Same.calls _ _ t645 _ _ (l0.take (x616001_2 : Int).toNat) false _ ?side1 ?side2 ?side3 ?side4 A69.out).mono ?_
           (case side1 => exact Kd.cu_ (Kd.R_reads' HO647.out).2.2)
           (case side2 => exact (Kd.R_reads' HO647.out).2.1)
           (case side3 => exact Kd.cu_ (Kd.C_below HR648.out HB.out))
           (case side4 => exact HC648.out)
           rintro e w' ⟨rfl, ⟨nd, rfl⟩⟩
           refine ⟨_, rfl, ?_⟩
           refine hK.out _ _ ⟨hHeld.1, hHeld.2.1, hHeld.2.2⟩ (fun hHeld => ?_)
           clear hK K
           refine norm_ (a' := ?_) ?_ ?_
           rotate_left
           ·show Act.put _ (some 125) _ = _
            simp only [Act.put, List.setIfInBounds_toArray, List.set_cons_zero, List.set_cons_succ, i64_w, i32_w]
            rfl
           refine pu_ (i := 9) (N := some 126) HT_ #[true, true, true, true, true, true, true, true, true, true] ?_
           refine done_ (done_of HT_.out (by kernel_rfl)) ?_
           try go_wp2
           go_ret3
           exact ⟨_, rf_, ni_, by repeat (first | (with_reducible first | exact HB.out | apply pbA_ | apply pbN_ | apply pb1_ | refine below_set ?_ (IsS97.ge HI615.out)) | exact HB.out)⟩
          subst c70
          have H1 : (some (x11_3, x616001_2, 0)) = some (r1, r2, r3) := by rw [if_pos rfl] at H; exact H
          clear H
          have H := H1
          clear H1
          simp only [Option.some.injEq, Prod.mk.injEq] at H
          obtain ⟨rfl, rfl, rfl⟩ := H
          try go_wp2
          (try (rw [drewN_self wr]; generalize hq_ : World.drewN wr _ = wr; have n0_ : Aside0 (Kd.R (Kd.int .u64) 50 wr w.heap.size (fun _ => True) v633 x11_3) := ⟨by rw [← hq_]; exact (Kd.ru_ HO_11.out)⟩; have n1_ : Aside0 (IsS97 w wr gb615 l0 x616001_2 x616002_2) := ⟨by rw [← hq_]; exact (by repeat (first | (with_reducible first | exact HI615.out | apply IsS97.alloc | apply IsS97.drewN | apply IsS97.drew | apply IsS97.set_1 | apply IsS97.set_2) | exact HI615.out))⟩; have n2_ : Aside0 (Below w.heap.size w wr) := ⟨by rw [← hq_]; exact (by repeat (first | (with_reducible first | exact HB.out | apply pbA_ | apply pbN_ | apply pb1_ | refine below_set ?_ (IsS97.ge HI615.out)) | exact HB.out))⟩; clear HO_11 HI615 HB hq_; have HO_11 := n0_; have HI615 := n1_; have HB := n2_; clear n0_ n1_ n2_))
          have n0_ := Aside0.mk (Kd.rD_ HO_11.out)
          have n1_ := Aside0.mk (IsS97.drew HI615.out)
          have n2_ := Aside0.mk (pb1_ HB.out)
          clear HO_11
          clear HI615
          clear HB
          have HO_11 := n0_
          have HI615 := n1_
          have HB := n2_
          clear n0_ n1_ n2_
          obtain ⟨ASz72_0, cSz72_0, HGz72, hgz72, HSz72_0⟩ := HI615.out
          have hcz72_0 := cellS97_0 HGz72
          have hcz72_1 := cellS97_1 HGz72
          have hcz72_2 := cellS97_2 HGz72
          have hfz72_1 := blk_frozen HGz72 1
          have hfz72_2 := blk_frozen HGz72 2
          clear HGz72 hgz72
          obtain ⟨i073, hi073, _, hsz73, _⟩ := info_parts info5
          obtain ⟨hcut73, hA73, hC73⟩ := print_take_of (P := Try.prog) (Value.int .u8) 0 22 5 .i64 Try.underlying22 hi073 hsz73 A0 c0 l0 x616001_2 od_ od_ HC0.out
          have HR648 := Aside0.mk (Kd.C_of_reads (h1 := fun _ => rfl) (hA73 _ (Kd.reads_of_C HR0.out)))
          have HC648 := Aside0.mk hC73
          clear hA73 hC73 hi073 hsz73
          obtain ⟨Ao74, co74, eo74⟩ := Kd.R_slice HO_11.out
          (first | subst eo74 | (injection eo74 with f1_ f2_ f3_; have f4_ := f1_.symm; have f5_ := f3_.symm; clear f1_ f2_ f3_; subst f4_; subst f5_))
          refine start_ (n := 10) (S := fun w' => w'.cell? ⟨gb615, 0, none⟩ = some (.slice ASz72_0 l0.length cSz72_0) ∧ w'.cell? ⟨gb615, 1, none⟩ = some (.int .i64 x616001_2) ∧ w'.cell? ⟨gb615, 2, none⟩ = some (.bool x616002_2)) (ds := []) #[false, false, false, false, false, false, false, false, false, false] (by kernel_rfl) rfl rfl ⟨hcz72_0, hcz72_1, hcz72_2⟩ (fun hHeld => ?_); refine with_tabW dragnetref04_TakeBlock.tab24 dragnetref04_TakeBlock.bits24 (fun HT_ HW_ => ?_)
          generalize wr.drew = w71 at HO_11 HI615 HB HR648 hHeld ⊢
          refine pu_ (i := 0) (N := some 117) HT_ #[true, false, false, false, false, false, false, false, false, false] ?_
          refine pu_ (i := 2) (N := some 119) HT_ #[true, false, true, false, false, false, false, false, false, false] ?_
          refine pu_ (i := 3) (N := some 120) HT_ #[true, false, true, true, false, false, false, false, false, false] ?_
          refine pu_ (i := 4) (N := some 121) HT_ #[true, false, true, true, true, false, false, false, false, false] ?_
          refine pu_ (i := 5) (N := some 122) HT_ #[true, false, true, true, true, true, false, false, false, false] ?_
          refine ta_ (i := 6) (N := some 123) HT_ HW_ #[true, false, true, true, true, true, true, false, false, false] hHeld ?_
          refine pu_ (i := 7) (N := some 124) HT_ #[true, false, true, true, true, true, true, true, false, false] ?_
          refine one_ (i := 1) (N := some 118) #[tT,tT,tT,tT,tT,tT,tT,tT,fF,fF] rfl rfl (one_of HT_.out (by kernel_rfl)) (by decide) (fun K hK => ?_)
          refine goes_ Try.func63 (by kernel_rfl) rfl #[.slice Ao74 x11_3.length co74] (by rfl) rfl rfl (by (try simp only [List.map_toArray, List.map_cons, List.map_nil]); first | done | rfl | (simp only [List.length_drop, List.length_take]; rfl)) ?_
          with_reducible refine (dragnetref04_Block.calls k3 _ _ x11_3 t645 _ ?side1 ?side2 A66.out).mono ?_
          (case side1 => exact Kd.cu_ (Kd.R_reads' HO_11.out).2.2)
          (case side2 => exact (Kd.R_reads' HO_11.out).2.1)
          rintro e w75 ⟨v646, rfl, ho0, hb⟩
          have HS0_ := (hb.cell (World.block_lt_of_cell? _ _ (hHeld.1))).trans (hHeld.1)
          have HS1_ := (hb.cell (World.block_lt_of_cell? _ _ (hHeld.2.1))).trans (hHeld.2.1)
          have HS2_ := (hb.cell (World.block_lt_of_cell? _ _ (hHeld.2.2))).trans (hHeld.2.2)
          refine ⟨_, rfl, ?_⟩
          have n0_ := Aside0.mk (Kd.R_below (Kd.ru_ HO_11.out) hb)
          have n1_ := Aside0.mk (Kd.R_lower ho0 (pbS_ (by repeat (first | (with_reducible first | exact HB.out | apply pbA_ | apply pbN_ | apply pb1_ | refine below_set ?_ (IsS97.ge HI615.out)) | exact HB.out))))
          have n2_ := Aside0.mk (IsS97.below (by repeat (first | (with_reducible first | exact HI615.out | apply IsS97.alloc | apply IsS97.drewN | apply IsS97.drew | apply IsS97.set_1 | apply IsS97.set_2) | exact HI615.out)) hb)
          have n3_ := Aside0.mk (below_step (by repeat (first | (with_reducible first | exact HB.out | apply pbA_ | apply pbN_ | apply pb1_ | refine below_set ?_ (IsS97.ge HI615.out)) | exact HB.out)) hb)
          clear HO_11
          clear HI615
          clear HB
          have HO_11 := n0_
          have HO647 := n1_
          have HI615 := n2_
          have HB := n3_
          clear n0_ n1_ n2_ n3_
          (try clear hb)
          (try clear hb2)
          (try clear hk)
          (try clear hi)
          (try clear ho0)
          obtain ⟨Ao76, co76, eo76⟩ := Kd.R_slice HO647.out
          (first | subst eo76 | (injection eo76 with f1_ f2_ f3_; have f4_ := f1_.symm; have f5_ := f3_.symm; clear f1_ f2_ f3_; subst f4_; subst f5_))
          refine hK.out _ _ ⟨HS0_, HS1_, HS2_⟩ (fun hHeld => ?_)
          clear hK K
          refine norm_ (a' := ?_) ?_ ?_
          rotate_left
          ·show Act.put _ (some 118) _ = _
           simp only [Act.put, List.setIfInBounds_toArray, List.set_cons_zero, List.set_cons_succ, i64_w, i32_w]
           rfl
          refine one_ (i := 8) (N := some 125) #[tT,tT,tT,tT,tT,tT,tT,tT,tT,fF] rfl rfl (one_of HT_.out (by kernel_rfl)) (by decide) (fun K hK => ?_)
          refine goes_ Try.func13 (by kernel_rfl) rfl #[.slice Ao76 t645.length co76, .slice A0 (l0.take (x616001_2 : Int).toNat).length c0] (by rfl) rfl rfl (by (try simp only [List.map_toArray, List.map_cons, List.map_nil]); first | done | (rw [show (l0.take (x616001_2 : Int).toNat).length = x616001_2.toNat from (by rw [List.length_take]; have h_ : (x616001_2 : Int) ≤ (l0.length : Int) := od_; omega)] <;> rfl) | rfl | (simp only [List.length_drop, List.length_take]; rfl)) ?_
          with_reducible refine (dragnetref01_Same.calls _ _ t645 _ _ (l0.take (x616001_2 : Int).toNat) true _ ?side1 ?side2 ?side3 ?side4 A69.out).mono ?_
          (case side1 => exact Kd.cu_ (Kd.R_reads' HO647.out).2.2)
          (case side2 => exact (Kd.R_reads' HO647.out).2.1)
          (case side3 => exact Kd.cu_ (Kd.C_below HR648.out HB.out))
          (case side4 => exact HC648.out)
          rintro e w' ⟨rfl, ⟨nd, rfl⟩⟩
          refine ⟨_, rfl, ?_⟩
          refine hK.out _ _ ⟨hHeld.1, hHeld.2.1, hHeld.2.2⟩ (fun hHeld => ?_)
          clear hK K
          refine norm_ (a' := ?_) ?_ ?_
          rotate_left
          ·show Act.put _ (some 125) _ = _
           simp only [Act.put, List.setIfInBounds_toArray, List.set_cons_zero, List.set_cons_succ, i64_w, i32_w]
           rfl
          refine pu_ (i := 9) (N := some 126) HT_ #[true, true, true, true, true, true, true, true, true, true] ?_
          refine done_ (done_of HT_.out (by kernel_rfl)) ?_
          try go_wp2
          (try (rw [drewN_self w75]; generalize hq_ : World.drewN w75 _ = w75; have n0_ : Aside0 (Kd.R (Kd.int .u8) 5 w75 w.heap.size (fun _ => True) (.slice Ao76 t645.length co76) t645) := ⟨by rw [← hq_]; exact (Kd.ru_ HO647.out)⟩; have n1_ : Aside0 (Kd.R (Kd.int .u64) 50 w75 w.heap.size (fun _ => True) (.slice Ao74 x11_3.length co74) x11_3) := ⟨by rw [← hq_]; exact (Kd.ru_ HO_11.out)⟩; have n2_ : Aside0 (IsS97 w w75 gb615 l0 x616001_2 x616002_2) := ⟨by rw [← hq_]; exact (by repeat (first | (with_reducible first | exact HI615.out | apply IsS97.alloc | apply IsS97.drewN | apply IsS97.drew | apply IsS97.set_1 | apply IsS97.set_2) | exact HI615.out))⟩; have n3_ : Aside0 (Below w.heap.size w w75) := ⟨by rw [← hq_]; exact (by repeat (first | (with_reducible first | exact HB.out | apply pbA_ | apply pbN_ | apply pb1_ | refine below_set ?_ (IsS97.ge HI615.out)) | exact HB.out))⟩; clear HO647 HO_11 HI615 HB hq_; have HO647 := n0_; have HO_11 := n1_; have HI615 := n2_; have HB := n3_; clear n0_ n1_ n2_ n3_))
          have n0_ := Aside0.mk (Kd.rD_ HO_11.out)
          have n1_ := Aside0.mk (Kd.rD_ HO647.out)
          have n2_ := Aside0.mk (IsS97.drew HI615.out)
          have n3_ := Aside0.mk (pb1_ HB.out)
          clear HO_11
          clear HO647
          clear HI615
          clear HB
          have HO_11 := n0_
          have HO647 := n1_
          have HI615 := n2_
          have HB := n3_
          clear n0_ n1_ n2_ n3_
          obtain ⟨ASz78_0, cSz78_0, HGz78, hgz78, HSz78_0⟩ := HI615.out
          have hcz78_0 := cellS97_0 HGz78
          have hcz78_1 := cellS97_1 HGz78
          have hcz78_2 := cellS97_2 HGz78
          have hfz78_1 := blk_frozen HGz78 1
          have hfz78_2 := blk_frozen HGz78 2
          clear HGz78 hgz78
          refine start_ (n := 8) (S := fun w' => w'.cell? ⟨gb615, 0, none⟩ = some (.slice ASz78_0 l0.length cSz78_0) ∧ w'.cell? ⟨gb615, 1, none⟩ = some (.int .i64 x616001_2) ∧ w'.cell? ⟨gb615, 2, none⟩ = some (.bool x616002_2)) (ds := []) #[false, false, false, false, false, false, false, false] (by kernel_rfl) rfl rfl ⟨hcz78_0, hcz78_1, hcz78_2⟩ (fun hHeld => ?_); refine with_tabW dragnetref04_TakeBlock.tab26 dragnetref04_TakeBlock.bits26 (fun HT_ HW_ => ?_)
          generalize w75.drew = w77 at HO_11 HO647 HI615 HB hHeld ⊢
          refine pu_ (i := 0) (N := some 127) HT_ #[true, false, false, false, false, false, false, false] ?_
          refine pu_ (i := 1) (N := some 128) HT_ #[true, true, false, false, false, false, false, false] ?_
          refine pu_ (i := 2) (N := some 129) HT_ #[true, true, true, false, false, false, false, false] ?_
          refine pu_ (i := 3) (N := some 130) HT_ #[true, true, true, true, false, false, false, false] ?_
          refine pu_ (i := 5) (N := some 2) HT_ #[true, true, true, true, false, true, false, false] ?_
          refine ta_ (i := 4) (N := some 131) HT_ HW_ #[true, true, true, true, true, true, false, false] hHeld ?_
          refine pu_ (i := 6) (N := some 3) HT_ #[true, true, true, true, true, true, true, false] ?_
          refine pu_ (i := 7) (N := some 4) HT_ #[true, true, true, true, true, true, true, true] ?_
          refine done_ (done_of HT_.out (by kernel_rfl)) ?_
          try go_wp2
          go_ret3
          exact ⟨_, rf_, by (with_reducible repeat (first | apply Kd.rA_ | apply Kd.rN_ | apply Kd.rD_)); exact HO_11.out, by repeat (first | (with_reducible first | exact HB.out | apply pbA_ | apply pbN_ | apply pb1_ | refine below_set ?_ (IsS97.ge HI615.out)) | exact HB.out)⟩
noncomputable def dragnetref04_TakeList.l0 : Nat → List Int → Int → Int → List Int → Option (List Int × Int × Int)
 | 0, _, _, _, _ => none
 | k + 1, x0, x7, x8, x10 => if (IntKind.u64.wrap ((x10.length : Int))) < x7 then (if 0 ≤ x8 then (if x8 ≤ (x0.length : Int) then ((dragnetref04_TakeBlock.f k (x0.drop (x8 : Int).toNat)).bind fun bt654 => (if bt654.2.2 = 0 then (if (IntKind.u64.wrap ((bt654.1.length : Int))) = (mn 32 (IntKind.u64.wrap (x7 - (IntKind.u64.wrap ((x10.length : Int)))))) then (if x10.length + bt654.1.length < 17592186044416 then (dragnetref04_TakeList.l0 k x0 x7 (wrap64 (x8 + bt654.2.1)) (x10 ++ bt654.1)) else (none)) else (some (([] : List Int), 0, 2))) else (some (([] : List Int), 0, 2)))) else (none)) else (none)) else (some (x10, x8, 0))
noncomputable def dragnetref04_TakeList.f (k : Nat) (l0 : List Int) (a1 : Int) : Option (List Int × Int × Int) := if a1 < 0 then (some (([] : List Int), 0, 1)) else ((dragnetref02_Take.f k l0).bind fun bt650 => (if bt650.2.2 = 0 then (if bt650.1 > (IntKind.u64.wrap (a1)) then (some (([] : List Int), 0, 5)) else (dragnetref04_TakeList.l0 k l0 bt650.1 bt650.2.1 ([] : List Int))) else (some (([] : List Int), 0, 2))))
theorem dragnetref04_TakeList.mono_l : ∀ k, (∀ y0 y1 y2 y3, LeO (dragnetref04_TakeList.l0 k y0 y1 y2 y3) (dragnetref04_TakeList.l0 (k + 1) y0 y1 y2 y3))
 | 0 => fun _ _ _ _ r h => by simp [dragnetref04_TakeList.l0] at h
 | k + 1 => by
  have ih0 := dragnetref04_TakeList.mono_l k
  ·intro y0 y1 y2 y3
   unfold dragnetref04_TakeList.l0
   repeat' first
   | (with_reducible exact ih0 _ _ _ _)
   | (with_reducible exact dragnetref02_Take.mono _ _)
   | (with_reducible exact dragnetref04_TakeBlock.mono _ _)
   | (with_reducible exact LeO.refl _)
   | (with_reducible exact LeO.none _)
   | (with_reducible refine LeO.ite ?_ ?_)
   | (with_reducible refine LeO.bind ?_ (fun _ => ?_))
theorem dragnetref04_TakeList.mono : ∀ a0 a1 k, LeO (dragnetref04_TakeList.f k a0 a1) (dragnetref04_TakeList.f (k + 1) a0 a1) := by
 intro a0 a1 k
 have ih0 := dragnetref04_TakeList.mono_l k
 unfold dragnetref04_TakeList.f
 repeat' first
   | (with_reducible exact ih0 _ _ _ _)
   | (with_reducible exact dragnetref02_Take.mono _ _)
   | (with_reducible exact dragnetref04_TakeBlock.mono _ _)
   | (with_reducible exact LeO.refl _)
   | (with_reducible exact LeO.none _)
   | (with_reducible refine LeO.ite ?_ ?_)
   | (with_reducible refine LeO.bind ?_ (fun _ => ?_))
set_option maxHeartbeats 8000000 in
set_option maxRecDepth 100000 in
theorem dragnetref04_TakeList.calls (k : Nat) (A0 : Option Addr) (c0 : Nat) (l0 : List Int) (a1 : Int) (r1 : List Int) (r2 : Int) (r3 : Int) (w : World) (hr0 : Kd.C (Kd.int .u8) w A0 l0.length l0) (hc0 : l0.length ≤ c0) (h : dragnetref04_TakeList.f k l0 a1 = some (r1, r2, r3)) :
  Calls Try.prog 58 #[.slice A0 l0.length c0, .int .i64 a1] w fun e w' => ∃ v0_ : Value, e = .returned (.tuple #[v0_, .int .i64 r2, .int .i64 r3]) ∧ Kd.R (Kd.int .u64) 50 w' w.heap.size (fun _ => True) v0_ r1 ∧ Below w.heap.size w w' := by
 have HR0 := Aside0.mk hr0
 have HC0 := Aside0.mk hc0
 clear hr0 hc0
 have HB := Aside0.mk (Below.refl w.heap.size w)
 have H : (if a1 < 0 then (some (([] : List Int), 0, 1)) else ((dragnetref02_Take.f k l0).bind fun bt650 => (if bt650.2.2 = 0 then (if bt650.1 > (IntKind.u64.wrap (a1)) then (some (([] : List Int), 0, 5)) else (dragnetref04_TakeList.l0 k l0 bt650.1 bt650.2.1 ([] : List Int))) else (some (([] : List Int), 0, 2))))) = some (r1, r2, r3) := h
 clear h
 by_cases c3 : a1 < 0
 ·rw [if_pos c3] at H
  have c3b0 : decide (a1 < 0) = true := decide_eq_true c3
  clear c3
  simp only [Option.some.injEq, Prod.mk.injEq] at H
  obtain ⟨rfl, rfl, rfl⟩ := H
  go_enter Try.func58, Try.ntmps58
  go_wp2
  go_ret3
  exact ⟨_, rf_, ni_, bw_⟩
 ·rw [if_neg c3] at H
  have c3b0 : decide (a1 < 0) = false := decide_eq_false c3
  clear c3
  replace H := Option.bind_eq_some_iff.mp H
  obtain ⟨⟨t650, t651, t652⟩, A40, H⟩ := H
  replace H : (if t652 = 0 then (if t650 > (IntKind.u64.wrap (a1)) then (some (([] : List Int), 0, 5)) else (dragnetref04_TakeList.l0 k l0 t650 t651 ([] : List Int))) else (some (([] : List Int), 0, 2))) = some (r1, r2, r3) := H
  have A4 := Aside0.mk A40
  clear A40
  by_cases c5 : t652 = 0
  rotate_left
  ·rw [if_neg c5] at H
   have c5b0 : (t652 == 0) = false := beq_eq_false_iff_ne.mpr c5
   have c5b1 : (t652 != 0) = true := bne_iff_ne.mpr c5
   simp only [Option.some.injEq, Prod.mk.injEq] at H
   obtain ⟨rfl, rfl, rfl⟩ := H
   go_enter Try.func58, Try.ntmps58
   go_wp2_with (first | ((with_reducible refine gaC_ (f := 41) rfl ?_); refine goesL_ (some 18) rfl rfl Try.func41 (by kernel_rfl) rfl #[.slice A0 l0.length c0] rfl (by (try simp only [List.map_toArray, List.map_cons, List.map_nil]); first | done | rfl | (simp only [List.length_drop, List.length_take]; rfl)) ?_; (with_reducible refine (dragnetref02_Take.calls k _ _ l0 t650 t651 t652 _ ?side1 ?side2 A4.out).mono ?_); (case side1 => exact Kd.cu_ HR0.out); (case side2 => exact HC0.out); rintro e w30 ⟨rfl, hb⟩; refine ⟨_, rfl, ?_⟩; replace HB := Aside0.mk (below_step bw_ hb); (try clear hb); (try clear hb2); (try clear hk); (try clear hi)))
   go_ret3
   exact ⟨_, rf_, ni_, bw_⟩
  rw [if_pos c5] at H
  have c5b0 : (t652 == 0) = true := beq_iff_eq.mpr c5
  have c5b1 : (t652 != 0) = false := bne_eq_false_iff_eq.mpr c5
  clear c5
  by_cases c6 : t650 > (IntKind.u64.wrap (a1))
  ·rw [if_pos c6] at H
   have c6b0 : decide ((IntKind.u64.wrap (a1)) < t650) = true := decide_eq_true c6
   clear c6
   simp only [Option.some.injEq, Prod.mk.injEq] at H
   obtain ⟨rfl, rfl, rfl⟩ := H
   go_enter Try.func58, Try.ntmps58
   go_wp2_with (first | ((with_reducible refine gaC_ (f := 41) rfl ?_); refine goesL_ (some 18) rfl rfl Try.func41 (by kernel_rfl) rfl #[.slice A0 l0.length c0] rfl (by (try simp only [List.map_toArray, List.map_cons, List.map_nil]); first | done | rfl | (simp only [List.length_drop, List.length_take]; rfl)) ?_; (with_reducible refine (dragnetref02_Take.calls k _ _ l0 t650 t651 t652 _ ?side1 ?side2 A4.out).mono ?_); (case side1 => exact Kd.cu_ HR0.out); (case side2 => exact HC0.out); rintro e w7 ⟨rfl, hb⟩; refine ⟨_, rfl, ?_⟩; replace HB := Aside0.mk (below_step bw_ hb); (try clear hb); (try clear hb2); (try clear hk); (try clear hi)))
   go_ret3
   exact ⟨_, rf_, ni_, bw_⟩
  ·rw [if_neg c6] at H
   have c6b0 : decide ((IntKind.u64.wrap (a1)) < t650) = false := decide_eq_false c6
   clear c6
   have H' := Aside0.mk H
   clear H
   go_enter Try.func58, Try.ntmps58
   go_wp2_with (first | ((with_reducible refine gaC_ (f := 41) rfl ?_); refine goesL_ (some 18) rfl rfl Try.func41 (by kernel_rfl) rfl #[.slice A0 l0.length c0] rfl (by (try simp only [List.map_toArray, List.map_cons, List.map_nil]); first | done | rfl | (simp only [List.length_drop, List.length_take]; rfl)) ?_; (with_reducible refine (dragnetref02_Take.calls k _ _ l0 t650 t651 t652 _ ?side1 ?side2 A4.out).mono ?_); (case side1 => exact Kd.cu_ HR0.out); (case side2 => exact HC0.out); rintro e w8 ⟨rfl, hb⟩; refine ⟨_, rfl, ?_⟩; replace HB := Aside0.mk (below_step bw_ hb); (try clear hb); (try clear hb2); (try clear hk); (try clear hi)))
   go_loopg [8, 10] k (fun kq v8 v10 w' => ∃ (x8_1 : Int) (x10_1 : List Int), v8 = .int .i64 x8_1 ∧ Aside0 (dragnetref04_TakeList.l0 kq l0 t650 x8_1 x10_1 = some (r1, r2, r3)) ∧ Aside0 (kq ≤ k) ∧ Aside0 (Kd.R (Kd.int .u64) 50 w' w.heap.size (fun _ => True) v10 x10_1) ∧ Aside0 (Below w.heap.size w w'))
   case atStart => exact ⟨(t651), (([] : List Int)), (by first | rfl | (simp; done) | (simp [*]; done)), H', ⟨Nat.le_refl _⟩, ⟨ni_⟩, ⟨bw_⟩⟩
   case round =>
    clear H'
    try clear p2
    try clear c3
    try clear c3b0
    try clear c4
    try clear c5
    try clear c5b0
    try clear c5b1
    try clear c6
    try clear c6b0
    obtain ⟨x8_1, x10_1, rfl, HA, HK1, HO_10, HB⟩ := hrel
    cases gk with
    | zero => exact absurd HA.out (by simp [dragnetref04_TakeList.l0])
    | succ k1 =>
     have H := HA.out
     clear HA
     simp only [dragnetref04_TakeList.l0] at H
     by_cases c9 : (IntKind.u64.wrap ((x10_1.length : Int))) < t650
     rotate_left
     ·rw [if_neg c9] at H
      have c9b0 : decide ((IntKind.u64.wrap ((x10_1.length : Int))) < t650) = false := decide_eq_false c9
      clear c9
      simp only [Option.some.injEq, Prod.mk.injEq] at H
      obtain ⟨rfl, rfl, rfl⟩ := H
      obtain ⟨Ao29, co29, eo29⟩ := Kd.R_slice HO_10.out
      subst eo29
      go_wp2
      go_ret3
      exact ⟨_, rf_, by (with_reducible repeat (first | apply Kd.rA_ | apply Kd.rN_ | apply Kd.rD_)); exact HO_10.out, bw_⟩
     rw [if_pos c9] at H
     have c9b0 : decide ((IntKind.u64.wrap ((x10_1.length : Int))) < t650) = true := decide_eq_true c9
     clear c9
     by_cases c10 : 0 ≤ x8_1
     rotate_left
     ·rw [if_neg c10] at H
      exact absurd H (by simp)
     rw [if_pos c10] at H
     have c10b0 := eq_true c10
     have c10b1 : decide (0 ≤ x8_1) = true := decide_eq_true c10
     clear c10
     by_cases c11 : x8_1 ≤ (l0.length : Int)
     rotate_left
     ·rw [if_neg c11] at H
      exact absurd H (by simp)
     rw [if_pos c11] at H
     have c11b0 := eq_true c11
     have c11b1 : decide (x8_1 ≤ (l0.length : Int)) = true := decide_eq_true c11
     clear c11
     replace H := Option.bind_eq_some_iff.mp H
     obtain ⟨⟨t654, t655, t656⟩, A120, H⟩ := H
     replace H : (if t656 = 0 then (if (IntKind.u64.wrap ((t654.length : Int))) = (mn 32 (IntKind.u64.wrap (t650 - (IntKind.u64.wrap ((x10_1.length : Int)))))) then (if x10_1.length + t654.length < 17592186044416 then (dragnetref04_TakeList.l0 k1 l0 t650 (wrap64 (x8_1 + t655)) (x10_1 ++ t654)) else (none)) else (some (([] : List Int), 0, 2))) else (some (([] : List Int), 0, 2))) = some (r1, r2, r3) := H
     have A12 := Aside0.mk A120
     clear A120
     by_cases c13 : t656 = 0
     rotate_left
     ·rw [if_neg c13] at H
      have c13b0 : (t656 == 0) = false := beq_eq_false_iff_ne.mpr c13
      have c13b1 : (t656 != 0) = true := bne_iff_ne.mpr c13
      simp only [Option.some.injEq, Prod.mk.injEq] at H
      obtain ⟨rfl, rfl, rfl⟩ := H
      obtain ⟨Ao26, co26, eo26⟩ := Kd.R_slice HO_10.out
      subst eo26
      obtain ⟨i027, hi027, _, hsz27, _⟩ := info_parts info5
      obtain ⟨A27, hcut27, hA27, hC27⟩ := print_drop_of (P := Try.prog) (Value.int .u8) 0 22 5 .i64 Try.underlying22 hi027 hsz27 A0 c0 l0 x8_1 od_ od_ HC0.out
      have HR653 := Aside0.mk (Kd.C_of_reads (h1 := fun _ => rfl) (hA27 _ (Kd.reads_of_C HR0.out)))
      have HC653 := Aside0.mk hC27
      clear hA27 hC27 hi027 hsz27
      go_wp2_with (first | ((with_reducible refine gaC_ (f := 66) rfl ?_); refine goesL_ (some 37) rfl rfl Try.func66 (by kernel_rfl) rfl #[.slice A27 (l0.drop (x8_1 : Int).toNat).length (c0 - x8_1.toNat)] rfl (by (try simp only [List.map_toArray, List.map_cons, List.map_nil]); first | done | (rw [show (l0.drop (x8_1 : Int).toNat).length = (l0.length - x8_1.toNat) from List.length_drop] <;> rfl) | rfl | (simp only [List.length_drop, List.length_take]; rfl)) ?_; (with_reducible refine (dragnetref04_TakeBlock.calls k1 _ _ (l0.drop (x8_1 : Int).toNat) t654 t655 t656 _ ?side1 ?side2 A12.out).mono ?_); (case side1 => exact Kd.cu_ (Kd.C_below HR653.out HB.out)); (case side2 => exact HC653.out); rintro e w28 ⟨v657, rfl, ho0, hb⟩; refine ⟨_, rfl, ?_⟩; have n0_ := Aside0.mk (Kd.R_elder' (Kd.ru_ HO_10.out) (Kd.R_base ho0) hb); have n1_ := Aside0.mk (Kd.R_lower (Kd.R_new' ho0 (Kd.R_lt (Kd.ru_ HO_10.out))) (pbS_ bw_)); have n2_ := Aside0.mk (below_step bw_ hb); clear HO_10; clear HB; have HO_10 := n0_; have HO658 := n1_; have HB := n2_; clear n0_ n1_ n2_; (try clear hb); (try clear hb2); (try clear hk); (try clear hi); (try clear ho0)))
      go_ret3
      exact ⟨_, rf_, ni_, bw_⟩
     rw [if_pos c13] at H
     have c13b0 : (t656 == 0) = true := beq_iff_eq.mpr c13
     have c13b1 : (t656 != 0) = false := bne_eq_false_iff_eq.mpr c13
     clear c13
     obtain ⟨ji14, hji14⟩ : ∃ j_ : Int, (mn 32 (IntKind.u64.wrap (t650 - (IntKind.u64.wrap ((x10_1.length : Int)))))) = j_ := ⟨_, rfl⟩
     replace H : (if (IntKind.u64.wrap ((t654.length : Int))) = (ji14) then (if x10_1.length + t654.length < 17592186044416 then (dragnetref04_TakeList.l0 k1 l0 t650 (wrap64 (x8_1 + t655)) (x10_1 ++ t654)) else (none)) else (some (([] : List Int), 0, 2))) = some (r1, r2, r3) := by first | (rw [hji14] at H; exact H) | (simp only [hji14] at H ⊢; exact H)
     (try rw [hji14] at A12)
     have hji14_ : (if (IntKind.u64.wrap (t650 - (IntKind.u64.wrap ((x10_1.length : Int))))) < 32 then (IntKind.u64.wrap (t650 - (IntKind.u64.wrap ((x10_1.length : Int))))) else 32) = ji14 := hji14
     by_cases c15 : (IntKind.u64.wrap ((t654.length : Int))) = (ji14)
     rotate_left
     ·rw [if_neg c15] at H
      have c15b0 : ((IntKind.u64.wrap ((t654.length : Int))) == (ji14)) = false := beq_eq_false_iff_ne.mpr c15
      have c15b1 : ((IntKind.u64.wrap ((t654.length : Int))) != (ji14)) = true := bne_iff_ne.mpr c15
      simp only [Option.some.injEq, Prod.mk.injEq] at H
      obtain ⟨rfl, rfl, rfl⟩ := H
      obtain ⟨Ao22, co22, eo22⟩ := Kd.R_slice HO_10.out
      subst eo22
      obtain ⟨i023, hi023, _, hsz23, _⟩ := info_parts info5
      obtain ⟨A23, hcut23, hA23, hC23⟩ := print_drop_of (P := Try.prog) (Value.int .u8) 0 22 5 .i64 Try.underlying22 hi023 hsz23 A0 c0 l0 x8_1 od_ od_ HC0.out
      have HR653 := Aside0.mk (Kd.C_of_reads (h1 := fun _ => rfl) (hA23 _ (Kd.reads_of_C HR0.out)))
      have HC653 := Aside0.mk hC23
      clear hA23 hC23 hi023 hsz23
      go_wp2_with (first | ((with_reducible refine gaC_ (f := 66) rfl ?_); refine goesL_ (some 37) rfl rfl Try.func66 (by kernel_rfl) rfl #[.slice A23 (l0.drop (x8_1 : Int).toNat).length (c0 - x8_1.toNat)] rfl (by (try simp only [List.map_toArray, List.map_cons, List.map_nil]); first | done | (rw [show (l0.drop (x8_1 : Int).toNat).length = (l0.length - x8_1.toNat) from List.length_drop] <;> rfl) | rfl | (simp only [List.length_drop, List.length_take]; rfl)) ?_; (with_reducible refine (dragnetref04_TakeBlock.calls k1 _ _ (l0.drop (x8_1 : Int).toNat) t654 t655 t656 _ ?side1 ?side2 A12.out).mono ?_); (case side1 => exact Kd.cu_ (Kd.C_below HR653.out HB.out)); (case side2 => exact HC653.out); rintro e w24 ⟨v657, rfl, ho0, hb⟩; refine ⟨_, rfl, ?_⟩; have n0_ := Aside0.mk (Kd.R_elder' (Kd.ru_ HO_10.out) (Kd.R_base ho0) hb); have n1_ := Aside0.mk (Kd.R_lower (Kd.R_new' ho0 (Kd.R_lt (Kd.ru_ HO_10.out))) (pbS_ bw_)); have n2_ := Aside0.mk (below_step bw_ hb); clear HO_10; clear HB; have HO_10 := n0_; have HO658 := n1_; have HB := n2_; clear n0_ n1_ n2_; (try clear hb); (try clear hb2); (try clear hk); (try clear hi); (try clear ho0); obtain ⟨Ao25, co25, eo25⟩ := Kd.R_slice HO658.out; subst eo25))
      go_ret3
      exact ⟨_, by first | rfl | (simp [eWn_, eWs_] <;> rfl) | (simp only [← hji14]; first | rfl | (simp [eWn_, eWs_] <;> rfl)) | (simp [*, eWn_, eWs_] <;> rfl), ni_, bw_⟩
     rw [if_pos c15] at H
     have c15b0 : ((IntKind.u64.wrap ((t654.length : Int))) == (ji14)) = true := beq_iff_eq.mpr c15
     have c15b1 : ((IntKind.u64.wrap ((t654.length : Int))) != (ji14)) = false := bne_eq_false_iff_eq.mpr c15
     clear c15
     by_cases c16 : x10_1.length + t654.length < 17592186044416
     rotate_left
     ·rw [if_neg c16] at H
      exact absurd H (by simp)
     rw [if_pos c16] at H
     have LMc16 := Aside0.mk c16
     clear c16
     obtain ⟨y659, hy659⟩ : ∃ y_ : List Int, y_ = (x10_1 ++ t654) := ⟨_, rfl⟩
     replace H : (dragnetref04_TakeList.l0 k1 l0 t650 (wrap64 (x8_1 + t655)) y659) = some (r1, r2, r3) := by first | (rw [hy659]; with_reducible exact H) | (have H2_ := (Option.bind_some _ _).symm.trans H; rw [hy659]; with_reducible exact H2_) | (have H2_ := (Option.bind_some _ _).symm.trans H; with_reducible exact H2_) | with_reducible exact H | (rw [hy659]; exact H) | exact H
     have Ny659 := Aside0.mk hy659
     clear hy659
     have H' := Aside0.mk H
     clear H
     obtain ⟨Ao17, co17, eo17⟩ := Kd.R_slice HO_10.out
     subst eo17
     obtain ⟨i018, hi018, _, hsz18, _⟩ := info_parts info5
     obtain ⟨A18, hcut18, hA18, hC18⟩ := print_drop_of (P := Try.prog) (Value.int .u8) 0 22 5 .i64 Try.underlying22 hi018 hsz18 A0 c0 l0 x8_1 od_ od_ HC0.out
     have HR653 := Aside0.mk (Kd.C_of_reads (h1 := fun _ => rfl) (hA18 _ (Kd.reads_of_C HR0.out)))
     have HC653 := Aside0.mk hC18
     clear hA18 hC18 hi018 hsz18
     go_wp2_with (first | ((with_reducible refine gaC_ (f := 66) rfl ?_); refine goesL_ (some 37) rfl rfl Try.func66 (by kernel_rfl) rfl #[.slice A18 (l0.drop (x8_1 : Int).toNat).length (c0 - x8_1.toNat)] rfl (by (try simp only [List.map_toArray, List.map_cons, List.map_nil]); first | done | (rw [show (l0.drop (x8_1 : Int).toNat).length = (l0.length - x8_1.toNat) from List.length_drop] <;> rfl) | rfl | (simp only [List.length_drop, List.length_take]; rfl)) ?_; (with_reducible refine (dragnetref04_TakeBlock.calls k1 _ _ (l0.drop (x8_1 : Int).toNat) t654 t655 t656 _ ?side1 ?side2 A12.out).mono ?_); (case side1 => exact Kd.cu_ (Kd.C_below HR653.out HB.out)); (case side2 => exact HC653.out); rintro e w19 ⟨v657, rfl, ho0, hb⟩; refine ⟨_, rfl, ?_⟩; have n0_ := Aside0.mk (Kd.R_elder' (Kd.ru_ HO_10.out) (Kd.R_base ho0) hb); have n1_ := Aside0.mk (Kd.R_lower (Kd.R_new' ho0 (Kd.R_lt (Kd.ru_ HO_10.out))) (pbS_ bw_)); have n2_ := Aside0.mk (below_step bw_ hb); clear HO_10; clear HB; have HO_10 := n0_; have HO658 := n1_; have HB := n2_; clear n0_ n1_ n2_; (try clear hb); (try clear hb2); (try clear hk); (try clear hi); (try clear ho0); obtain ⟨Ao20, co20, eo20⟩ := Kd.R_slice HO658.out; subst eo20) | ((with_reducible refine gate_builtin (b := .append) (xs := #[.tmp 55, .tmp 56]) rfl ?_); (try (refine gate_guard (by rfl) ?_; dsimp only)); at_builtin; refine Kd.R_append_rows (Kd.int .u64) (w0 := w) w.heap.size rfl (.tmp 55) (.tmp 56) 49 50 (.int .u64 0) 8 rfl Try.underlying49 info50 rfl (by decide) (by omega) (.slice Ao17 x10_1.length co17) x10_1 t654 _ _ _ (fun k_ => some k_ ≠ (.slice Ao20 t654.length co20 : Value).ownBlock) (fun _ => False) rfl rfl ?aO ?aR (fun _ _ h => h) (fun _ h => h.elim) ?aF ?aB ?aS ?aL ?_; (case aR => exact Kd.cu_ (Kd.R_reads' HO658.out).2.2); (case aB => exact bw_); (case aF => exact (fun k_ hk => Kd.fresh' (Kd.R_lt (Kd.ru_ HO658.out)) k_ hk)); (case aO => exact (by (with_reducible repeat (first | apply Kd.rA_ | apply Kd.rN_ | apply Kd.rD_)); exact Kd.R_mono HO_10.out (fun _ hk => hk.2))); (case aS => exact (pbS_ bw_)); (case aL => have := LMc16.out; omega); intro v660 w21 ho hb hg hat; rw [← Ny659.out] at ho; have n0_ := Aside0.mk (Kd.R_after (ok := (fun _ => True)) (Kd.ru_ HO658.out) hg hat); have n1_ := Aside0.mk (hb); have n2_ := Aside0.mk (ho); clear HO658; clear HB; clear HO_10; have HO658 := n0_; have HB := n1_; have HO661 := n2_; clear n0_ n1_ n2_; clear ho hb hg hat))
     (try subst hji14)
     go_roundg k1
     case measure => have := HK1.out; omega
     case rel => exact ⟨(wrap64 (x8_1 + t655)), (y659), (by first | rfl | (simp; done) | (simp [*]; done)), H', ⟨by have := HK1.out; omega⟩, ⟨by (with_reducible repeat (first | apply Kd.rA_ | apply Kd.rN_ | apply Kd.rD_)); exact Kd.R_mono HO661.out (fun _ hk => trivial)⟩, ⟨bw_⟩⟩
noncomputable def dragnetref02_Unfold.f (a0 : Int) : Option (Int) := if (Int.tmod a0 2) = 0 then (some (wrap64 (IntKind.u64.wrap (Int.tdiv a0 2)))) else (some (wrap64 ((wrap64 (-(wrap64 (IntKind.u64.wrap (Int.tdiv a0 2))))) - 1)))
set_option maxHeartbeats 8000000 in
set_option maxRecDepth 100000 in
theorem dragnetref02_Unfold.calls (a0 : Int) (r : Int) (w : World) (h : dragnetref02_Unfold.f a0 = some r) :
  Calls Try.prog 67 #[.int .u64 a0] w fun e w' => e = .returned (.int .i64 r) ∧ Drawn0 w w' := by
 have H : (if (Int.tmod a0 2) = 0 then (some (wrap64 (IntKind.u64.wrap (Int.tdiv a0 2)))) else (some (wrap64 ((wrap64 (-(wrap64 (IntKind.u64.wrap (Int.tdiv a0 2))))) - 1)))) = some r := h
 clear h
 by_cases c2 : (Int.tmod a0 2) = 0
 rotate_left
 ·rw [if_neg c2] at H
  have c2b0 : ((Int.tmod a0 2) == 0) = false := beq_eq_false_iff_ne.mpr c2
  have c2b1 : ((Int.tmod a0 2) != 0) = true := bne_iff_ne.mpr c2
  obtain rfl := Option.some.inj H
  go_enter Try.func67, Try.ntmps67
  go_wp2
  go_ret
  exact ⟨by first | rfl | (simp; done) | (simp [*]; done), by repeat (first | exact Drawn0.refl _ | apply Drawn0.step)⟩
 rw [if_pos c2] at H
 have c2b0 : ((Int.tmod a0 2) == 0) = true := beq_iff_eq.mpr c2
 have c2b1 : ((Int.tmod a0 2) != 0) = false := bne_eq_false_iff_eq.mpr c2
 clear c2
 obtain rfl := Option.some.inj H
 go_enter Try.func67, Try.ntmps67
 go_wp2
 go_ret
 exact ⟨by first | rfl | (simp; done) | (simp [*]; done), by repeat (first | exact Drawn0.refl _ | apply Drawn0.step)⟩
noncomputable def dragnetref04_Unfolded.l0 : Nat → List Int → List Int → Int → Option (List Int)
 | 0, _, _, _ => none
 | k + 1, x0, x3, x4 => if x4 < (x0.length : Int) then (if 0 ≤ x4 then ((dragnetref02_Unfold.f (rd x0 x4)).bind fun t663 => (if x3.length < 17592186044416 then (dragnetref04_Unfolded.l0 k x0 (x3 ++ [t663]) (wrap64 (x4 + 1))) else (none))) else (none)) else (some x3)
noncomputable def dragnetref04_Unfolded.f (k : Nat) (l0 : List Int) : Option (List Int) := dragnetref04_Unfolded.l0 k l0 ([] : List Int) 0
theorem dragnetref04_Unfolded.mono_l : ∀ k, (∀ y0 y1 y2, LeO (dragnetref04_Unfolded.l0 k y0 y1 y2) (dragnetref04_Unfolded.l0 (k + 1) y0 y1 y2))
 | 0 => fun _ _ _ r h => by simp [dragnetref04_Unfolded.l0] at h
 | k + 1 => by
  have ih0 := dragnetref04_Unfolded.mono_l k
  ·intro y0 y1 y2
   unfold dragnetref04_Unfolded.l0
   repeat' first
   | (with_reducible exact ih0 _ _ _)
   | (with_reducible exact LeO.refl _)
   | (with_reducible exact LeO.none _)
   | (with_reducible refine LeO.ite ?_ ?_)
   | (with_reducible refine LeO.bind ?_ (fun _ => ?_))
theorem dragnetref04_Unfolded.mono : ∀ a0 k, LeO (dragnetref04_Unfolded.f k a0) (dragnetref04_Unfolded.f (k + 1) a0) := by
 intro a0 k
 have ih0 := dragnetref04_Unfolded.mono_l k
 unfold dragnetref04_Unfolded.f
 repeat' first
   | (with_reducible exact ih0 _ _ _)
   | (with_reducible exact LeO.refl _)
   | (with_reducible exact LeO.none _)
   | (with_reducible refine LeO.ite ?_ ?_)
   | (with_reducible refine LeO.bind ?_ (fun _ => ?_))
set_option maxHeartbeats 8000000 in
set_option maxRecDepth 100000 in
theorem dragnetref04_Unfolded.calls (k : Nat) (A0 : Option Addr) (c0 : Nat) (l0 : List Int) (r : List Int) (w : World) (hr0 : Kd.C (Kd.int .u64) w A0 l0.length l0) (hc0 : l0.length ≤ c0) (h : dragnetref04_Unfolded.f k l0 = some r) :
  Calls Try.prog 59 #[.slice A0 l0.length c0] w fun e w' => ∃ v0_ : Value, e = .returned (v0_) ∧ Kd.R (Kd.int .i64) 3 w' w.heap.size (fun _ => True) v0_ r ∧ Below w.heap.size w w' := by
 have HR0 := Aside0.mk hr0
 have HC0 := Aside0.mk hc0
 clear hr0 hc0
 have HB := Aside0.mk (Below.refl w.heap.size w)
 have H : (dragnetref04_Unfolded.l0 k l0 ([] : List Int) 0) = some r := h
 clear h
 have H' := Aside0.mk H
 clear H
 go_enter Try.func59, Try.ntmps59
 go_wp2
 go_loopg [3, 4] k (fun kq v3 v4 w' => ∃ (x3_1 : List Int) (x4_1 : Int), v4 = .int .i64 x4_1 ∧ Aside0 (dragnetref04_Unfolded.l0 kq l0 x3_1 x4_1 = some r) ∧ Aside0 (kq ≤ k) ∧ Aside0 (Kd.R (Kd.int .i64) 3 w' w.heap.size (fun _ => True) v3 x3_1) ∧ Aside0 (Below w.heap.size w w'))
 case atStart => exact ⟨(([] : List Int)), (0), (by first | rfl | (simp; done) | (simp [*]; done)), H', ⟨Nat.le_refl _⟩, ⟨ni_⟩, ⟨bw_⟩⟩
 case round =>
  clear H'
  obtain ⟨x3_1, x4_1, rfl, HA, HK1, HO_3, HB⟩ := hrel
  cases gk with
  | zero => exact absurd HA.out (by simp [dragnetref04_Unfolded.l0])
  | succ k1 =>
   have H := HA.out
   clear HA
   simp only [dragnetref04_Unfolded.l0] at H
   by_cases c2 : x4_1 < (l0.length : Int)
   rotate_left
   ·rw [if_neg c2] at H
    have c2b0 : decide (x4_1 < (l0.length : Int)) = false := decide_eq_false c2
    clear c2
    obtain rfl := Option.some.inj H
    go_wp2
    go_ret
    exact ⟨_, rf_, by (with_reducible repeat (first | apply Kd.rA_ | apply Kd.rN_ | apply Kd.rD_)); exact HO_3.out, bw_⟩
   rw [if_pos c2] at H
   have c2b0 : decide (x4_1 < (l0.length : Int)) = true := decide_eq_true c2
   clear c2
   by_cases c3 : 0 ≤ x4_1
   rotate_left
   ·rw [if_neg c3] at H
    exact absurd H (by simp)
   rw [if_pos c3] at H
   have c3b0 : decide (0 ≤ x4_1) = true := decide_eq_true c3
   clear c3
   replace H := Option.bind_eq_some_iff.mp H
   obtain ⟨t663, A40, H⟩ := H
   replace H : (if x3_1.length < 17592186044416 then (dragnetref04_Unfolded.l0 k1 l0 (x3_1 ++ [t663]) (wrap64 (x4_1 + 1))) else (none)) = some r := H
   have A4 := Aside0.mk A40
   clear A40
   by_cases c5 : x3_1.length < 17592186044416
   rotate_left
   ·rw [if_neg c5] at H
    exact absurd H (by simp)
   rw [if_pos c5] at H
   have LMc5 := Aside0.mk c5
   clear c5
   obtain ⟨y664, hy664⟩ : ∃ y_ : List Int, y_ = (x3_1 ++ [t663]) := ⟨_, rfl⟩
   replace H : (dragnetref04_Unfolded.l0 k1 l0 y664 (wrap64 (x4_1 + 1))) = some r := by first | (rw [hy664]; with_reducible exact H) | (have H2_ := (Option.bind_some _ _).symm.trans H; rw [hy664]; with_reducible exact H2_) | (have H2_ := (Option.bind_some _ _).symm.trans H; with_reducible exact H2_) | with_reducible exact H | (rw [hy664]; exact H) | exact H
   have Ny664 := Aside0.mk hy664
   clear hy664
   have H' := Aside0.mk H
   clear H
   have p662 : 0 ≤ (x4_1 : Int) := od_
   have q662 : x4_1 < (l0.length : Int) := od_
   obtain ⟨ad662, e662, hx662_0⟩ := Kd.at_int HR0.out x4_1 p662 q662
   cases e662
   replace hx662_0 := (HB.out.cell (World.block_lt_of_cell? w _ hx662_0)).trans hx662_0
   replace p662 := eq_true p662
   replace q662 := eq_true q662
   go_wp2_with (first | ((with_reducible refine gaC_ (f := 67) rfl ?_); refine goesL_ (some 16) rfl rfl Try.func67 (by kernel_rfl) rfl #[.int .u64 (rd l0 x4_1)] rfl (by (try simp only [List.map_toArray, List.map_cons, List.map_nil]); first | done | rfl | (simp only [List.length_drop, List.length_take]; rfl)) ?_; (with_reducible refine (dragnetref02_Unfold.calls (rd l0 x4_1) t663 _ A4.out).mono ?_); rintro e w' ⟨rfl, ⟨nd, rfl⟩⟩; refine ⟨_, rfl, ?_⟩) | ((with_reducible refine gate_builtin (b := .append) (xs := #[.tmp 11, .tmp 17]) rfl ?_); at_builtin; refine Kd.R_append (Kd.int .i64) (w0 := w) w.heap.size rfl (.tmp 11) (.tmp 17) 39 3 (.int .i64 0) 8 rfl Try.underlying39 info3 rfl (by decide) (by omega) u3 x3_1 t663 [.int .i64 t663] (fun _ => True) (fun _ => False) rfl rfl ?aP (fun _ hk => hk.elim) ?aF ?aO ?aB ?aS ?aL ?_; (case aP => exact rfl); (case aB => exact bw_); (case aF => exact (fun _ _ => trivial)); (case aO => exact (Kd.ru_ HO_3.out)); (case aS => exact (pbS_ bw_)); (case aL => have := LMc5.out; omega); intro v665 w6 ho hb hg hat; rw [← Ny664.out] at ho; have n0_ := Aside0.mk (hb); have n1_ := Aside0.mk (ho); clear HB; clear HO_3; have HB := n0_; have HO666 := n1_; clear n0_ n1_; clear ho hb hg hat))
   go_roundg k1
   case measure => have := HK1.out; omega
   case rel => exact ⟨(y664), (wrap64 (x4_1 + 1)), (by first | rfl | (simp; done) | (simp [*]; done)), H', ⟨by have := HK1.out; omega⟩, ⟨Kd.ru_ HO666.out⟩, ⟨bw_⟩⟩
noncomputable def dragnetref04_TakeInts.f (k : Nat) (l0 : List Int) (a1 : Int) : Option (List Int × Int × Int) := (dragnetref04_TakeList.f k l0 a1).bind fun bt667 => ((dragnetref04_Unfolded.f k bt667.1).bind fun t672 => (some (t672, bt667.2.1, bt667.2.2)))
theorem dragnetref04_TakeInts.mono : ∀ a0 a1 k, LeO (dragnetref04_TakeInts.f k a0 a1) (dragnetref04_TakeInts.f (k + 1) a0 a1) := by
 intro a0 a1 k
 unfold dragnetref04_TakeInts.f
 repeat' first
   | (with_reducible exact dragnetref04_TakeList.mono _ _ _)
   | (with_reducible exact dragnetref04_Unfolded.mono _ _)
   | (with_reducible exact LeO.refl _)
   | (with_reducible exact LeO.none _)
   | (with_reducible refine LeO.ite ?_ ?_)
   | (with_reducible refine LeO.bind ?_ (fun _ => ?_))
set_option maxHeartbeats 8000000 in
set_option maxRecDepth 100000 in
theorem dragnetref04_TakeInts.calls (k : Nat) (A0 : Option Addr) (c0 : Nat) (l0 : List Int) (a1 : Int) (r1 : List Int) (r2 : Int) (r3 : Int) (w : World) (hr0 : Kd.C (Kd.int .u8) w A0 l0.length l0) (hc0 : l0.length ≤ c0) (h : dragnetref04_TakeInts.f k l0 a1 = some (r1, r2, r3)) :
  Calls Try.prog 44 #[.slice A0 l0.length c0, .int .i64 a1] w fun e w' => ∃ v0_ : Value, e = .returned (.tuple #[v0_, .int .i64 r2, .int .i64 r3]) ∧ Kd.R (Kd.int .i64) 3 w' w.heap.size (fun _ => True) v0_ r1 ∧ Below w.heap.size w w' := by
 have HR0 := Aside0.mk hr0
 have HC0 := Aside0.mk hc0
 clear hr0 hc0
 have HB := Aside0.mk (Below.refl w.heap.size w)
 have H : ((dragnetref04_TakeList.f k l0 a1).bind fun bt667 => ((dragnetref04_Unfolded.f k bt667.1).bind fun t672 => (some (t672, bt667.2.1, bt667.2.2)))) = some (r1, r2, r3) := h
 clear h
 replace H := Option.bind_eq_some_iff.mp H
 obtain ⟨⟨t667, t668, t669⟩, A30, H⟩ := H
 replace H : ((dragnetref04_Unfolded.f k t667).bind fun t672 => (some (t672, t668, t669))) = some (r1, r2, r3) := H
 have A3 := Aside0.mk A30
 clear A30
 replace H := Option.bind_eq_some_iff.mp H
 obtain ⟨t672, A40, H⟩ := H
 replace H : (some (t672, t668, t669)) = some (r1, r2, r3) := H
 have A4 := Aside0.mk A40
 clear A40
 simp only [Option.some.injEq, Prod.mk.injEq] at H
 obtain ⟨rfl, rfl, rfl⟩ := H
 go_enter Try.func44, Try.ntmps44
 go_wp2_with (first | ((with_reducible refine gaC_ (f := 58) rfl ?_); refine goesL_ (some 13) rfl rfl Try.func58 (by kernel_rfl) rfl #[.slice A0 l0.length c0, .int .i64 a1] rfl (by (try simp only [List.map_toArray, List.map_cons, List.map_nil]); first | done | rfl | (simp only [List.length_drop, List.length_take]; rfl)) ?_; (with_reducible refine (dragnetref04_TakeList.calls k _ _ l0 a1 t667 t668 t669 _ ?side1 ?side2 A3.out).mono ?_); (case side1 => exact Kd.cu_ HR0.out); (case side2 => exact HC0.out); rintro e w5 ⟨v670, rfl, ho0, hb⟩; refine ⟨_, rfl, ?_⟩; have HO671 := Aside0.mk (Kd.R_lower ho0 (pbS_ bw_)); replace HB := Aside0.mk (below_step bw_ hb); (try clear hb); (try clear hb2); (try clear hk); (try clear hi); (try clear ho0); obtain ⟨Ao6, co6, eo6⟩ := Kd.R_slice HO671.out; subst eo6) | ((with_reducible refine gaC_ (f := 59) rfl ?_); refine goesL_ (some 18) rfl rfl Try.func59 (by kernel_rfl) rfl #[.slice Ao6 t667.length co6] rfl (by (try simp only [List.map_toArray, List.map_cons, List.map_nil]); first | done | rfl | (simp only [List.length_drop, List.length_take]; rfl)) ?_; (with_reducible refine (dragnetref04_Unfolded.calls k _ _ t667 t672 _ ?side1 ?side2 A4.out).mono ?_); (case side1 => exact Kd.cu_ (Kd.R_reads' HO671.out).2.2); (case side2 => exact (Kd.R_reads' HO671.out).2.1); rintro e w7 ⟨v673, rfl, ho0, hb⟩; refine ⟨_, rfl, ?_⟩; replace HO671 := Aside0.mk (Kd.R_below (Kd.ru_ HO671.out) hb); have HO674 := Aside0.mk (Kd.R_lower ho0 (pbS_ bw_)); replace HB := Aside0.mk (below_step bw_ hb); (try clear hb); (try clear hb2); (try clear hk); (try clear hi); (try clear ho0)))
 go_ret3
 exact ⟨_, rf_, by (with_reducible repeat (first | apply Kd.rA_ | apply Kd.rN_ | apply Kd.rD_)); exact HO674.out, bw_⟩
mutual
noncomputable def dragnetref10_Take.j0 : Nat → List Int → Int → Int → Bool → Option ((List (S42)) × Int × Int)
 | 0, _, _, _, _ => none
 | k + 1, x0, x5, x6, x26 => if x26 = true then (some (([] : List (S42)), 0, 2)) else ((dragnetref03_Size.f (wrap64 (x5)) 1).bind fun t678 => (if t678 > (wrap64 ((x0.length : Int) - x6)) then (some (([] : List (S42)), 0, 2)) else (if 0 ≤ x6 then (if x6 ≤ (wrap64 (x6 + t678)) then (if (wrap64 (x6 + t678)) ≤ (x0.length : Int) then ((dragnetref03_Unpack.f k ((x0.take ((wrap64 (x6 + t678)) : Int).toNat).drop (x6 : Int).toNat) (wrap64 (x5)) 1).bind fun bt680 => (if bt680.2 = 0 then (if 0 ≤ (wrap64 (x6 + t678)) then ((dragnetref04_TakeInts.f k (x0.drop ((wrap64 (x6 + t678)) : Int).toNat) 4096).bind fun bt685 => (if bt685.2.2 = 0 then (dragnetref10_Take.l0 k (wrap64 (x6 + t678)) bt680.1 bt685.1 bt685.2.1 ([] : List (S42)) 0) else (some (([] : List (S42)), 0, 2)))) else (none)) else (some (([] : List (S42)), 0, 2)))) else (none)) else (none)) else (none))))
noncomputable def dragnetref10_Take.l0 : Nat → Int → List Int → List Int → Int → List (S42) → Int → Option ((List (S42)) × Int × Int)
 | 0, _, _, _, _, _, _ => none
 | k + 1, x6, x9, x10, x11, x12, x13 => if x13 < (x9.length : Int) then (if 0 ≤ x13 then (if (rd x9 x13) = 1 then (if (x10.length : Int) = 0 then (some (([] : List (S42)), 0, 2)) else (if 0 < (x10.length : Int) then (if 1 ≤ (x10.length : Int) then (if x12.length < 8796093022208 then (dragnetref10_Take.l0 k x6 x9 (x10.drop (1 : Int).toNat) x11 (x12 ++ [(⟨((rd x9 x13) == 1), rd x10 0⟩ : S42)]) (wrap64 (x13 + 1))) else (none)) else (none)) else (none))) else (if x12.length < 8796093022208 then (dragnetref10_Take.l0 k x6 x9 x10 x11 (x12 ++ [(⟨((rd x9 x13) == 1), 0⟩ : S42)]) (wrap64 (x13 + 1))) else (none))) else (none)) else (if (x10.length : Int) > 0 then (some (([] : List (S42)), 0, 2)) else (some (x12, wrap64 (x6 + x11), 0)))
end
noncomputable def dragnetref10_Take.f (k : Nat) (l0 : List Int) : Option ((List (S42)) × Int × Int) := (dragnetref02_Take.f k l0).bind fun bt675 => (if bt675.2.2 = 0 then (dragnetref10_Take.j0 k l0 bt675.1 bt675.2.1 (decide (bt675.1 > 4096))) else (dragnetref10_Take.j0 k l0 bt675.1 bt675.2.1 true))
theorem dragnetref10_Take.mono_l : ∀ k, (∀ y0 y1 y2 y3, LeO (dragnetref10_Take.j0 k y0 y1 y2 y3) (dragnetref10_Take.j0 (k + 1) y0 y1 y2 y3)) ∧ (∀ y0 y1 y2 y3 y4 y5, LeO (dragnetref10_Take.l0 k y0 y1 y2 y3 y4 y5) (dragnetref10_Take.l0 (k + 1) y0 y1 y2 y3 y4 y5))
 | 0 => ⟨fun _ _ _ _ r h => by simp [dragnetref10_Take.j0] at h, fun _ _ _ _ _ _ r h => by simp [dragnetref10_Take.l0] at h⟩
 | k + 1 => by
  obtain ⟨ih0, ih1⟩ := dragnetref10_Take.mono_l k
  refine ⟨?_, ?_⟩
  ·intro y0 y1 y2 y3
   unfold dragnetref10_Take.j0
   repeat' first
   | (with_reducible exact ih0 _ _ _ _)
   | (with_reducible exact ih1 _ _ _ _ _ _)
   | (with_reducible exact dragnetref02_Take.mono _ _)
   | (with_reducible exact dragnetref03_Unpack.mono _ _ _ _)
   | (with_reducible exact dragnetref04_TakeInts.mono _ _ _)
   | (with_reducible exact LeO.refl _)
   | (with_reducible exact LeO.none _)
   | (with_reducible refine LeO.ite ?_ ?_)
   | (with_reducible refine LeO.bind ?_ (fun _ => ?_))
  ·intro y0 y1 y2 y3 y4 y5
   unfold dragnetref10_Take.l0
   repeat' first
   | (with_reducible exact ih0 _ _ _ _)
   | (with_reducible exact ih1 _ _ _ _ _ _)
   | (with_reducible exact dragnetref02_Take.mono _ _)
   | (with_reducible exact dragnetref03_Unpack.mono _ _ _ _)
   | (with_reducible exact dragnetref04_TakeInts.mono _ _ _)
   | (with_reducible exact LeO.refl _)
   | (with_reducible exact LeO.none _)
   | (with_reducible refine LeO.ite ?_ ?_)
   | (with_reducible refine LeO.bind ?_ (fun _ => ?_))
theorem dragnetref10_Take.mono : ∀ a0 k, LeO (dragnetref10_Take.f k a0) (dragnetref10_Take.f (k + 1) a0) := by
 intro a0 k
 obtain ⟨ih0, ih1⟩ := dragnetref10_Take.mono_l k
 unfold dragnetref10_Take.f
 repeat' first
   | (with_reducible exact ih0 _ _ _ _)
   | (with_reducible exact ih1 _ _ _ _ _ _)
   | (with_reducible exact dragnetref02_Take.mono _ _)
   | (with_reducible exact dragnetref03_Unpack.mono _ _ _ _)
   | (with_reducible exact dragnetref04_TakeInts.mono _ _ _)
   | (with_reducible exact LeO.refl _)
   | (with_reducible exact LeO.none _)
   | (with_reducible refine LeO.ite ?_ ?_)
   | (with_reducible refine LeO.bind ?_ (fun _ => ?_))
set_option maxHeartbeats 8000000 in
set_option maxRecDepth 100000 in
theorem dragnetref10_Take.calls (k : Nat) (A0 : Option Addr) (c0 : Nat) (l0 : List Int) (r1 : List (S42)) (r2 : Int) (r3 : Int) (w : World) (hr0 : Kd.C (Kd.int .u8) w A0 l0.length l0) (hc0 : l0.length ≤ c0) (h : dragnetref10_Take.f k l0 = some (r1, r2, r3)) :
  Calls Try.prog 25 #[.slice A0 l0.length c0] w fun e w' => ∃ v0_ : Value, e = .returned (.tuple #[v0_, .int .i64 r2, .int .i64 r3]) ∧ Kd.R k42 42 w' w.heap.size (fun _ => True) v0_ r1 ∧ Below w.heap.size w w' := by
 have hu42 := Try.underlying42
 have HR0 := Aside0.mk hr0
 have HC0 := Aside0.mk hc0
 clear hr0 hc0
 have HB := Aside0.mk (Below.refl w.heap.size w)
 have H : ((dragnetref02_Take.f k l0).bind fun bt675 => (if bt675.2.2 = 0 then (dragnetref10_Take.j0 k l0 bt675.1 bt675.2.1 (decide (bt675.1 > 4096))) else (dragnetref10_Take.j0 k l0 bt675.1 bt675.2.1 true))) = some (r1, r2, r3) := h
 clear h
 replace H := Option.bind_eq_some_iff.mp H
 obtain ⟨⟨t675, t676, t677⟩, A20, H⟩ := H
 replace H : (if t677 = 0 then (dragnetref10_Take.j0 k l0 t675 t676 (decide (t675 > 4096))) else (dragnetref10_Take.j0 k l0 t675 t676 true)) = some (r1, r2, r3) := H
 have A2 := Aside0.mk A20
 clear A20
 have HC3 := Aside0.mk H
 clear H
 go_enter Try.func25, Try.ntmps25
 go_upto_region 2 with (first | ((with_reducible refine gaC_ (f := 41) rfl ?_); refine goesL_ (some 17) rfl rfl Try.func41 (by kernel_rfl) rfl #[.slice A0 l0.length c0] rfl (by (try simp only [List.map_toArray, List.map_cons, List.map_nil]); first | done | rfl | (simp only [List.length_drop, List.length_take]; rfl)) ?_; (with_reducible refine (dragnetref02_Take.calls k _ _ l0 t675 t676 t677 _ ?side1 ?side2 A2.out).mono ?_); (case side1 => exact Kd.cu_ HR0.out); (case side2 => exact HC0.out); rintro e w4 ⟨rfl, hb⟩; refine ⟨_, rfl, ?_⟩; replace HB := Aside0.mk (below_step bw_ hb); (try clear hb); (try clear hb2); (try clear hk); (try clear hi)))
 (try simp only [Act.put, List.setIfInBounds_toArray, List.set_cons_zero, List.set_cons_succ])
 go_cut [26] (fun v26 wc => ∃ (kq : Nat) (x26_2 : Bool), v26 = .bool x26_2 ∧ Aside0 (dragnetref10_Take.j0 kq l0 t675 t676 x26_2 = some (r1, r2, r3)) ∧ Aside0 (kq ≤ k) ∧ Aside0 (Below w.heap.size w wc))
 case first =>
  have H := HC3.out
  clear HC3
  by_cases c5 : t677 = 0
  rotate_left
  ·rw [if_neg c5] at H
   have c5b0 : (t677 == 0) = false := beq_eq_false_iff_ne.mpr c5
   have c5b1 : (t677 != 0) = true := bne_iff_ne.mpr c5
   (first | rw [c5b0] | (simp only [i64_w, i32_w]; rw [c5b0]) | skip)
   have H' := Aside0.mk H
   clear H
   go_wp2
   go_meet
   case rel => exact ⟨_, (true), (by first | rfl | (simp; done) | (simp [*]; done)), H', ⟨by first | omega | exact Nat.le_refl _⟩, ⟨bw_⟩⟩
  rw [if_pos c5] at H
  have c5b0 : (t677 == 0) = true := beq_iff_eq.mpr c5
  have c5b1 : (t677 != 0) = false := bne_eq_false_iff_eq.mpr c5
  clear c5
  (first | rw [c5b0] | (simp only [i64_w, i32_w]; rw [c5b0]) | skip)
  have H' := Aside0.mk H
  clear H
  go_wp2
  go_meet
  case rel => exact ⟨_, (decide (t675 > 4096)), (by first | rfl | (simp; done) | (simp [*]; done)), H', ⟨by first | omega | exact Nat.le_refl _⟩, ⟨bw_⟩⟩
 case rest =>
  clear HC3
  try clear c2
  try clear p2
  try clear c4
  try clear c5
  try clear c5b0
  try clear c5b1
  obtain ⟨kq, x26_2, rfl, HA, HJ2, HB⟩ := hcut
  cases kq with
  | zero => exact absurd HA.out (by simp [dragnetref10_Take.j0])
  | succ kj2 =>
   have H := HA.out
   clear HA
   simp only [dragnetref10_Take.j0] at H
   by_cases c6 : x26_2 = true
   ·subst c6
    have H1 : (some (([] : List (S42)), 0, 2)) = some (r1, r2, r3) := by rw [if_pos rfl] at H; exact H
    clear H
    have H := H1
    clear H1
    simp only [Option.some.injEq, Prod.mk.injEq] at H
    obtain ⟨rfl, rfl, rfl⟩ := H
    go_wp2
    go_ret3
    exact ⟨_, rf_, ni_, bw_⟩
   ·replace c6 := Bool.eq_false_iff.mpr c6
    subst c6
    have H1 : ((dragnetref03_Size.f (wrap64 (t675)) 1).bind fun t678 => (if t678 > (wrap64 ((l0.length : Int) - t676)) then (some (([] : List (S42)), 0, 2)) else (if 0 ≤ t676 then (if t676 ≤ (wrap64 (t676 + t678)) then (if (wrap64 (t676 + t678)) ≤ (l0.length : Int) then ((dragnetref03_Unpack.f kj2 ((l0.take ((wrap64 (t676 + t678)) : Int).toNat).drop (t676 : Int).toNat) (wrap64 (t675)) 1).bind fun bt680 => (if bt680.2 = 0 then (if 0 ≤ (wrap64 (t676 + t678)) then ((dragnetref04_TakeInts.f kj2 (l0.drop ((wrap64 (t676 + t678)) : Int).toNat) 4096).bind fun bt685 => (if bt685.2.2 = 0 then (dragnetref10_Take.l0 kj2 (wrap64 (t676 + t678)) bt680.1 bt685.1 bt685.2.1 ([] : List (S42)) 0) else (some (([] : List (S42)), 0, 2)))) else (none)) else (some (([] : List (S42)), 0, 2)))) else (none)) else (none)) else (none)))) = some (r1, r2, r3) := by rw [if_neg (show ¬ (false = true) by decide)] at H; exact H
    clear H
    have H := H1
    clear H1
    replace H := Option.bind_eq_some_iff.mp H
    obtain ⟨t678, A70, H⟩ := H
    replace H : (if t678 > (wrap64 ((l0.length : Int) - t676)) then (some (([] : List (S42)), 0, 2)) else (if 0 ≤ t676 then (if t676 ≤ (wrap64 (t676 + t678)) then (if (wrap64 (t676 + t678)) ≤ (l0.length : Int) then ((dragnetref03_Unpack.f kj2 ((l0.take ((wrap64 (t676 + t678)) : Int).toNat).drop (t676 : Int).toNat) (wrap64 (t675)) 1).bind fun bt680 => (if bt680.2 = 0 then (if 0 ≤ (wrap64 (t676 + t678)) then ((dragnetref04_TakeInts.f kj2 (l0.drop ((wrap64 (t676 + t678)) : Int).toNat) 4096).bind fun bt685 => (if bt685.2.2 = 0 then (dragnetref10_Take.l0 kj2 (wrap64 (t676 + t678)) bt680.1 bt685.1 bt685.2.1 ([] : List (S42)) 0) else (some (([] : List (S42)), 0, 2)))) else (none)) else (some (([] : List (S42)), 0, 2)))) else (none)) else (none)) else (none))) = some (r1, r2, r3) := H
    have A7 := Aside0.mk A70
    clear A70
    by_cases c8 : t678 > (wrap64 ((l0.length : Int) - t676))
    ·rw [if_pos c8] at H
     have c8b0 : decide ((wrap64 ((l0.length : Int) - t676)) < t678) = true := decide_eq_true c8
     clear c8
     simp only [Option.some.injEq, Prod.mk.injEq] at H
     obtain ⟨rfl, rfl, rfl⟩ := H
     go_wp2_with (first | ((with_reducible refine gaC_ (f := 42) rfl ?_); refine goesL_ (some 29) rfl rfl Try.func42 (by kernel_rfl) rfl #[.int .i64 (wrap64 (t675)), .int .i64 1] rfl (by (try simp only [List.map_toArray, List.map_cons, List.map_nil]); first | done | rfl | (simp only [List.length_drop, List.length_take]; rfl)) ?_; (with_reducible refine (dragnetref03_Size.calls (wrap64 (t675)) 1 t678 _ A7.out).mono ?_); rintro e w' ⟨rfl, ⟨nd, rfl⟩⟩; refine ⟨_, rfl, ?_⟩))
     go_ret3
     exact ⟨_, rf_, ni_, bw_⟩
    ·rw [if_neg c8] at H
     have c8b0 : decide ((wrap64 ((l0.length : Int) - t676)) < t678) = false := decide_eq_false c8
     clear c8
     by_cases c9 : 0 ≤ t676
     rotate_left
     ·rw [if_neg c9] at H
      exact absurd H (by simp)
     rw [if_pos c9] at H
     have c9b0 := eq_true c9
     have c9b1 : decide (0 ≤ t676) = true := decide_eq_true c9
     clear c9
     by_cases c10 : t676 ≤ (wrap64 (t676 + t678))
     rotate_left
     ·rw [if_neg c10] at H
      exact absurd H (by simp)
     rw [if_pos c10] at H
     have c10b0 := eq_true c10
     have c10b1 : decide (t676 ≤ (wrap64 (t676 + t678))) = true := decide_eq_true c10
     by_cases c11 : (wrap64 (t676 + t678)) ≤ (l0.length : Int)
     rotate_left
     ·rw [if_neg c11] at H
      exact absurd H (by simp)
     rw [if_pos c11] at H
     have c11b0 := eq_true c11
     have c11b1 : decide ((wrap64 (t676 + t678)) ≤ (l0.length : Int)) = true := decide_eq_true c11
     replace H := Option.bind_eq_some_iff.mp H
     obtain ⟨⟨t680, t681⟩, A120, H⟩ := H
     replace H : (if t681 = 0 then (if 0 ≤ (wrap64 (t676 + t678)) then ((dragnetref04_TakeInts.f kj2 (l0.drop ((wrap64 (t676 + t678)) : Int).toNat) 4096).bind fun bt685 => (if bt685.2.2 = 0 then (dragnetref10_Take.l0 kj2 (wrap64 (t676 + t678)) t680 bt685.1 bt685.2.1 ([] : List (S42)) 0) else (some (([] : List (S42)), 0, 2)))) else (none)) else (some (([] : List (S42)), 0, 2))) = some (r1, r2, r3) := H
     have A12 := Aside0.mk A120
     clear A120
     by_cases c13 : t681 = 0
     rotate_left
     ·rw [if_neg c13] at H
      have c13b0 : (t681 == 0) = false := beq_eq_false_iff_ne.mpr c13
      have c13b1 : (t681 != 0) = true := bne_iff_ne.mpr c13
      simp only [Option.some.injEq, Prod.mk.injEq] at H
      obtain ⟨rfl, rfl, rfl⟩ := H
      go_wp2_with (first | ((with_reducible refine gaC_ (f := 42) rfl ?_); refine goesL_ (some 29) rfl rfl Try.func42 (by kernel_rfl) rfl #[.int .i64 (wrap64 (t675)), .int .i64 1] rfl (by (try simp only [List.map_toArray, List.map_cons, List.map_nil]); first | done | rfl | (simp only [List.length_drop, List.length_take]; rfl)) ?_; (with_reducible refine (dragnetref03_Size.calls (wrap64 (t675)) 1 t678 _ A7.out).mono ?_); rintro e w' ⟨rfl, ⟨nd, rfl⟩⟩; refine ⟨_, rfl, ?_⟩; obtain ⟨i058, hi058, _, hsz58, _⟩ := info_parts info5; obtain ⟨A58, hcut58, hA58, hC58⟩ := print_mid_of (P := Try.prog) (Value.int .u8) 0 22 5 .i64 .i64 Try.underlying22 hi058 hsz58 A0 c0 l0 t676 (wrap64 (t676 + t678)) od_ (by first | omega | exact od_) od_ HC0.out; have HR679 := Aside0.mk (Kd.C_of_reads (h1 := fun _ => rfl) (hA58 _ (Kd.reads_of_C HR0.out))); have HC679 := Aside0.mk hC58; clear hA58 hC58 hi058 hsz58) | ((with_reducible refine gaC_ (f := 43) rfl ?_); refine goesL_ (some 45) rfl rfl Try.func43 (by kernel_rfl) rfl #[.slice A58 ((l0.take ((wrap64 (t676 + t678)) : Int).toNat).drop (t676 : Int).toNat).length (c0 - t676.toNat), .int .i64 (wrap64 (t675)), .int .i64 1] rfl (by (try simp only [List.map_toArray, List.map_cons, List.map_nil]); first | done | (rw [show ((l0.take ((wrap64 (t676 + t678)) : Int).toNat).drop (t676 : Int).toNat).length = ((wrap64 (t676 + t678)).toNat - t676.toNat) from (by rw [List.length_drop, List.length_take]; have h_ : ((wrap64 (t676 + t678)) : Int) ≤ (l0.length : Int) := od_; omega)] <;> rfl) | rfl | (simp only [List.length_drop, List.length_take]; rfl)) ?_; (with_reducible refine (dragnetref03_Unpack.calls kj2 _ _ ((l0.take ((wrap64 (t676 + t678)) : Int).toNat).drop (t676 : Int).toNat) (wrap64 (t675)) 1 t680 t681 _ ?side1 ?side2 A12.out).mono ?_); (case side1 => exact Kd.cu_ (Kd.C_below HR679.out bw_)); (case side2 => exact HC679.out); rintro e w59 ⟨v682, rfl, ho0, hb⟩; refine ⟨_, rfl, ?_⟩; have HO683 := Aside0.mk (Kd.R_lower ho0 (pbS_ bw_)); replace HB := Aside0.mk (below_step bw_ hb); (try clear hb); (try clear hb2); (try clear hk); (try clear hi); (try clear ho0)))
      go_ret3
      exact ⟨_, rf_, ni_, bw_⟩
     rw [if_pos c13] at H
     have c13b0 : (t681 == 0) = true := beq_iff_eq.mpr c13
     have c13b1 : (t681 != 0) = false := bne_eq_false_iff_eq.mpr c13
     clear c13
     obtain ⟨ji14, hji14⟩ : ∃ j_ : Int, (wrap64 (t676 + t678)) = j_ := ⟨_, rfl⟩
     replace H : (if 0 ≤ (ji14) then ((dragnetref04_TakeInts.f kj2 (l0.drop ((ji14) : Int).toNat) 4096).bind fun bt685 => (if bt685.2.2 = 0 then (dragnetref10_Take.l0 kj2 ji14 t680 bt685.1 bt685.2.1 ([] : List (S42)) 0) else (some (([] : List (S42)), 0, 2)))) else (none)) = some (r1, r2, r3) := by first | (rw [hji14] at H; exact H) | (simp only [hji14] at H ⊢; exact H)
     (try rw [hji14] at c10b0)
     (try rw [hji14] at c10b1)
     (try rw [hji14] at c10)
     (try rw [hji14] at c11b0)
     (try rw [hji14] at c11b1)
     (try rw [hji14] at c11)
     (try rw [hji14] at A7)
     (try rw [hji14] at A12)
     have hji14w : (IntKind.i64.wrap (t676 + t678)) = ji14 := (i64_w _).trans hji14
     by_cases c15 : 0 ≤ (ji14)
     rotate_left
     ·rw [if_neg c15] at H
      exact absurd H (by simp)
     rw [if_pos c15] at H
     have c15b0 := eq_true c15
     have c15b1 : decide (0 ≤ (ji14)) = true := decide_eq_true c15
     clear c15
     have c16b0 := eq_true (od_ : (ji14) ≤ (l0.length : Int))
     replace H := Option.bind_eq_some_iff.mp H
     obtain ⟨⟨t685, t686, t687⟩, A170, H⟩ := H
     replace H : (if t687 = 0 then (dragnetref10_Take.l0 kj2 ji14 t680 t685 t686 ([] : List (S42)) 0) else (some (([] : List (S42)), 0, 2))) = some (r1, r2, r3) := H
     have A17 := Aside0.mk A170
     clear A170
     by_cases c18 : t687 = 0
     rotate_left
     ·rw [if_neg c18] at H
      have c18b0 : (t687 == 0) = false := beq_eq_false_iff_ne.mpr c18
      have c18b1 : (t687 != 0) = true := bne_iff_ne.mpr c18
      simp only [Option.some.injEq, Prod.mk.injEq] at H
      obtain ⟨rfl, rfl, rfl⟩ := H
      go_wp2_with (first | ((with_reducible refine gaC_ (f := 42) rfl ?_); refine goesL_ (some 29) rfl rfl Try.func42 (by kernel_rfl) rfl #[.int .i64 (wrap64 (t675)), .int .i64 1] rfl (by (try simp only [List.map_toArray, List.map_cons, List.map_nil]); first | done | rfl | (simp only [List.length_drop, List.length_take]; rfl)) ?_; (with_reducible refine (dragnetref03_Size.calls (wrap64 (t675)) 1 t678 _ A7.out).mono ?_); rintro e w' ⟨rfl, ⟨nd, rfl⟩⟩; refine ⟨_, rfl, ?_⟩; obtain ⟨i054, hi054, _, hsz54, _⟩ := info_parts info5; obtain ⟨A54, hcut54, hA54, hC54⟩ := print_mid_of (P := Try.prog) (Value.int .u8) 0 22 5 .i64 .i64 Try.underlying22 hi054 hsz54 A0 c0 l0 t676 (ji14) od_ (by first | omega | exact od_) od_ HC0.out; have HR679 := Aside0.mk (Kd.C_of_reads (h1 := fun _ => rfl) (hA54 _ (Kd.reads_of_C HR0.out))); have HC679 := Aside0.mk hC54; clear hA54 hC54 hi054 hsz54) | ((with_reducible refine gaC_ (f := 43) rfl ?_); refine goesL_ (some 45) rfl rfl Try.func43 (by kernel_rfl) rfl #[.slice A54 ((l0.take ((ji14) : Int).toNat).drop (t676 : Int).toNat).length (c0 - t676.toNat), .int .i64 (wrap64 (t675)), .int .i64 1] rfl (by (try simp only [List.map_toArray, List.map_cons, List.map_nil]); first | done | (rw [show ((l0.take ((ji14) : Int).toNat).drop (t676 : Int).toNat).length = ((ji14).toNat - t676.toNat) from (by rw [List.length_drop, List.length_take]; have h_ : ((ji14) : Int) ≤ (l0.length : Int) := od_; omega)] <;> rfl) | (simp only [hji14]; rfl) | rfl | (simp only [List.length_drop, List.length_take]; rfl)) ?_; (with_reducible refine (dragnetref03_Unpack.calls kj2 _ _ ((l0.take ((ji14) : Int).toNat).drop (t676 : Int).toNat) (wrap64 (t675)) 1 t680 t681 _ ?side1 ?side2 A12.out).mono ?_); (case side1 => exact Kd.cu_ (Kd.C_below HR679.out bw_)); (case side2 => exact HC679.out); rintro e w55 ⟨v682, rfl, ho0, hb⟩; refine ⟨_, rfl, ?_⟩; have HO683 := Aside0.mk (Kd.R_lower ho0 (pbS_ bw_)); replace HB := Aside0.mk (below_step bw_ hb); (try clear hb); (try clear hb2); (try clear hk); (try clear hi); (try clear ho0); obtain ⟨i056, hi056, _, hsz56, _⟩ := info_parts info5; obtain ⟨A56, hcut56, hA56, hC56⟩ := print_drop_of (P := Try.prog) (Value.int .u8) 0 22 5 .i64 Try.underlying22 hi056 hsz56 A0 c0 l0 (ji14) od_ od_ HC0.out; have HR684 := Aside0.mk (Kd.C_of_reads (h1 := fun _ => rfl) (hA56 _ (Kd.reads_of_C HR0.out))); have HC684 := Aside0.mk hC56; clear hA56 hC56 hi056 hsz56) | ((with_reducible refine gaC_ (f := 44) rfl ?_); refine goesL_ (some 57) rfl rfl Try.func44 (by kernel_rfl) rfl #[.slice A56 (l0.drop ((ji14) : Int).toNat).length (c0 - (ji14).toNat), .int .i64 4096] rfl (by (try simp only [List.map_toArray, List.map_cons, List.map_nil]); first | done | (rw [show (l0.drop ((ji14) : Int).toNat).length = (l0.length - (ji14).toNat) from List.length_drop] <;> rfl) | (simp only [hji14]; rfl) | rfl | (simp only [List.length_drop, List.length_take]; rfl)) ?_; (with_reducible refine (dragnetref04_TakeInts.calls kj2 _ _ (l0.drop ((ji14) : Int).toNat) 4096 t685 t686 t687 _ ?side1 ?side2 A17.out).mono ?_); (case side1 => exact Kd.cu_ (Kd.C_below HR684.out HB.out)); (case side2 => exact HC684.out); rintro e w57 ⟨v688, rfl, ho0, hb⟩; refine ⟨_, rfl, ?_⟩; replace HO683 := Aside0.mk (Kd.R_below (Kd.ru_ HO683.out) hb); have HO689 := Aside0.mk (Kd.R_lower ho0 (pbS_ bw_)); replace HB := Aside0.mk (below_step bw_ hb); (try clear hb); (try clear hb2); (try clear hk); (try clear hi); (try clear ho0)))
      go_ret3
      exact ⟨_, by first | rfl | (simp [eWn_, eWs_] <;> rfl) | (simp only [← hji14]; first | rfl | (simp [eWn_, eWs_] <;> rfl)) | (simp [*, eWn_, eWs_] <;> rfl), ni_, bw_⟩
     rw [if_pos c18] at H
     have c18b0 : (t687 == 0) = true := beq_iff_eq.mpr c18
     have c18b1 : (t687 != 0) = false := bne_eq_false_iff_eq.mpr c18
     clear c18
     have H' := Aside0.mk H
     clear H
     go_wp2_with (first | ((with_reducible refine gaC_ (f := 42) rfl ?_); refine goesL_ (some 29) rfl rfl Try.func42 (by kernel_rfl) rfl #[.int .i64 (wrap64 (t675)), .int .i64 1] rfl (by (try simp only [List.map_toArray, List.map_cons, List.map_nil]); first | done | rfl | (simp only [List.length_drop, List.length_take]; rfl)) ?_; (with_reducible refine (dragnetref03_Size.calls (wrap64 (t675)) 1 t678 _ A7.out).mono ?_); rintro e w' ⟨rfl, ⟨nd, rfl⟩⟩; refine ⟨_, rfl, ?_⟩; obtain ⟨i019, hi019, _, hsz19, _⟩ := info_parts info5; obtain ⟨A19, hcut19, hA19, hC19⟩ := print_mid_of (P := Try.prog) (Value.int .u8) 0 22 5 .i64 .i64 Try.underlying22 hi019 hsz19 A0 c0 l0 t676 (ji14) od_ (by first | omega | exact od_) od_ HC0.out; have HR679 := Aside0.mk (Kd.C_of_reads (h1 := fun _ => rfl) (hA19 _ (Kd.reads_of_C HR0.out))); have HC679 := Aside0.mk hC19; clear hA19 hC19 hi019 hsz19) | ((with_reducible refine gaC_ (f := 43) rfl ?_); refine goesL_ (some 45) rfl rfl Try.func43 (by kernel_rfl) rfl #[.slice A19 ((l0.take ((ji14) : Int).toNat).drop (t676 : Int).toNat).length (c0 - t676.toNat), .int .i64 (wrap64 (t675)), .int .i64 1] rfl (by (try simp only [List.map_toArray, List.map_cons, List.map_nil]); first | done | (rw [show ((l0.take ((ji14) : Int).toNat).drop (t676 : Int).toNat).length = ((ji14).toNat - t676.toNat) from (by rw [List.length_drop, List.length_take]; have h_ : ((ji14) : Int) ≤ (l0.length : Int) := od_; omega)] <;> rfl) | (simp only [hji14]; rfl) | rfl | (simp only [List.length_drop, List.length_take]; rfl)) ?_; (with_reducible refine (dragnetref03_Unpack.calls kj2 _ _ ((l0.take ((ji14) : Int).toNat).drop (t676 : Int).toNat) (wrap64 (t675)) 1 t680 t681 _ ?side1 ?side2 A12.out).mono ?_); (case side1 => exact Kd.cu_ (Kd.C_below HR679.out bw_)); (case side2 => exact HC679.out); rintro e w20 ⟨v682, rfl, ho0, hb⟩; refine ⟨_, rfl, ?_⟩; have HO683 := Aside0.mk (Kd.R_lower ho0 (pbS_ bw_)); replace HB := Aside0.mk (below_step bw_ hb); (try clear hb); (try clear hb2); (try clear hk); (try clear hi); (try clear ho0); obtain ⟨i021, hi021, _, hsz21, _⟩ := info_parts info5; obtain ⟨A21, hcut21, hA21, hC21⟩ := print_drop_of (P := Try.prog) (Value.int .u8) 0 22 5 .i64 Try.underlying22 hi021 hsz21 A0 c0 l0 (ji14) od_ od_ HC0.out; have HR684 := Aside0.mk (Kd.C_of_reads (h1 := fun _ => rfl) (hA21 _ (Kd.reads_of_C HR0.out))); have HC684 := Aside0.mk hC21; clear hA21 hC21 hi021 hsz21) | ((with_reducible refine gaC_ (f := 44) rfl ?_); refine goesL_ (some 57) rfl rfl Try.func44 (by kernel_rfl) rfl #[.slice A21 (l0.drop ((ji14) : Int).toNat).length (c0 - (ji14).toNat), .int .i64 4096] rfl (by (try simp only [List.map_toArray, List.map_cons, List.map_nil]); first | done | (rw [show (l0.drop ((ji14) : Int).toNat).length = (l0.length - (ji14).toNat) from List.length_drop] <;> rfl) | (simp only [hji14]; rfl) | rfl | (simp only [List.length_drop, List.length_take]; rfl)) ?_; (with_reducible refine (dragnetref04_TakeInts.calls kj2 _ _ (l0.drop ((ji14) : Int).toNat) 4096 t685 t686 t687 _ ?side1 ?side2 A17.out).mono ?_); (case side1 => exact Kd.cu_ (Kd.C_below HR684.out HB.out)); (case side2 => exact HC684.out); rintro e w22 ⟨v688, rfl, ho0, hb⟩; refine ⟨_, rfl, ?_⟩; replace HO683 := Aside0.mk (Kd.R_below (Kd.ru_ HO683.out) hb); have HO689 := Aside0.mk (Kd.R_lower ho0 (pbS_ bw_)); replace HB := Aside0.mk (below_step bw_ hb); (try clear hb); (try clear hb2); (try clear hk); (try clear hi); (try clear ho0)))
     go_loopg [10, 12, 13] kj2 (fun kq v10 v12 v13 w' => ∃ (x10_2 : List Int) (x12_2 : List (S42)) (x13_2 : Int), v13 = .int .i64 x13_2 ∧ Aside0 (dragnetref10_Take.l0 kq ji14 t680 x10_2 t686 x12_2 x13_2 = some (r1, r2, r3)) ∧ Aside0 (kq ≤ kj2) ∧ Aside0 (Kd.R (Kd.int .u64) 50 w' w.heap.size (fun _ => True) v682 t680) ∧ Aside0 (Kd.Q (Kd.int .i64) 3 w' w.heap.size (fun _ => True) v10 x10_2) ∧ Aside0 (Kd.R k42 42 w' w.heap.size (fun _ => True) v12 x12_2) ∧ Aside0 (Below w.heap.size w w'))
     case atStart => exact ⟨(t685), (([] : List (S42))), (0), (by first | rfl | (simp; done) | (simp [*]; done)), H', ⟨Nat.le_refl _⟩, ⟨Kd.ru_ HO683.out⟩, ⟨Kd.Q_of_R (Kd.ru_ HO689.out)⟩, ⟨ni_⟩, ⟨bw_⟩⟩
     case round =>
      clear H'
      try clear c1
      try clear c2
      try clear p2
      try clear c4
      try clear c5
      try clear c5b0
      try clear c5b1
      try clear c6
      try clear p6
      try clear c8
      try clear c8b0
      try clear c9
      try clear c9b0
      try clear c9b1
      try clear c10
      try clear c10b0
      try clear c10b1
      try clear c11
      try clear c11b0
      try clear c11b1
      try clear c13
      try clear c13b0
      try clear c13b1
      try clear c15
      try clear c15b0
      try clear c15b1
      try clear c16
      try clear c16b0
      try clear c18
      try clear c18b0
      try clear c18b1
      try clear p2
      obtain ⟨x10_2, x12_2, x13_2, rfl, HA, HK2, HO_9, HO_10, HO_12, HB⟩ := hrel
      cases gk with
      | zero => exact absurd HA.out (by simp [dragnetref10_Take.l0])
      | succ k2 =>
       have H := HA.out
       clear HA
       simp only [dragnetref10_Take.l0] at H
       by_cases c23 : x13_2 < (t680.length : Int)
       rotate_left
       ·rw [if_neg c23] at H
        have c23b0 : decide (x13_2 < (t680.length : Int)) = false := decide_eq_false c23
        clear c23
        by_cases c49 : (x10_2.length : Int) > 0
        rotate_left
        ·rw [if_neg c49] at H
         have c49b0 : decide (0 < (x10_2.length : Int)) = false := decide_eq_false c49
         have c49b1 : decide (0 < x10_2.length) = false := decide_eq_false (by omega)
         clear c49
         simp only [Option.some.injEq, Prod.mk.injEq] at H
         obtain ⟨rfl, rfl, rfl⟩ := H
         obtain ⟨Ao52, co52, eo52⟩ := Kd.R_slice HO_9.out
         subst eo52
         obtain ⟨Ao53, co53, eo53, _⟩ := Kd.Q_slice HO_10.out
         subst eo53
         go_wp2
         go_ret3
         exact ⟨_, by first | rfl | (simp [eWn_, eWs_] <;> rfl) | (simp only [← hji14]; first | rfl | (simp [eWn_, eWs_] <;> rfl)) | (simp [*, eWn_, eWs_] <;> rfl), by (with_reducible repeat (first | apply Kd.rA_ | apply Kd.rN_ | apply Kd.rD_)); exact HO_12.out, bw_⟩
        rw [if_pos c49] at H
        have c49b0 : decide (0 < (x10_2.length : Int)) = true := decide_eq_true c49
        have c49b1 : decide (0 < x10_2.length) = true := decide_eq_true (by omega)
        clear c49
        simp only [Option.some.injEq, Prod.mk.injEq] at H
        obtain ⟨rfl, rfl, rfl⟩ := H
        obtain ⟨Ao50, co50, eo50⟩ := Kd.R_slice HO_9.out
        subst eo50
        obtain ⟨Ao51, co51, eo51, _⟩ := Kd.Q_slice HO_10.out
        subst eo51
        go_wp2
        go_ret3
        exact ⟨_, by first | rfl | (simp [eWn_, eWs_] <;> rfl) | (simp only [← hji14]; first | rfl | (simp [eWn_, eWs_] <;> rfl)) | (simp [*, eWn_, eWs_] <;> rfl), ni_, bw_⟩
       rw [if_pos c23] at H
       have c23b0 : decide (x13_2 < (t680.length : Int)) = true := decide_eq_true c23
       clear c23
       by_cases c24 : 0 ≤ x13_2
       rotate_left
       ·rw [if_neg c24] at H
        exact absurd H (by simp)
       rw [if_pos c24] at H
       have c24b0 : decide (0 ≤ x13_2) = true := decide_eq_true c24
       clear c24
       by_cases c25 : (rd t680 x13_2) = 1
       rotate_left
       ·rw [if_neg c25] at H
        have c25b0 : ((rd t680 x13_2) == 1) = false := beq_eq_false_iff_ne.mpr c25
        (try rw [c25b0] at H)
        have c25b1 : ((rd t680 x13_2) != 1) = true := bne_iff_ne.mpr c25
        by_cases c44 : x12_2.length < 8796093022208
        rotate_left
        ·rw [if_neg c44] at H
         exact absurd H (by simp)
        rw [if_pos c44] at H
        have LMc44 := Aside0.mk c44
        clear c44
        obtain ⟨y699, hy699⟩ : ∃ y_ : List (S42), y_ = (x12_2 ++ [(⟨false, 0⟩ : S42)]) := ⟨_, rfl⟩
        replace H : (dragnetref10_Take.l0 k2 ji14 t680 x10_2 t686 y699 (wrap64 (x13_2 + 1))) = some (r1, r2, r3) := by first | (rw [hy699]; with_reducible exact H) | (have H2_ := (Option.bind_some _ _).symm.trans H; rw [hy699]; with_reducible exact H2_) | (have H2_ := (Option.bind_some _ _).symm.trans H; with_reducible exact H2_) | with_reducible exact H | (rw [hy699]; exact H) | exact H
        have Ny699 := Aside0.mk hy699
        clear hy699
        have H' := Aside0.mk H
        clear H
        obtain ⟨Ao45, co45, eo45⟩ := Kd.R_slice HO_9.out
        subst eo45
        have p690 : 0 ≤ (x13_2 : Int) := od_
        have q690 : x13_2 < (t680.length : Int) := od_
        obtain ⟨ad690, e690, hx690_0⟩ := Kd.at_int (Kd.R_reads' HO_9.out).2.2 x13_2 p690 q690
        cases e690
        replace p690 := eq_true p690
        replace q690 := eq_true q690
        go_wp2_with (first | ((with_reducible refine gate_dst (N := 14) rfl ?_); refine box_event ?hg (N := 14) ?hd (cs := #[.bool false, .int .i64 0]) (t := 42) ?hr ?_; (case hd => rfl); (case hg => rfl); (case hr => first | (go_simp; done) | (go_simp; rfl)); intro gb691 hg w46 hbox hb; have n0_ := Aside0.mk (Kd.R_below (Kd.ru_ HO_9.out) hb); have n1_ := Aside0.mk (Kd.Q_below (by (with_reducible repeat (first | apply Kd.Q_alloc | apply Kd.Q_drewN | apply Kd.Q_drew)); exact HO_10.out) hb); have n2_ := Aside0.mk (Kd.R_below (Kd.R_elderB (Kd.ru_ HO_12.out) gb691 (Nat.le_of_eq hg.symm)) hb); have n3_ := Aside0.mk (below_step bw_ hb); have n4_ := Aside0.mk (hbox); have n5_ := Aside0.mk ((by rw [hg]; exact (pbS_ bw_) : w.heap.size ≤ gb691)); have n6_ := Aside0.mk ((by rw [hg]; exact (pbS_ bw_) : w.heap.size ≤ gb691)); clear HO_9; clear HO_10; clear HO_12; clear HB; have HO_9 := n0_; have HO_10 := n1_; have HO_12 := n2_; have HB := n3_; have BK691 := n4_; have GW691 := n5_; have GE691 := n6_; clear n0_ n1_ n2_ n3_ n4_ n5_ n6_; clear hb hbox hg; have hcz47_0 : w46.cell? ⟨gb691, 0, none⟩ = some (.bool false) := (blk_cell BK691.out 0).trans rfl; have hcz47_1 : w46.cell? ⟨gb691, 1, none⟩ = some (.int .i64 0) := (blk_cell BK691.out 1).trans rfl; have hfz47_0 := blk_frozen BK691.out 0; have hfz47_1 := blk_frozen BK691.out 1) | ((with_reducible refine gate_builtin (b := .append) (xs := #[.tmp 86, .tmp 88]) rfl ?_); at_builtin; refine Kd.R_append k42 (w0 := w) w.heap.size rfl (.tmp 86) (.tmp 88) 23 42 (.agg #[(.bool false), (.int .i64 0)]) 16 rfl Try.underlying23 info42 rfl (by decide) (by omega) u12 x12_2 (⟨false, 0⟩ : S42) [.bool false, .int .i64 0] (fun k_ => k_ ≠ gb691) (fun _ => False) rfl (by first | (go_simp; done) | (go_simp; rfl)) ?aP (fun _ hk => hk.elim) ?aF ?aO ?aB ?aS ?aL ?_; (case aP => exact k42_mkM _ _ _ (⟨false, 0⟩ : S42)); (case aB => exact (by repeat (first | (with_reducible first | exact HB.out | apply pbA_ | apply pbN_ | apply pb1_ | refine below_set ?_ GE691.out) | exact HB.out))); (case aF => exact (fun k_ hk => Kd.freshB (g := gb691) (o := .cells #[.bool false, .int .i64 0] 42 (0, 0)) (by (with_reducible repeat (first | refine blk_drewN ?_ _ | refine blk_drew ?_ | refine blk_alloc ?_ _)); refine blk_put (cs := #[.bool false, .int .i64 0]) ?_ 1 _ rfl; (with_reducible repeat (first | refine blk_drewN ?_ _ | refine blk_drew ?_ | refine blk_alloc ?_ _)); refine blk_put (cs := #[.bool false, .int .i64 0]) ?_ 0 _ rfl; (with_reducible repeat (first | refine blk_drewN ?_ _ | refine blk_drew ?_ | refine blk_alloc ?_ _)); exact BK691.out) k_ hk)); (case aO => exact (by (with_reducible repeat (first | apply Kd.rA_ | apply Kd.rN_ | apply Kd.rD_)); exact Kd.R_mono (Kd.R_far (p := ⟨gb691, 1, none⟩) (Kd.R_far (p := ⟨gb691, 0, none⟩) (Kd.R_mono HO_12.out (fun k_ hk => (⟨hk, hk.2⟩ : _ ∧ k_ ≠ gb691))) (fun _ hk => hk.2) (.bool false)) (fun _ hk => hk.2) (.int .i64 0)) (fun _ hk => hk.1.2))); (case aS => exact (pbS_ (by repeat (first | (with_reducible first | exact HB.out | apply pbA_ | apply pbN_ | apply pb1_ | refine below_set ?_ GE691.out) | exact HB.out)))); (case aL => have := LMc44.out; omega); intro v700 w48 ho hb hg hat; rw [← Ny699.out] at ho; have n0_ := Aside0.mk (Kd.R_over' (by (with_reducible repeat (first | apply Kd.rA_ | apply Kd.rN_ | apply Kd.rD_)); exact (Kd.R_mono (Kd.R_far (p := ⟨gb691, 1, none⟩) (Kd.R_far (p := ⟨gb691, 0, none⟩) (Kd.R_types HO_9.out BK691.out (by decide)) (fun _ hk => hk.2) (.bool false)) (fun _ hk => hk.2) (.int .i64 0)) (fun _ h_ => h_.1))) (Kd.R_typed (by (with_reducible repeat (first | apply Kd.rA_ | apply Kd.rN_ | apply Kd.rD_)); exact (Kd.R_mono (Kd.R_far (p := ⟨gb691, 1, none⟩) (Kd.R_far (p := ⟨gb691, 0, none⟩) (Kd.R_mono HO_12.out (fun k_ hk => (⟨hk, hk.2⟩ : _ ∧ k_ ≠ gb691))) (fun _ hk => hk.2) (.bool false)) (fun _ hk => hk.2) (.int .i64 0)) (fun _ h_ => h_.1)))) (by decide) hg); have n1_ := Aside0.mk (Kd.Q_over' (by (with_reducible repeat (first | apply Kd.Q_alloc | apply Kd.Q_drewN | apply Kd.Q_drew)); exact (Kd.Q_mono (Kd.Q_far (p := ⟨gb691, 1, none⟩) (Kd.Q_far (p := ⟨gb691, 0, none⟩) (Kd.Q_types HO_10.out BK691.out (by decide)) (fun _ hk => hk.2) (.bool false)) (fun _ hk => hk.2) (.int .i64 0)) (fun _ h_ => h_.1))) (Kd.R_typed (by (with_reducible repeat (first | apply Kd.rA_ | apply Kd.rN_ | apply Kd.rD_)); exact (Kd.R_mono (Kd.R_far (p := ⟨gb691, 1, none⟩) (Kd.R_far (p := ⟨gb691, 0, none⟩) (Kd.R_mono HO_12.out (fun k_ hk => (⟨hk, hk.2⟩ : _ ∧ k_ ≠ gb691))) (fun _ hk => hk.2) (.bool false)) (fun _ hk => hk.2) (.int .i64 0)) (fun _ h_ => h_.1)))) (by decide) hg); have n2_ := Aside0.mk (blk_grown (g := gb691) (o := .cells #[.bool false, .int .i64 0] 42 (0, 0)) (by (with_reducible repeat (first | refine blk_drewN ?_ _ | refine blk_drew ?_ | refine blk_alloc ?_ _)); refine blk_put (cs := #[.bool false, .int .i64 0]) ?_ 1 _ rfl; (with_reducible repeat (first | refine blk_drewN ?_ _ | refine blk_drew ?_ | refine blk_alloc ?_ _)); refine blk_put (cs := #[.bool false, .int .i64 0]) ?_ 0 _ rfl; (with_reducible repeat (first | refine blk_drewN ?_ _ | refine blk_drew ?_ | refine blk_alloc ?_ _)); exact BK691.out) hg (Kd.R_away HO_12.out (fun _ hk => hk.2))); have n3_ := Aside0.mk (hb); have n4_ := Aside0.mk (ho); clear HO_9; clear HO_10; clear BK691; clear HB; clear HO_12; have HO_9 := n0_; have HO_10 := n1_; have BK691 := n2_; have HB := n3_; have HO701 := n4_; clear n0_ n1_ n2_ n3_ n4_; clear ho hb hg hat))
        go_roundg k2
        case measure => have := HJ2.out; have := HK2.out; omega
        case rel => exact ⟨(x10_2), (y699), (wrap64 (x13_2 + 1)), (by first | rfl | (simp; done) | (simp [*]; done)), H', ⟨by have := HJ2.out; have := HK2.out; omega⟩, ⟨Kd.ru_ HO_9.out⟩, ⟨by (with_reducible repeat (first | apply Kd.Q_alloc | apply Kd.Q_drewN | apply Kd.Q_drew)); exact HO_10.out⟩, ⟨by (with_reducible repeat (first | apply Kd.rA_ | apply Kd.rN_ | apply Kd.rD_)); exact Kd.R_mono HO701.out (fun _ hk => trivial)⟩, ⟨by repeat (first | (with_reducible first | exact HB.out | apply pbA_ | apply pbN_ | apply pb1_ | refine below_set ?_ GE691.out) | exact HB.out)⟩⟩
       rw [if_pos c25] at H
       have c25b0 : ((rd t680 x13_2) == 1) = true := beq_iff_eq.mpr c25
       (try rw [c25b0] at H)
       have c25b1 : ((rd t680 x13_2) != 1) = false := bne_eq_false_iff_eq.mpr c25
       clear c25
       by_cases c26 : (x10_2.length : Int) = 0
       ·rw [if_pos c26] at H
        have c26b0 : ((x10_2.length : Int) == 0) = true := beq_iff_eq.mpr c26
        have c26b1 : ((x10_2.length : Int) != 0) = false := bne_eq_false_iff_eq.mpr c26
        clear c26
        simp only [Option.some.injEq, Prod.mk.injEq] at H
        obtain ⟨rfl, rfl, rfl⟩ := H
        obtain ⟨Ao27, co27, eo27⟩ := Kd.R_slice HO_9.out
        subst eo27
        have p690 : 0 ≤ (x13_2 : Int) := od_
        have q690 : x13_2 < (t680.length : Int) := od_
        obtain ⟨ad690, e690, hx690_0⟩ := Kd.at_int (Kd.R_reads' HO_9.out).2.2 x13_2 p690 q690
        cases e690
        replace p690 := eq_true p690
        replace q690 := eq_true q690
        go_wp2_with (first | ((with_reducible refine gate_dst (N := 14) rfl ?_); refine box_event ?hg (N := 14) ?hd (cs := #[.bool false, .int .i64 0]) (t := 42) ?hr ?_; (case hd => rfl); (case hg => rfl); (case hr => first | (go_simp; done) | (go_simp; rfl)); intro gb691 hg w28 hbox hb; have n0_ := Aside0.mk (Kd.R_below (Kd.ru_ HO_9.out) hb); have n1_ := Aside0.mk (Kd.Q_below (by (with_reducible repeat (first | apply Kd.Q_alloc | apply Kd.Q_drewN | apply Kd.Q_drew)); exact HO_10.out) hb); have n2_ := Aside0.mk (Kd.R_below (Kd.R_elderB (Kd.ru_ HO_12.out) gb691 (Nat.le_of_eq hg.symm)) hb); have n3_ := Aside0.mk (below_step bw_ hb); have n4_ := Aside0.mk (hbox); have n5_ := Aside0.mk ((by rw [hg]; exact (pbS_ bw_) : w.heap.size ≤ gb691)); have n6_ := Aside0.mk ((by rw [hg]; exact (pbS_ bw_) : w.heap.size ≤ gb691)); clear HO_9; clear HO_10; clear HO_12; clear HB; have HO_9 := n0_; have HO_10 := n1_; have HO_12 := n2_; have HB := n3_; have BK691 := n4_; have GW691 := n5_; have GE691 := n6_; clear n0_ n1_ n2_ n3_ n4_ n5_ n6_; clear hb hbox hg; have hcz29_0 : w28.cell? ⟨gb691, 0, none⟩ = some (.bool false) := (blk_cell BK691.out 0).trans rfl; have hcz29_1 : w28.cell? ⟨gb691, 1, none⟩ = some (.int .i64 0) := (blk_cell BK691.out 1).trans rfl; have hfz29_0 := blk_frozen BK691.out 0; have hfz29_1 := blk_frozen BK691.out 1; obtain ⟨Ao30, co30, eo30, _⟩ := Kd.Q_slice HO_10.out; subst eo30))
        go_ret3
        exact ⟨_, by first | rfl | (simp [eWn_, eWs_] <;> rfl) | (simp only [← hji14]; first | rfl | (simp [eWn_, eWs_] <;> rfl)) | (simp [*, eWn_, eWs_] <;> rfl), ni_, by repeat (first | (with_reducible first | exact HB.out | apply pbA_ | apply pbN_ | apply pb1_ | refine below_set ?_ GE691.out) | exact HB.out)⟩
       ·rw [if_neg c26] at H
        have c26b0 : ((x10_2.length : Int) == 0) = false := beq_eq_false_iff_ne.mpr c26
        have c26b1 : ((x10_2.length : Int) != 0) = true := bne_iff_ne.mpr c26
        have c26b2 : ¬ (x10_2 = []) := fun h_ => c26 (by rw [h_]; rfl)
        by_cases c31 : 0 < (x10_2.length : Int)
        rotate_left
        ·rw [if_neg c31] at H
         exact absurd H (by simp)
        rw [if_pos c31] at H
        have c31b0 : decide (0 < (x10_2.length : Int)) = true := decide_eq_true c31
        have c31b1 : decide (0 < x10_2.length) = true := decide_eq_true (by omega)
        clear c31
        by_cases c32 : 1 ≤ (x10_2.length : Int)
        rotate_left
        ·rw [if_neg c32] at H
         exact absurd H (by simp)
        rw [if_pos c32] at H
        have c32b0 := eq_true c32
        have c32b1 : decide (1 ≤ (x10_2.length : Int)) = true := decide_eq_true c32
        clear c32
        obtain ⟨y693, hy693⟩ : ∃ y_ : List Int, y_ = (x10_2.drop (1 : Int).toNat) := ⟨_, rfl⟩
        replace H : (if x12_2.length < 8796093022208 then (dragnetref10_Take.l0 k2 ji14 t680 y693 t686 (x12_2 ++ [(⟨true, rd x10_2 0⟩ : S42)]) (wrap64 (x13_2 + 1))) else (none)) = some (r1, r2, r3) := by first | (rw [hy693]; with_reducible exact H) | (have H2_ := (Option.bind_some _ _).symm.trans H; rw [hy693]; with_reducible exact H2_) | (have H2_ := (Option.bind_some _ _).symm.trans H; with_reducible exact H2_) | with_reducible exact H | (rw [hy693]; exact H) | exact H
        have Ny693 := Aside0.mk hy693
        clear hy693
        by_cases c33 : x12_2.length < 8796093022208
        rotate_left
        ·rw [if_neg c33] at H
         exact absurd H (by simp)
        rw [if_pos c33] at H
        have LMc33 := Aside0.mk c33
        clear c33
        obtain ⟨y696, hy696⟩ : ∃ y_ : List (S42), y_ = (x12_2 ++ [(⟨true, rd x10_2 0⟩ : S42)]) := ⟨_, rfl⟩
        replace H : (dragnetref10_Take.l0 k2 ji14 t680 y693 t686 y696 (wrap64 (x13_2 + 1))) = some (r1, r2, r3) := by first | (rw [hy696]; with_reducible exact H) | (have H2_ := (Option.bind_some _ _).symm.trans H; rw [hy696]; with_reducible exact H2_) | (have H2_ := (Option.bind_some _ _).symm.trans H; with_reducible exact H2_) | with_reducible exact H | (rw [hy696]; exact H) | exact H
        have Ny696 := Aside0.mk hy696
        clear hy696
        have H' := Aside0.mk H
        clear H
        obtain ⟨Ao34, co34, eo34⟩ := Kd.R_slice HO_9.out
        subst eo34
        have p690 : 0 ≤ (x13_2 : Int) := od_
        have q690 : x13_2 < (t680.length : Int) := od_
        obtain ⟨ad690, e690, hx690_0⟩ := Kd.at_int (Kd.R_reads' HO_9.out).2.2 x13_2 p690 q690
        cases e690
        replace p690 := eq_true p690
        replace q690 := eq_true q690
        go_wp2_with (first | ((with_reducible refine gate_dst (N := 14) rfl ?_); refine box_event ?hg (N := 14) ?hd (cs := #[.bool false, .int .i64 0]) (t := 42) ?hr ?_; (case hd => rfl); (case hg => rfl); (case hr => first | (go_simp; done) | (go_simp; rfl)); intro gb691 hg w35 hbox hb; have n0_ := Aside0.mk (Kd.R_below (Kd.ru_ HO_9.out) hb); have n1_ := Aside0.mk (Kd.Q_below (by (with_reducible repeat (first | apply Kd.Q_alloc | apply Kd.Q_drewN | apply Kd.Q_drew)); exact HO_10.out) hb); have n2_ := Aside0.mk (Kd.R_below (Kd.R_elderB (Kd.ru_ HO_12.out) gb691 (Nat.le_of_eq hg.symm)) hb); have n3_ := Aside0.mk (below_step bw_ hb); have n4_ := Aside0.mk (hbox); have n5_ := Aside0.mk ((by rw [hg]; exact (pbS_ bw_) : w.heap.size ≤ gb691)); have n6_ := Aside0.mk ((by rw [hg]; exact (pbS_ bw_) : w.heap.size ≤ gb691)); clear HO_9; clear HO_10; clear HO_12; clear HB; have HO_9 := n0_; have HO_10 := n1_; have HO_12 := n2_; have HB := n3_; have BK691 := n4_; have GW691 := n5_; have GE691 := n6_; clear n0_ n1_ n2_ n3_ n4_ n5_ n6_; clear hb hbox hg; have hcz36_0 : w35.cell? ⟨gb691, 0, none⟩ = some (.bool false) := (blk_cell BK691.out 0).trans rfl; have hcz36_1 : w35.cell? ⟨gb691, 1, none⟩ = some (.int .i64 0) := (blk_cell BK691.out 1).trans rfl; have hfz36_0 := blk_frozen BK691.out 0; have hfz36_1 := blk_frozen BK691.out 1) | ((with_reducible refine gate_store (t := 42) (p := 14) rfl ?_); refine store_event (t := 42) (p := 14) (v := ?vo_w37) (w1 := ((w35.setCell ⟨gb691, 0, none⟩ (.bool true)).setCell ⟨gb691, 1, none⟩ (.int .i64 0))) ?hg ?ho ?hn ?hr ?_; (case ho => rfl); (case hg => rfl); (case hn => rfl); (case hr => first | (go_simp; done) | (go_simp; rfl)); intro w37 hw; have n0_ : Aside0 (Kd.R (Kd.int .u64) 50 w37 w.heap.size (fun _ => True) (.slice (some ad690) t680.length co34) t680) := ⟨(by rw [hw]; exact (by (with_reducible repeat (first | apply Kd.rA_ | apply Kd.rN_ | apply Kd.rD_)); exact Kd.R_mono (Kd.R_far (p := ⟨gb691, 1, none⟩) (Kd.R_far (p := ⟨gb691, 0, none⟩) (Kd.R_types HO_9.out BK691.out (by decide)) (fun _ hk => hk.2) (.bool true)) (fun _ hk => hk.2) (.int .i64 0)) (fun _ hk => trivial)))⟩; have n1_ : Aside0 (Kd.Q (Kd.int .i64) 3 w37 w.heap.size (fun _ => True) u10 x10_2) := ⟨(by rw [hw]; exact (by (with_reducible repeat (first | apply Kd.Q_alloc | apply Kd.Q_drewN | apply Kd.Q_drew)); exact Kd.Q_mono (Kd.Q_far (p := ⟨gb691, 1, none⟩) (Kd.Q_far (p := ⟨gb691, 0, none⟩) (Kd.Q_types HO_10.out BK691.out (by decide)) (fun _ hk => hk.2) (.bool true)) (fun _ hk => hk.2) (.int .i64 0)) (fun _ hk => trivial)))⟩; have n2_ : Aside0 (Kd.R k42 42 w37 w.heap.size (fun k_ => k_ ≠ gb691) u12 x12_2) := ⟨(by rw [hw]; exact (by (with_reducible repeat (first | apply Kd.rA_ | apply Kd.rN_ | apply Kd.rD_)); exact Kd.R_mono (Kd.R_far (p := ⟨gb691, 1, none⟩) (Kd.R_far (p := ⟨gb691, 0, none⟩) (Kd.R_mono HO_12.out (fun k_ hk => (⟨hk, hk.2⟩ : _ ∧ k_ ≠ gb691))) (fun _ hk => hk.2) (.bool true)) (fun _ hk => hk.2) (.int .i64 0)) (fun _ hk => hk.1.2)))⟩; have n3_ : Aside0 (w37.heap[gb691]? = some (.cells #[.bool true, .int .i64 0] 42 (0, 0))) := ⟨(by rw [hw]; exact (by (with_reducible repeat (first | refine blk_drewN ?_ _ | refine blk_drew ?_ | refine blk_alloc ?_ _)); refine blk_put (cs := #[.bool true, .int .i64 0]) ?_ 1 _ rfl; (with_reducible repeat (first | refine blk_drewN ?_ _ | refine blk_drew ?_ | refine blk_alloc ?_ _)); refine blk_put (cs := #[.bool false, .int .i64 0]) ?_ 0 _ rfl; (with_reducible repeat (first | refine blk_drewN ?_ _ | refine blk_drew ?_ | refine blk_alloc ?_ _)); exact BK691.out))⟩; have n4_ : Aside0 (Below w.heap.size w w37) := ⟨(by rw [hw]; exact (by repeat (first | (with_reducible first | exact HB.out | apply pbA_ | apply pbN_ | apply pb1_ | refine below_set ?_ GE691.out) | exact HB.out)))⟩; clear hw; clear HO_9; clear HO_10; clear HO_12; clear BK691; clear HB; have HO_9 := n0_; have HO_10 := n1_; have HO_12 := n2_; have BK691 := n3_; have HB := n4_; clear n0_ n1_ n2_ n3_ n4_; have hcz38_0 : w37.cell? ⟨gb691, 0, none⟩ = some (.bool true) := (blk_cell BK691.out 0).trans rfl; have hcz38_1 : w37.cell? ⟨gb691, 1, none⟩ = some (.int .i64 0) := (blk_cell BK691.out 1).trans rfl; have hfz38_0 := blk_frozen BK691.out 0; have hfz38_1 := blk_frozen BK691.out 1; obtain ⟨Ao39, co39, eo39, _⟩ := Kd.Q_slice HO_10.out; subst eo39; have p692 : 0 ≤ (0 : Int) := (by omega); have q692 : 0 < (x10_2.length : Int) := od_; obtain ⟨ad692, e692, hx692_0⟩ := Kd.at_int (Kd.Q_reads' HO_10.out).2.2 0 p692 q692; cases e692; have qi692 : (0 < x10_2.length) = True := eq_true (by omega); (try rw [show ((0 : Int)).toNat = 0 from rfl] at hx692_0); (try rw [Addr.add_zero'] at hx692_0); replace p692 := eq_true p692; replace q692 := eq_true q692) | ((with_reducible refine gate_store (t := 3) (p := 83) rfl ?_); refine store_event (t := 3) (p := 83) (v := ?vo_w40) (w1 := (w37.setCell ⟨gb691, 1, none⟩ (.int .i64 (rd x10_2 0)))) ?hg ?ho ?hn ?hr ?_; (case ho => rfl); (case hg => rfl); (case hn => rfl); (case hr => first | (go_simp; done) | (go_simp; rfl)); intro w40 hw; have n0_ : Aside0 (Kd.R (Kd.int .u64) 50 w40 w.heap.size (fun _ => True) (.slice (some ad690) t680.length co34) t680) := ⟨(by rw [hw]; exact (by (with_reducible repeat (first | apply Kd.rA_ | apply Kd.rN_ | apply Kd.rD_)); exact Kd.R_mono (Kd.R_far (p := ⟨gb691, 1, none⟩) (Kd.R_types HO_9.out BK691.out (by decide)) (fun _ hk => hk.2) (.int .i64 (rd x10_2 0))) (fun _ hk => trivial)))⟩; have n1_ : Aside0 (Kd.Q (Kd.int .i64) 3 w40 w.heap.size (fun _ => True) (.slice (some ad692) x10_2.length co39) x10_2) := ⟨(by rw [hw]; exact (by (with_reducible repeat (first | apply Kd.Q_alloc | apply Kd.Q_drewN | apply Kd.Q_drew)); exact Kd.Q_mono (Kd.Q_far (p := ⟨gb691, 1, none⟩) (Kd.Q_types HO_10.out BK691.out (by decide)) (fun _ hk => hk.2) (.int .i64 (rd x10_2 0))) (fun _ hk => trivial)))⟩; have n2_ : Aside0 (Kd.R k42 42 w40 w.heap.size (fun k_ => k_ ≠ gb691) u12 x12_2) := ⟨(by rw [hw]; exact (by (with_reducible repeat (first | apply Kd.rA_ | apply Kd.rN_ | apply Kd.rD_)); exact Kd.R_mono (Kd.R_far (p := ⟨gb691, 1, none⟩) (Kd.R_mono HO_12.out (fun k_ hk => (⟨hk, hk⟩ : _ ∧ k_ ≠ gb691))) (fun _ hk => hk.2) (.int .i64 (rd x10_2 0))) (fun _ hk => hk.1)))⟩; have n3_ : Aside0 (w40.heap[gb691]? = some (.cells #[.bool true, .int .i64 (rd x10_2 0)] 42 (0, 0))) := ⟨(by rw [hw]; exact (by (with_reducible repeat (first | refine blk_drewN ?_ _ | refine blk_drew ?_ | refine blk_alloc ?_ _)); refine blk_put (cs := #[.bool true, .int .i64 0]) ?_ 1 _ rfl; (with_reducible repeat (first | refine blk_drewN ?_ _ | refine blk_drew ?_ | refine blk_alloc ?_ _)); exact BK691.out))⟩; have n4_ : Aside0 (Below w.heap.size w w40) := ⟨(by rw [hw]; exact (by repeat (first | (with_reducible first | exact HB.out | apply pbA_ | apply pbN_ | apply pb1_ | refine below_set ?_ GE691.out) | exact HB.out)))⟩; clear hw; clear HO_9; clear HO_10; clear HO_12; clear BK691; clear HB; have HO_9 := n0_; have HO_10 := n1_; have HO_12 := n2_; have BK691 := n3_; have HB := n4_; clear n0_ n1_ n2_ n3_ n4_; have q41 : (1 : Int) ≤ ((x10_2.length : Int) : Int) := od_; obtain ⟨i041, hi041, _, hsz41, _⟩ := info_parts info3; have hcut41 := cut_from (P := Try.prog) 39 3 .i64 Try.underlying39 hi041 1 hsz41 (some ad692) x10_2.length co39 1 (by omega) q41; have hr41 := Kd.Q_drop (k := (1 : Int).toNat) HO_10.out (by omega); obtain ⟨A41, hA41⟩ : ∃ A1, A1 = (if co39 = (1 : Int).toNat then (some ad692) else ((some ad692) : Option Addr).map (·.add ((1 : Int).toNat * 1))) := ⟨_, rfl⟩; obtain ⟨c41, hc41⟩ : ∃ c1, c1 = co39 - (1 : Int).toNat := ⟨_, rfl⟩; have hy41 : y693.length = x10_2.length - (1 : Int).toNat := (by rw [Ny693.out, List.length_drop]); rw [← Ny693.out] at hr41; rw [← hy41, ← hA41, ← hc41] at hcut41; replace hr41 : Kd.Q (Kd.int .i64) 3 w40 w.heap.size (fun _ => True) (.slice A41 y693.length c41) y693 := (by rw [hA41, hc41, hy41]; exact hr41); have HE41 : Aside0 ((Value.slice A41 y693.length c41).ownBlock = (.slice (some ad692) x10_2.length co39 : Value).ownBlock) := ⟨by rw [hA41]; split <;> (cases ((some ad692) : Option Addr) <;> rfl)⟩; clear hy41 hi041 hsz41 HO_10 hA41 hc41; have HO695 := Aside0.mk hr41; clear hr41; replace q41 := eq_true q41; have hcz42_0 : w40.cell? ⟨gb691, 0, none⟩ = some (.bool true) := (blk_cell BK691.out 0).trans rfl; have hcz42_1 : w40.cell? ⟨gb691, 1, none⟩ = some (.int .i64 (rd x10_2 0)) := (blk_cell BK691.out 1).trans rfl; have hfz42_0 := blk_frozen BK691.out 0; have hfz42_1 := blk_frozen BK691.out 1) | ((with_reducible refine gate_builtin (b := .append) (xs := #[.tmp 86, .tmp 88]) rfl ?_); at_builtin; refine Kd.R_append k42 (w0 := w) w.heap.size rfl (.tmp 86) (.tmp 88) 23 42 (.agg #[(.bool false), (.int .i64 0)]) 16 rfl Try.underlying23 info42 rfl (by decide) (by omega) u12 x12_2 (⟨true, rd x10_2 0⟩ : S42) [.bool true, .int .i64 (rd x10_2 0)] (fun k_ => k_ ≠ gb691) (fun _ => False) rfl rfl ?aP (fun _ hk => hk.elim) ?aF ?aO ?aB ?aS ?aL ?_; (case aP => exact k42_mkM _ _ _ (⟨true, rd x10_2 0⟩ : S42)); (case aB => exact (by repeat (first | (with_reducible first | exact HB.out | apply pbA_ | apply pbN_ | apply pb1_ | refine below_set ?_ GE691.out) | exact HB.out))); (case aF => exact (fun k_ hk => Kd.freshB (g := gb691) (o := .cells #[.bool true, .int .i64 (rd x10_2 0)] 42 (0, 0)) (by (with_reducible repeat (first | refine blk_drewN ?_ _ | refine blk_drew ?_ | refine blk_alloc ?_ _)); exact BK691.out) k_ hk)); (case aO => exact (Kd.ru_ HO_12.out)); (case aS => exact (pbS_ (by repeat (first | (with_reducible first | exact HB.out | apply pbA_ | apply pbN_ | apply pb1_ | refine below_set ?_ GE691.out) | exact HB.out)))); (case aL => have := LMc33.out; omega); intro v697 w43 ho hb hg hat; rw [← Ny696.out] at ho; have n0_ := Aside0.mk (Kd.R_over' (Kd.ru_ HO_9.out) (Kd.R_typed (Kd.ru_ HO_12.out)) (by decide) hg); have n1_ := Aside0.mk (Kd.Q_over' (by (with_reducible repeat (first | apply Kd.Q_alloc | apply Kd.Q_drewN | apply Kd.Q_drew)); exact HO695.out) (Kd.R_typed (Kd.ru_ HO_12.out)) (by decide) hg); have n2_ := Aside0.mk (blk_grown (g := gb691) (o := .cells #[.bool true, .int .i64 (rd x10_2 0)] 42 (0, 0)) (by (with_reducible repeat (first | refine blk_drewN ?_ _ | refine blk_drew ?_ | refine blk_alloc ?_ _)); exact BK691.out) hg (Kd.R_away HO_12.out (fun _ hk => hk))); have n3_ := Aside0.mk (hb); have n4_ := Aside0.mk (ho); clear HO_9; clear HO695; clear BK691; clear HB; clear HO_12; have HO_9 := n0_; have HO695 := n1_; have BK691 := n2_; have HB := n3_; have HO698 := n4_; clear n0_ n1_ n2_ n3_ n4_; clear ho hb hg hat))
        go_roundg k2
        case measure => have := HJ2.out; have := HK2.out; omega
        case rel => exact ⟨(y693), (y696), (wrap64 (x13_2 + 1)), (by first | rfl | (simp; done) | (simp [*]; done)), H', ⟨by have := HJ2.out; have := HK2.out; omega⟩, ⟨Kd.ru_ HO_9.out⟩, ⟨by (with_reducible repeat (first | apply Kd.Q_alloc | apply Kd.Q_drewN | apply Kd.Q_drew)); exact HO695.out⟩, ⟨by (with_reducible repeat (first | apply Kd.rA_ | apply Kd.rN_ | apply Kd.rD_)); exact Kd.R_mono HO698.out (fun _ hk => trivial)⟩, ⟨by repeat (first | (with_reducible first | exact HB.out | apply pbA_ | apply pbN_ | apply pb1_ | refine below_set ?_ GE691.out) | exact HB.out)⟩⟩
noncomputable def dragnetlaw10_IntsTakes.f (k : Nat) (l0 : List Int) : Option (Bool) := (dragnetlaw10_alive.f k).bind fun t702 => (if t702 = true then (if (l0.length : Int) > 5000 then (some true) else ((dragnetref01_Copy.f l0).bind fun t703 => ((ints_Take.f k t703).bind fun bt706 => ((dragnetref10_Take.f k l0).bind fun bt711 => ((dragnetref10_Same.f k bt706.1 bt711.1).bind fun t716 => (if t716 = true then (if bt706.2.1 = bt711.2.1 then (if bt706.2.2 = bt711.2.2 then ((dragnetref01_Same.f t703 l0).bind fun t717 => (some t717)) else (some false)) else (some false)) else (some false))))))) else (some false))
theorem dragnetlaw10_IntsTakes.mono : ∀ a0 k, LeO (dragnetlaw10_IntsTakes.f k a0) (dragnetlaw10_IntsTakes.f (k + 1) a0) := by
 intro a0 k
 unfold dragnetlaw10_IntsTakes.f
 repeat' first
   | (with_reducible exact dragnetlaw10_alive.mono _)
   | (with_reducible exact dragnetref10_Same.mono _ _ _)
   | (with_reducible exact dragnetref10_Take.mono _ _)
   | (with_reducible exact ints_Take.mono _ _)
   | (with_reducible exact LeO.refl _)
   | (with_reducible exact LeO.none _)
   | (with_reducible refine LeO.ite ?_ ?_)
   | (with_reducible refine LeO.bind ?_ (fun _ => ?_))
set_option maxHeartbeats 8000000 in
set_option maxRecDepth 100000 in
theorem dragnetlaw10_IntsTakes.calls (k : Nat) (A0 : Option Addr) (c0 : Nat) (l0 : List Int) (r : Bool) (w : World) (hr0 : Kd.C (Kd.int .u8) w A0 l0.length l0) (hc0 : l0.length ≤ c0) (h : dragnetlaw10_IntsTakes.f k l0 = some r) :
  Calls Try.prog 7 #[.slice A0 l0.length c0] w fun e w' => e = .returned (.bool r) ∧ Below w.heap.size w w' := by
 have HR0 := Aside0.mk hr0
 have HC0 := Aside0.mk hc0
 clear hr0 hc0
 have HB := Aside0.mk (Below.refl w.heap.size w)
 have H : ((dragnetlaw10_alive.f k).bind fun t702 => (if t702 = true then (if (l0.length : Int) > 5000 then (some true) else ((dragnetref01_Copy.f l0).bind fun t703 => ((ints_Take.f k t703).bind fun bt706 => ((dragnetref10_Take.f k l0).bind fun bt711 => ((dragnetref10_Same.f k bt706.1 bt711.1).bind fun t716 => (if t716 = true then (if bt706.2.1 = bt711.2.1 then (if bt706.2.2 = bt711.2.2 then ((dragnetref01_Same.f t703 l0).bind fun t717 => (some t717)) else (some false)) else (some false)) else (some false))))))) else (some false))) = some r := h
 clear h
 replace H := Option.bind_eq_some_iff.mp H
 obtain ⟨t702, A20, H⟩ := H
 replace H : (if t702 = true then (if (l0.length : Int) > 5000 then (some true) else ((dragnetref01_Copy.f l0).bind fun t703 => ((ints_Take.f k t703).bind fun bt706 => ((dragnetref10_Take.f k l0).bind fun bt711 => ((dragnetref10_Same.f k bt706.1 bt711.1).bind fun t716 => (if t716 = true then (if bt706.2.1 = bt711.2.1 then (if bt706.2.2 = bt711.2.2 then ((dragnetref01_Same.f t703 l0).bind fun t717 => (some t717)) else (some false)) else (some false)) else (some false))))))) else (some false)) = some r := H
 have A2 := Aside0.mk A20
 clear A20
 by_cases c3 : t702 = true
 rotate_left
 ·replace c3 := Bool.eq_false_iff.mpr c3
  subst c3
  have H1 : (some false) = some r := by rw [if_neg (show ¬ (false = true) by decide)] at H; exact H
  clear H
  have H := H1
  clear H1
  obtain rfl := Option.some.inj H
  go_enter Try.func7, Try.ntmps7
  go_wp2_with (first | ((with_reducible refine gaC_ (f := 9) rfl ?_); refine goesL_ (some 10) rfl rfl Try.func9 (by kernel_rfl) rfl #[] rfl (by (try simp only [List.map_toArray, List.map_cons, List.map_nil]); first | done | rfl | (simp only [List.length_drop, List.length_take]; rfl)) ?_; (with_reducible refine (dragnetlaw10_alive.calls k  false _ A2.out).mono ?_); rintro e w42 ⟨rfl, hb⟩; refine ⟨_, rfl, ?_⟩; replace HB := Aside0.mk (below_step bw_ hb); (try clear hb); (try clear hb2); (try clear hk); (try clear hi)))
  go_ret
  exact ⟨rf_, bw_⟩
 subst c3
 have H1 : (if (l0.length : Int) > 5000 then (some true) else ((dragnetref01_Copy.f l0).bind fun t703 => ((ints_Take.f k t703).bind fun bt706 => ((dragnetref10_Take.f k l0).bind fun bt711 => ((dragnetref10_Same.f k bt706.1 bt711.1).bind fun t716 => (if t716 = true then (if bt706.2.1 = bt711.2.1 then (if bt706.2.2 = bt711.2.2 then ((dragnetref01_Same.f t703 l0).bind fun t717 => (some t717)) else (some false)) else (some false)) else (some false))))))) = some r := by rw [if_pos rfl] at H; exact H
 clear H
 have H := H1
 clear H1
 by_cases c4 : (l0.length : Int) > 5000
 ·rw [if_pos c4] at H
  have c4b0 : decide (5000 < (l0.length : Int)) = true := decide_eq_true c4
  have c4b1 : decide (5000 < l0.length) = true := decide_eq_true (by omega)
  clear c4
  obtain rfl := Option.some.inj H
  go_enter Try.func7, Try.ntmps7
  go_wp2_with (first | ((with_reducible refine gaC_ (f := 9) rfl ?_); refine goesL_ (some 10) rfl rfl Try.func9 (by kernel_rfl) rfl #[] rfl (by (try simp only [List.map_toArray, List.map_cons, List.map_nil]); first | done | rfl | (simp only [List.length_drop, List.length_take]; rfl)) ?_; (with_reducible refine (dragnetlaw10_alive.calls k  true _ A2.out).mono ?_); rintro e w5 ⟨rfl, hb⟩; refine ⟨_, rfl, ?_⟩; replace HB := Aside0.mk (below_step bw_ hb); (try clear hb); (try clear hb2); (try clear hk); (try clear hi)))
  go_ret
  exact ⟨rf_, bw_⟩
 ·rw [if_neg c4] at H
  have c4b0 : decide (5000 < (l0.length : Int)) = false := decide_eq_false c4
  have c4b1 : decide (5000 < l0.length) = false := decide_eq_false (by omega)
  clear c4
  replace H := Option.bind_eq_some_iff.mp H
  obtain ⟨t703, A60, H⟩ := H
  replace H : ((ints_Take.f k t703).bind fun bt706 => ((dragnetref10_Take.f k l0).bind fun bt711 => ((dragnetref10_Same.f k bt706.1 bt711.1).bind fun t716 => (if t716 = true then (if bt706.2.1 = bt711.2.1 then (if bt706.2.2 = bt711.2.2 then ((dragnetref01_Same.f t703 l0).bind fun t717 => (some t717)) else (some false)) else (some false)) else (some false))))) = some r := H
  have A6 := Aside0.mk A60
  clear A60
  replace H := Option.bind_eq_some_iff.mp H
  obtain ⟨⟨t706, t707, t708⟩, A70, H⟩ := H
  replace H : ((dragnetref10_Take.f k l0).bind fun bt711 => ((dragnetref10_Same.f k t706 bt711.1).bind fun t716 => (if t716 = true then (if t707 = bt711.2.1 then (if t708 = bt711.2.2 then ((dragnetref01_Same.f t703 l0).bind fun t717 => (some t717)) else (some false)) else (some false)) else (some false)))) = some r := H
  have A7 := Aside0.mk A70
  clear A70
  replace H := Option.bind_eq_some_iff.mp H
  obtain ⟨⟨t711, t712, t713⟩, A80, H⟩ := H
  replace H : ((dragnetref10_Same.f k t706 t711).bind fun t716 => (if t716 = true then (if t707 = t712 then (if t708 = t713 then ((dragnetref01_Same.f t703 l0).bind fun t717 => (some t717)) else (some false)) else (some false)) else (some false))) = some r := H
  have A8 := Aside0.mk A80
  clear A80
  replace H := Option.bind_eq_some_iff.mp H
  obtain ⟨t716, A90, H⟩ := H
  replace H : (if t716 = true then (if t707 = t712 then (if t708 = t713 then ((dragnetref01_Same.f t703 l0).bind fun t717 => (some t717)) else (some false)) else (some false)) else (some false)) = some r := H
  have A9 := Aside0.mk A90
  clear A90
  by_cases c10 : t716 = true
  rotate_left
  ·replace c10 := Bool.eq_false_iff.mpr c10
   subst c10
   have H1 : (some false) = some r := by rw [if_neg (show ¬ (false = true) by decide)] at H; exact H
   clear H
   have H := H1
   clear H1
   obtain rfl := Option.some.inj H
   go_enter Try.func7, Try.ntmps7
   go_wp2_with (first | ((with_reducible refine gaC_ (f := 9) rfl ?_); refine goesL_ (some 10) rfl rfl Try.func9 (by kernel_rfl) rfl #[] rfl (by (try simp only [List.map_toArray, List.map_cons, List.map_nil]); first | done | rfl | (simp only [List.length_drop, List.length_take]; rfl)) ?_; (with_reducible refine (dragnetlaw10_alive.calls k  true _ A2.out).mono ?_); rintro e w35 ⟨rfl, hb⟩; refine ⟨_, rfl, ?_⟩; replace HB := Aside0.mk (below_step bw_ hb); (try clear hb); (try clear hb2); (try clear hk); (try clear hi)) | ((with_reducible refine gaC_ (f := 10) rfl ?_); refine goesL_ (some 16) rfl rfl Try.func10 (by kernel_rfl) rfl #[.slice A0 l0.length c0] rfl (by (try simp only [List.map_toArray, List.map_cons, List.map_nil]); first | done | rfl | (simp only [List.length_drop, List.length_take]; rfl)) ?_; (with_reducible refine (dragnetref01_Copy.calls _ _ l0 t703 _ ?side1 ?side2 A6.out).mono ?_); (case side1 => exact Kd.cu_ (Kd.C_below HR0.out HB.out)); (case side2 => exact HC0.out); rintro e w36 ⟨v704, rfl, ho0, hb⟩; refine ⟨_, rfl, ?_⟩; have HO705 := Aside0.mk (Kd.R_lower ho0 (pbS_ bw_)); replace HB := Aside0.mk (below_step bw_ hb); (try clear hb); (try clear hb2); (try clear hk); (try clear hi); (try clear ho0); obtain ⟨Ao37, co37, eo37⟩ := Kd.R_slice HO705.out; subst eo37) | ((with_reducible refine gaC_ (f := 24) rfl ?_); refine goesL_ (some 19) rfl rfl Try.func24 (by kernel_rfl) rfl #[.slice Ao37 t703.length co37] rfl (by (try simp only [List.map_toArray, List.map_cons, List.map_nil]); first | done | rfl | (simp only [List.length_drop, List.length_take]; rfl)) ?_; (with_reducible refine (ints_Take.calls k _ _ t703 t706 t707 t708 _ ?side1 ?side2 A7.out).mono ?_); (case side1 => exact Kd.cu_ (Kd.R_reads' HO705.out).2.2); (case side2 => exact (Kd.R_reads' HO705.out).2.1); rintro e w38 ⟨v709, rfl, ho0, hb⟩; refine ⟨_, rfl, ?_⟩; replace HO705 := Aside0.mk (Kd.R_below (Kd.ru_ HO705.out) hb); have HO710 := Aside0.mk (Kd.R_lower ho0 (pbS_ bw_)); replace HB := Aside0.mk (below_step bw_ hb); (try clear hb); (try clear hb2); (try clear hk); (try clear hi); (try clear ho0)) | ((with_reducible refine gaC_ (f := 25) rfl ?_); refine goesL_ (some 25) rfl rfl Try.func25 (by kernel_rfl) rfl #[.slice A0 l0.length c0] rfl (by (try simp only [List.map_toArray, List.map_cons, List.map_nil]); first | done | rfl | (simp only [List.length_drop, List.length_take]; rfl)) ?_; (with_reducible refine (dragnetref10_Take.calls k _ _ l0 t711 t712 t713 _ ?side1 ?side2 A8.out).mono ?_); (case side1 => exact Kd.cu_ (Kd.C_below HR0.out HB.out)); (case side2 => exact HC0.out); rintro e w39 ⟨v714, rfl, ho0, hb⟩; refine ⟨_, rfl, ?_⟩; have n0_ := Aside0.mk (Kd.R_below (Kd.ru_ HO705.out) hb); have n1_ := Aside0.mk (Kd.R_elder' (Kd.ru_ HO710.out) (Kd.R_base ho0) hb); have n2_ := Aside0.mk (Kd.R_lower (Kd.R_new' ho0 (Kd.R_lt (Kd.ru_ HO710.out))) (pbS_ bw_)); have n3_ := Aside0.mk (below_step bw_ hb); clear HO705; clear HO710; clear HB; have HO705 := n0_; have HO710 := n1_; have HO715 := n2_; have HB := n3_; clear n0_ n1_ n2_ n3_; (try clear hb); (try clear hb2); (try clear hk); (try clear hi); (try clear ho0); obtain ⟨Ao40, co40, eo40⟩ := Kd.R_slice HO710.out; subst eo40; obtain ⟨Ao41, co41, eo41⟩ := Kd.R_slice HO715.out; subst eo41) | ((with_reducible refine gaC_ (f := 14) rfl ?_); refine goesL_ (some 31) rfl rfl Try.func14 (by kernel_rfl) rfl #[.slice Ao40 t706.length co40, .slice Ao41 t711.length co41] rfl (by (try simp only [List.map_toArray, List.map_cons, List.map_nil]); first | done | rfl | (simp only [List.length_drop, List.length_take]; rfl)) ?_; (with_reducible refine (dragnetref10_Same.calls k _ _ t706 _ _ t711 false _ ?side1 ?side2 ?side3 ?side4 A9.out).mono ?_); (case side1 => exact Kd.cu_ (Kd.R_reads' HO710.out).2.2); (case side2 => exact (Kd.R_reads' HO710.out).2.1); (case side3 => exact Kd.cu_ (Kd.R_reads' HO715.out).2.2); (case side4 => exact (Kd.R_reads' HO715.out).2.1); rintro e w' ⟨rfl, ⟨nd, rfl⟩⟩; refine ⟨_, rfl, ?_⟩))
   go_ret
   exact ⟨rf_, bw_⟩
  subst c10
  have H1 : (if t707 = t712 then (if t708 = t713 then ((dragnetref01_Same.f t703 l0).bind fun t717 => (some t717)) else (some false)) else (some false)) = some r := by rw [if_pos rfl] at H; exact H
  clear H
  have H := H1
  clear H1
  by_cases c11 : t707 = t712
  rotate_left
  ·rw [if_neg c11] at H
   have c11b0 : (t707 == t712) = false := beq_eq_false_iff_ne.mpr c11
   have c11b1 : (t707 != t712) = true := bne_iff_ne.mpr c11
   obtain rfl := Option.some.inj H
   go_enter Try.func7, Try.ntmps7
   go_wp2_with (first | ((with_reducible refine gaC_ (f := 9) rfl ?_); refine goesL_ (some 10) rfl rfl Try.func9 (by kernel_rfl) rfl #[] rfl (by (try simp only [List.map_toArray, List.map_cons, List.map_nil]); first | done | rfl | (simp only [List.length_drop, List.length_take]; rfl)) ?_; (with_reducible refine (dragnetlaw10_alive.calls k  true _ A2.out).mono ?_); rintro e w28 ⟨rfl, hb⟩; refine ⟨_, rfl, ?_⟩; replace HB := Aside0.mk (below_step bw_ hb); (try clear hb); (try clear hb2); (try clear hk); (try clear hi)) | ((with_reducible refine gaC_ (f := 10) rfl ?_); refine goesL_ (some 16) rfl rfl Try.func10 (by kernel_rfl) rfl #[.slice A0 l0.length c0] rfl (by (try simp only [List.map_toArray, List.map_cons, List.map_nil]); first | done | rfl | (simp only [List.length_drop, List.length_take]; rfl)) ?_; (with_reducible refine (dragnetref01_Copy.calls _ _ l0 t703 _ ?side1 ?side2 A6.out).mono ?_); (case side1 => exact Kd.cu_ (Kd.C_below HR0.out HB.out)); (case side2 => exact HC0.out); rintro e w29 ⟨v704, rfl, ho0, hb⟩; refine ⟨_, rfl, ?_⟩; have HO705 := Aside0.mk (Kd.R_lower ho0 (pbS_ bw_)); replace HB := Aside0.mk (below_step bw_ hb); (try clear hb); (try clear hb2); (try clear hk); (try clear hi); (try clear ho0); obtain ⟨Ao30, co30, eo30⟩ := Kd.R_slice HO705.out; subst eo30) | ((with_reducible refine gaC_ (f := 24) rfl ?_); refine goesL_ (some 19) rfl rfl Try.func24 (by kernel_rfl) rfl #[.slice Ao30 t703.length co30] rfl (by (try simp only [List.map_toArray, List.map_cons, List.map_nil]); first | done | rfl | (simp only [List.length_drop, List.length_take]; rfl)) ?_; (with_reducible refine (ints_Take.calls k _ _ t703 t706 t707 t708 _ ?side1 ?side2 A7.out).mono ?_); (case side1 => exact Kd.cu_ (Kd.R_reads' HO705.out).2.2); (case side2 => exact (Kd.R_reads' HO705.out).2.1); rintro e w31 ⟨v709, rfl, ho0, hb⟩; refine ⟨_, rfl, ?_⟩; replace HO705 := Aside0.mk (Kd.R_below (Kd.ru_ HO705.out) hb); have HO710 := Aside0.mk (Kd.R_lower ho0 (pbS_ bw_)); replace HB := Aside0.mk (below_step bw_ hb); (try clear hb); (try clear hb2); (try clear hk); (try clear hi); (try clear ho0)) | ((with_reducible refine gaC_ (f := 25) rfl ?_); refine goesL_ (some 25) rfl rfl Try.func25 (by kernel_rfl) rfl #[.slice A0 l0.length c0] rfl (by (try simp only [List.map_toArray, List.map_cons, List.map_nil]); first | done | rfl | (simp only [List.length_drop, List.length_take]; rfl)) ?_; (with_reducible refine (dragnetref10_Take.calls k _ _ l0 t711 t712 t713 _ ?side1 ?side2 A8.out).mono ?_); (case side1 => exact Kd.cu_ (Kd.C_below HR0.out HB.out)); (case side2 => exact HC0.out); rintro e w32 ⟨v714, rfl, ho0, hb⟩; refine ⟨_, rfl, ?_⟩; have n0_ := Aside0.mk (Kd.R_below (Kd.ru_ HO705.out) hb); have n1_ := Aside0.mk (Kd.R_elder' (Kd.ru_ HO710.out) (Kd.R_base ho0) hb); have n2_ := Aside0.mk (Kd.R_lower (Kd.R_new' ho0 (Kd.R_lt (Kd.ru_ HO710.out))) (pbS_ bw_)); have n3_ := Aside0.mk (below_step bw_ hb); clear HO705; clear HO710; clear HB; have HO705 := n0_; have HO710 := n1_; have HO715 := n2_; have HB := n3_; clear n0_ n1_ n2_ n3_; (try clear hb); (try clear hb2); (try clear hk); (try clear hi); (try clear ho0); obtain ⟨Ao33, co33, eo33⟩ := Kd.R_slice HO710.out; subst eo33; obtain ⟨Ao34, co34, eo34⟩ := Kd.R_slice HO715.out; subst eo34) | ((with_reducible refine gaC_ (f := 14) rfl ?_); refine goesL_ (some 31) rfl rfl Try.func14 (by kernel_rfl) rfl #[.slice Ao33 t706.length co33, .slice Ao34 t711.length co34] rfl (by (try simp only [List.map_toArray, List.map_cons, List.map_nil]); first | done | rfl | (simp only [List.length_drop, List.length_take]; rfl)) ?_; (with_reducible refine (dragnetref10_Same.calls k _ _ t706 _ _ t711 true _ ?side1 ?side2 ?side3 ?side4 A9.out).mono ?_); (case side1 => exact Kd.cu_ (Kd.R_reads' HO710.out).2.2); (case side2 => exact (Kd.R_reads' HO710.out).2.1); (case side3 => exact Kd.cu_ (Kd.R_reads' HO715.out).2.2); (case side4 => exact (Kd.R_reads' HO715.out).2.1); rintro e w' ⟨rfl, ⟨nd, rfl⟩⟩; refine ⟨_, rfl, ?_⟩))
   go_ret
   exact ⟨rf_, bw_⟩
  rw [if_pos c11] at H
  have c11b0 : (t707 == t712) = true := beq_iff_eq.mpr c11
  have c11b1 : (t707 != t712) = false := bne_eq_false_iff_eq.mpr c11
  clear c11
  by_cases c12 : t708 = t713
  rotate_left
  ·rw [if_neg c12] at H
   have c12b0 : (t708 == t713) = false := beq_eq_false_iff_ne.mpr c12
   have c12b1 : (t708 != t713) = true := bne_iff_ne.mpr c12
   obtain rfl := Option.some.inj H
   go_enter Try.func7, Try.ntmps7
   go_wp2_with (first | ((with_reducible refine gaC_ (f := 9) rfl ?_); refine goesL_ (some 10) rfl rfl Try.func9 (by kernel_rfl) rfl #[] rfl (by (try simp only [List.map_toArray, List.map_cons, List.map_nil]); first | done | rfl | (simp only [List.length_drop, List.length_take]; rfl)) ?_; (with_reducible refine (dragnetlaw10_alive.calls k  true _ A2.out).mono ?_); rintro e w21 ⟨rfl, hb⟩; refine ⟨_, rfl, ?_⟩; replace HB := Aside0.mk (below_step bw_ hb); (try clear hb); (try clear hb2); (try clear hk); (try clear hi)) | ((with_reducible refine gaC_ (f := 10) rfl ?_); refine goesL_ (some 16) rfl rfl Try.func10 (by kernel_rfl) rfl #[.slice A0 l0.length c0] rfl (by (try simp only [List.map_toArray, List.map_cons, List.map_nil]); first | done | rfl | (simp only [List.length_drop, List.length_take]; rfl)) ?_; (with_reducible refine (dragnetref01_Copy.calls _ _ l0 t703 _ ?side1 ?side2 A6.out).mono ?_); (case side1 => exact Kd.cu_ (Kd.C_below HR0.out HB.out)); (case side2 => exact HC0.out); rintro e w22 ⟨v704, rfl, ho0, hb⟩; refine ⟨_, rfl, ?_⟩; have HO705 := Aside0.mk (Kd.R_lower ho0 (pbS_ bw_)); replace HB := Aside0.mk (below_step bw_ hb); (try clear hb); (try clear hb2); (try clear hk); (try clear hi); (try clear ho0); obtain ⟨Ao23, co23, eo23⟩ := Kd.R_slice HO705.out; subst eo23) | ((with_reducible refine gaC_ (f := 24) rfl ?_); refine goesL_ (some 19) rfl rfl Try.func24 (by kernel_rfl) rfl #[.slice Ao23 t703.length co23] rfl (by (try simp only [List.map_toArray, List.map_cons, List.map_nil]); first | done | rfl | (simp only [List.length_drop, List.length_take]; rfl)) ?_; (with_reducible refine (ints_Take.calls k _ _ t703 t706 t707 t708 _ ?side1 ?side2 A7.out).mono ?_); (case side1 => exact Kd.cu_ (Kd.R_reads' HO705.out).2.2); (case side2 => exact (Kd.R_reads' HO705.out).2.1); rintro e w24 ⟨v709, rfl, ho0, hb⟩; refine ⟨_, rfl, ?_⟩; replace HO705 := Aside0.mk (Kd.R_below (Kd.ru_ HO705.out) hb); have HO710 := Aside0.mk (Kd.R_lower ho0 (pbS_ bw_)); replace HB := Aside0.mk (below_step bw_ hb); (try clear hb); (try clear hb2); (try clear hk); (try clear hi); (try clear ho0)) | ((with_reducible refine gaC_ (f := 25) rfl ?_); refine goesL_ (some 25) rfl rfl Try.func25 (by kernel_rfl) rfl #[.slice A0 l0.length c0] rfl (by (try simp only [List.map_toArray, List.map_cons, List.map_nil]); first | done | rfl | (simp only [List.length_drop, List.length_take]; rfl)) ?_; (with_reducible refine (dragnetref10_Take.calls k _ _ l0 t711 t712 t713 _ ?side1 ?side2 A8.out).mono ?_); (case side1 => exact Kd.cu_ (Kd.C_below HR0.out HB.out)); (case side2 => exact HC0.out); rintro e w25 ⟨v714, rfl, ho0, hb⟩; refine ⟨_, rfl, ?_⟩; have n0_ := Aside0.mk (Kd.R_below (Kd.ru_ HO705.out) hb); have n1_ := Aside0.mk (Kd.R_elder' (Kd.ru_ HO710.out) (Kd.R_base ho0) hb); have n2_ := Aside0.mk (Kd.R_lower (Kd.R_new' ho0 (Kd.R_lt (Kd.ru_ HO710.out))) (pbS_ bw_)); have n3_ := Aside0.mk (below_step bw_ hb); clear HO705; clear HO710; clear HB; have HO705 := n0_; have HO710 := n1_; have HO715 := n2_; have HB := n3_; clear n0_ n1_ n2_ n3_; (try clear hb); (try clear hb2); (try clear hk); (try clear hi); (try clear ho0); obtain ⟨Ao26, co26, eo26⟩ := Kd.R_slice HO710.out; subst eo26; obtain ⟨Ao27, co27, eo27⟩ := Kd.R_slice HO715.out; subst eo27) | ((with_reducible refine gaC_ (f := 14) rfl ?_); refine goesL_ (some 31) rfl rfl Try.func14 (by kernel_rfl) rfl #[.slice Ao26 t706.length co26, .slice Ao27 t711.length co27] rfl (by (try simp only [List.map_toArray, List.map_cons, List.map_nil]); first | done | rfl | (simp only [List.length_drop, List.length_take]; rfl)) ?_; (with_reducible refine (dragnetref10_Same.calls k _ _ t706 _ _ t711 true _ ?side1 ?side2 ?side3 ?side4 A9.out).mono ?_); (case side1 => exact Kd.cu_ (Kd.R_reads' HO710.out).2.2); (case side2 => exact (Kd.R_reads' HO710.out).2.1); (case side3 => exact Kd.cu_ (Kd.R_reads' HO715.out).2.2); (case side4 => exact (Kd.R_reads' HO715.out).2.1); rintro e w' ⟨rfl, ⟨nd, rfl⟩⟩; refine ⟨_, rfl, ?_⟩))
   go_ret
   exact ⟨rf_, bw_⟩
  rw [if_pos c12] at H
  have c12b0 : (t708 == t713) = true := beq_iff_eq.mpr c12
  have c12b1 : (t708 != t713) = false := bne_eq_false_iff_eq.mpr c12
  clear c12
  replace H := Option.bind_eq_some_iff.mp H
  obtain ⟨t717, A130, H⟩ := H
  replace H : (some t717) = some r := H
  have A13 := Aside0.mk A130
  clear A130
  obtain rfl := Option.some.inj H
  go_enter Try.func7, Try.ntmps7
  go_wp2_with (first | ((with_reducible refine gaC_ (f := 9) rfl ?_); refine goesL_ (some 10) rfl rfl Try.func9 (by kernel_rfl) rfl #[] rfl (by (try simp only [List.map_toArray, List.map_cons, List.map_nil]); first | done | rfl | (simp only [List.length_drop, List.length_take]; rfl)) ?_; (with_reducible refine (dragnetlaw10_alive.calls k  true _ A2.out).mono ?_); rintro e w14 ⟨rfl, hb⟩; refine ⟨_, rfl, ?_⟩; replace HB := Aside0.mk (below_step bw_ hb); (try clear hb); (try clear hb2); (try clear hk); (try clear hi)) | ((with_reducible refine gaC_ (f := 10) rfl ?_); refine goesL_ (some 16) rfl rfl Try.func10 (by kernel_rfl) rfl #[.slice A0 l0.length c0] rfl (by (try simp only [List.map_toArray, List.map_cons, List.map_nil]); first | done | rfl | (simp only [List.length_drop, List.length_take]; rfl)) ?_; (with_reducible refine (dragnetref01_Copy.calls _ _ l0 t703 _ ?side1 ?side2 A6.out).mono ?_); (case side1 => exact Kd.cu_ (Kd.C_below HR0.out HB.out)); (case side2 => exact HC0.out); rintro e w15 ⟨v704, rfl, ho0, hb⟩; refine ⟨_, rfl, ?_⟩; have HO705 := Aside0.mk (Kd.R_lower ho0 (pbS_ bw_)); replace HB := Aside0.mk (below_step bw_ hb); (try clear hb); (try clear hb2); (try clear hk); (try clear hi); (try clear ho0); obtain ⟨Ao16, co16, eo16⟩ := Kd.R_slice HO705.out; subst eo16) | ((with_reducible refine gaC_ (f := 24) rfl ?_); refine goesL_ (some 19) rfl rfl Try.func24 (by kernel_rfl) rfl #[.slice Ao16 t703.length co16] rfl (by (try simp only [List.map_toArray, List.map_cons, List.map_nil]); first | done | rfl | (simp only [List.length_drop, List.length_take]; rfl)) ?_; (with_reducible refine (ints_Take.calls k _ _ t703 t706 t707 t708 _ ?side1 ?side2 A7.out).mono ?_); (case side1 => exact Kd.cu_ (Kd.R_reads' HO705.out).2.2); (case side2 => exact (Kd.R_reads' HO705.out).2.1); rintro e w17 ⟨v709, rfl, ho0, hb⟩; refine ⟨_, rfl, ?_⟩; replace HO705 := Aside0.mk (Kd.R_below (Kd.ru_ HO705.out) hb); have HO710 := Aside0.mk (Kd.R_lower ho0 (pbS_ bw_)); replace HB := Aside0.mk (below_step bw_ hb); (try clear hb); (try clear hb2); (try clear hk); (try clear hi); (try clear ho0)) | ((with_reducible refine gaC_ (f := 25) rfl ?_); refine goesL_ (some 25) rfl rfl Try.func25 (by kernel_rfl) rfl #[.slice A0 l0.length c0] rfl (by (try simp only [List.map_toArray, List.map_cons, List.map_nil]); first | done | rfl | (simp only [List.length_drop, List.length_take]; rfl)) ?_; (with_reducible refine (dragnetref10_Take.calls k _ _ l0 t711 t712 t713 _ ?side1 ?side2 A8.out).mono ?_); (case side1 => exact Kd.cu_ (Kd.C_below HR0.out HB.out)); (case side2 => exact HC0.out); rintro e w18 ⟨v714, rfl, ho0, hb⟩; refine ⟨_, rfl, ?_⟩; have n0_ := Aside0.mk (Kd.R_below (Kd.ru_ HO705.out) hb); have n1_ := Aside0.mk (Kd.R_elder' (Kd.ru_ HO710.out) (Kd.R_base ho0) hb); have n2_ := Aside0.mk (Kd.R_lower (Kd.R_new' ho0 (Kd.R_lt (Kd.ru_ HO710.out))) (pbS_ bw_)); have n3_ := Aside0.mk (below_step bw_ hb); clear HO705; clear HO710; clear HB; have HO705 := n0_; have HO710 := n1_; have HO715 := n2_; have HB := n3_; clear n0_ n1_ n2_ n3_; (try clear hb); (try clear hb2); (try clear hk); (try clear hi); (try clear ho0); obtain ⟨Ao19, co19, eo19⟩ := Kd.R_slice HO710.out; subst eo19; obtain ⟨Ao20, co20, eo20⟩ := Kd.R_slice HO715.out; subst eo20) | ((with_reducible refine gaC_ (f := 14) rfl ?_); refine goesL_ (some 31) rfl rfl Try.func14 (by kernel_rfl) rfl #[.slice Ao19 t706.length co19, .slice Ao20 t711.length co20] rfl (by (try simp only [List.map_toArray, List.map_cons, List.map_nil]); first | done | rfl | (simp only [List.length_drop, List.length_take]; rfl)) ?_; (with_reducible refine (dragnetref10_Same.calls k _ _ t706 _ _ t711 true _ ?side1 ?side2 ?side3 ?side4 A9.out).mono ?_); (case side1 => exact Kd.cu_ (Kd.R_reads' HO710.out).2.2); (case side2 => exact (Kd.R_reads' HO710.out).2.1); (case side3 => exact Kd.cu_ (Kd.R_reads' HO715.out).2.2); (case side4 => exact (Kd.R_reads' HO715.out).2.1); rintro e w' ⟨rfl, ⟨nd, rfl⟩⟩; refine ⟨_, rfl, ?_⟩) | (go_at_call 13; (with_reducible refine (dragnetref01_Same.calls _ _ t703 _ _ l0 t717 _ ?side1 ?side2 ?side3 ?side4 A13.out).mono ?_); (case side1 => exact Kd.cu_ (Kd.R_reads' HO705.out).2.2); (case side2 => exact (Kd.R_reads' HO705.out).2.1); (case side3 => exact Kd.cu_ (Kd.C_below HR0.out bw_)); (case side4 => exact HC0.out); rintro e w' ⟨rfl, ⟨nd, rfl⟩⟩))
  go_ret
  exact ⟨rf_, bw_⟩
def dragnetlaw10_IntsTakes.Pure : Prop := ∀ (l0 : List Int), l0.length ≤ maxLen → l0.length * 1 ≤ 140737488351232 → (∀ x ∈ l0, (Lit.int .u8 x).wf = true) → ∃ k, dragnetlaw10_IntsTakes.f k l0 = some true
theorem dragnetlaw10_IntsTakes.walk (P : dragnetlaw10_IntsTakes.Pure) (a0 : Option Addr) (len0 cap0 : Nat) (z0 : List Int) (w : World) (w0 : (a0 = none ∧ len0 = 0 ∧ cap0 = 0 ∧ z0 = []) ∨ ∃ x, a0 = some x ∧ len0 ≤ cap0 ∧ cap0 ≤ maxLen ∧ z0.length = cap0 ∧ (∀ i, i < z0.length → w.cell? (x.add i) = some (.int .u8 (z0.getD i 0))) ∧ ∀ n ∈ z0, (Lit.int .u8 n).wf = true) (y0 : len0 * 1 ≤ 140737488351232) :
  Calls Try.prog 7 #[.slice a0 len0 cap0] w fun e w' => e = .returned (.bool true) ∧ Below w.heap.size w w' := by
 obtain ⟨l0, rfl, hr0, hm0, hw0, hc0⟩ := ReadsInt.ofRowC w0
 obtain ⟨k, h⟩ := P l0 hm0 y0 hw0
 refine (dragnetlaw10_IntsTakes.calls k _ _ l0 true w (Kd.C_of_reads (d := (0 : Int)) (h1 := fun _ => rfl) hr0) hc0 h).mono ?_
 rintro e w' ⟨rfl, hd⟩
 exact ⟨rfl, hd⟩
end Go.Proofs.Ytcjkmmajokkkfaa.P
end
