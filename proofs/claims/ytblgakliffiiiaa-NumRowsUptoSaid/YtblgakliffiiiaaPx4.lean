-- WRITTEN BY wip/tools/myprint.py (this session's program, over the kit's printer); Lean checks it.
import Derived.Test.YtblgakliffiiiaaPx0
import Derived.Test.YtblgakliffiiiaaPx1
import Derived.Test.YtblgakliffiiiaaPx2
import Derived.Test.YtblgakliffiiiaaPx3
namespace Go.Proofs.Ytblgakliffiiiaa.P
open Go.RowKit Go.Proofs.YtblgakliffiiiaaW.PrintWords Go.Proofs.YtblgakliffiiiaaW.PrintLast Go.Proofs.YtblgakliffiiiaaW.PrintMore
attribute [local go_sem] max2_int min2_int max_two min_two max_three min_three max_four min_four   -- for this text's walks alone
set_option linter.unusedVariables false
set_option linter.unusedSimpArgs false

/-! ### dragnetlaw02_NumRows: function 6 -/
mutual
def dragnetlaw02_NumRows.j0 : Nat → List Int → List Int → List Int → Bool → Option (Bool)
  | 0, _, _, _, _ => none
  | k + 1, x0, x7, x9, x15 => dragnetlaw02_NumRows.l0 k x0 x7 x9 x15 0
def dragnetlaw02_NumRows.l0 : Nat → List Int → List Int → List Int → Bool → Int → Option (Bool)
  | 0, _, _, _, _, _ => none
  | k + 1, x0, x7, x9, x15, x16 => if x16 < (x9.length : Int) then (if 0 ≤ x16 then (dragnetlaw02_NumRows.l0 k x0 x7 (x9.set (x16 : Int).toNat (Go.bits .xor .u8 (rd x9 x16) 255)) x15 (wrap64 (x16 + 1))) else (none)) else (if x15 = true then ((dragnetlaw02_kept.f x7 x0).bind fun t276 => (some t276)) else (some false))
end
def dragnetlaw02_NumRows.f (k : Nat) (l0 : List Int) (l1 : List Int) (a2 : Int) : Option (Bool) := (dragnetlaw02_alive.f k).bind fun t252 => (if t252 = true then ((dragnetlaw02_spare.f l0).bind fun t253 => ((num_PutRow.f k t253 l1).bind fun t256 => ((num_TakeRow.f k t253 a2).bind fun bt259 => ((dragnetref02_TakeRow.f k l0 a2).bind fun bt264 => ((dragnetref01_Same.f bt259.1 bt264.1).bind fun t269 => (if t269 = true then (if bt259.2.1 = bt264.2.1 then (if bt259.2.2 = bt264.2.2 then ((dragnetref02_Row.f k l1).bind fun t270 => ((dragnetlaw02_behind.f t256 l0 t270).bind fun t273 => (dragnetlaw02_NumRows.j0 k l0 t253 bt259.1 t273))) else (dragnetlaw02_NumRows.j0 k l0 t253 bt259.1 false)) else (dragnetlaw02_NumRows.j0 k l0 t253 bt259.1 false)) else (dragnetlaw02_NumRows.j0 k l0 t253 bt259.1 false))))))) else (some false))
theorem dragnetlaw02_NumRows.mono_l : ∀ k, (∀ y0 y1 y2 y3, LeO (dragnetlaw02_NumRows.j0 k y0 y1 y2 y3) (dragnetlaw02_NumRows.j0 (k + 1) y0 y1 y2 y3)) ∧ (∀ y0 y1 y2 y3 y4, LeO (dragnetlaw02_NumRows.l0 k y0 y1 y2 y3 y4) (dragnetlaw02_NumRows.l0 (k + 1) y0 y1 y2 y3 y4))
  | 0 => ⟨fun _ _ _ _ r h => by simp [dragnetlaw02_NumRows.j0] at h, fun _ _ _ _ _ r h => by simp [dragnetlaw02_NumRows.l0] at h⟩
  | k + 1 => by
    obtain ⟨ih0, ih1⟩ := dragnetlaw02_NumRows.mono_l k
    refine ⟨?_, ?_⟩
    · intro y0 y1 y2 y3
      unfold dragnetlaw02_NumRows.j0
      repeat' first
      | (with_reducible exact ih0 _ _ _ _)
      | (with_reducible exact ih1 _ _ _ _ _)
      | (with_reducible exact dragnetlaw02_alive.mono _)
      | (with_reducible exact dragnetref02_Row.mono _ _)
      | (with_reducible exact dragnetref02_TakeRow.mono _ _ _)
      | (with_reducible exact num_PutRow.mono _ _ _)
      | (with_reducible exact num_TakeRow.mono _ _ _)
      | (with_reducible exact LeO.refl _)
      | (with_reducible exact LeO.none _)
      | (with_reducible refine LeO.ite ?_ ?_)
      | (with_reducible refine LeO.bind ?_ (fun _ => ?_))
      | exact ih0 _ _ _ _
      | exact ih1 _ _ _ _ _
      | exact dragnetlaw02_alive.mono _
      | exact dragnetref02_Row.mono _ _
      | exact dragnetref02_TakeRow.mono _ _ _
      | exact num_PutRow.mono _ _ _
      | exact num_TakeRow.mono _ _ _
      | exact LeO.none _
      | refine LeO.ite ?_ ?_
      | refine LeO.bind ?_ (fun _ => ?_)
    · intro y0 y1 y2 y3 y4
      unfold dragnetlaw02_NumRows.l0
      repeat' first
      | (with_reducible exact ih0 _ _ _ _)
      | (with_reducible exact ih1 _ _ _ _ _)
      | (with_reducible exact dragnetlaw02_alive.mono _)
      | (with_reducible exact dragnetref02_Row.mono _ _)
      | (with_reducible exact dragnetref02_TakeRow.mono _ _ _)
      | (with_reducible exact num_PutRow.mono _ _ _)
      | (with_reducible exact num_TakeRow.mono _ _ _)
      | (with_reducible exact LeO.refl _)
      | (with_reducible exact LeO.none _)
      | (with_reducible refine LeO.ite ?_ ?_)
      | (with_reducible refine LeO.bind ?_ (fun _ => ?_))
      | exact ih0 _ _ _ _
      | exact ih1 _ _ _ _ _
      | exact dragnetlaw02_alive.mono _
      | exact dragnetref02_Row.mono _ _
      | exact dragnetref02_TakeRow.mono _ _ _
      | exact num_PutRow.mono _ _ _
      | exact num_TakeRow.mono _ _ _
      | exact LeO.none _
      | refine LeO.ite ?_ ?_
      | refine LeO.bind ?_ (fun _ => ?_)
theorem dragnetlaw02_NumRows.mono : ∀ a0 a1 a2 k, LeO (dragnetlaw02_NumRows.f k a0 a1 a2) (dragnetlaw02_NumRows.f (k + 1) a0 a1 a2) := by
  intro a0 a1 a2 k
  obtain ⟨ih0, ih1⟩ := dragnetlaw02_NumRows.mono_l k
  unfold dragnetlaw02_NumRows.f
  repeat' first
      | (with_reducible exact ih0 _ _ _ _)
      | (with_reducible exact ih1 _ _ _ _ _)
      | (with_reducible exact dragnetlaw02_alive.mono _)
      | (with_reducible exact dragnetref02_Row.mono _ _)
      | (with_reducible exact dragnetref02_TakeRow.mono _ _ _)
      | (with_reducible exact num_PutRow.mono _ _ _)
      | (with_reducible exact num_TakeRow.mono _ _ _)
      | (with_reducible exact LeO.refl _)
      | (with_reducible exact LeO.none _)
      | (with_reducible refine LeO.ite ?_ ?_)
      | (with_reducible refine LeO.bind ?_ (fun _ => ?_))
      | exact ih0 _ _ _ _
      | exact ih1 _ _ _ _ _
      | exact dragnetlaw02_alive.mono _
      | exact dragnetref02_Row.mono _ _
      | exact dragnetref02_TakeRow.mono _ _ _
      | exact num_PutRow.mono _ _ _
      | exact num_TakeRow.mono _ _ _
      | exact LeO.none _
      | refine LeO.ite ?_ ?_
      | refine LeO.bind ?_ (fun _ => ?_)
set_option maxHeartbeats 8000000 in
set_option maxRecDepth 100000 in
theorem dragnetlaw02_NumRows.calls (k : Nat) (A0 : Option Addr) (c0 : Nat) (l0 : List Int) (A1 : Option Addr) (c1 : Nat) (l1 : List Int) (a2 : Int) (r : Bool) (w : World) (hr0 : Kd.C (Kd.int .u8) w A0 l0.length l0) (hc0 : l0.length ≤ c0) (hr1 : Kd.C (Kd.int .u8) w A1 l1.length l1) (hc1 : l1.length ≤ c1) (h : dragnetlaw02_NumRows.f k l0 l1 a2 = some r) :
    Calls Try.prog 6 #[.slice A0 l0.length c0, .slice A1 l1.length c1, .int .i64 a2] w fun e w' => e = .returned (.bool r) ∧ Below w.heap.size w w' := by
  have HR0 := Aside0.mk hr0
  have HC0 := Aside0.mk hc0
  clear hr0 hc0
  have HR1 := Aside0.mk hr1
  have HC1 := Aside0.mk hc1
  clear hr1 hc1
  have HB := Aside0.mk (Below.refl w.heap.size w)
  have H : ((dragnetlaw02_alive.f k).bind fun t252 => (if t252 = true then ((dragnetlaw02_spare.f l0).bind fun t253 => ((num_PutRow.f k t253 l1).bind fun t256 => ((num_TakeRow.f k t253 a2).bind fun bt259 => ((dragnetref02_TakeRow.f k l0 a2).bind fun bt264 => ((dragnetref01_Same.f bt259.1 bt264.1).bind fun t269 => (if t269 = true then (if bt259.2.1 = bt264.2.1 then (if bt259.2.2 = bt264.2.2 then ((dragnetref02_Row.f k l1).bind fun t270 => ((dragnetlaw02_behind.f t256 l0 t270).bind fun t273 => (dragnetlaw02_NumRows.j0 k l0 t253 bt259.1 t273))) else (dragnetlaw02_NumRows.j0 k l0 t253 bt259.1 false)) else (dragnetlaw02_NumRows.j0 k l0 t253 bt259.1 false)) else (dragnetlaw02_NumRows.j0 k l0 t253 bt259.1 false))))))) else (some false))) = some r := h
  clear h
  replace H := Option.bind_eq_some_iff.mp H
  obtain ⟨t252, A40, H⟩ := H
  replace H : (if t252 = true then ((dragnetlaw02_spare.f l0).bind fun t253 => ((num_PutRow.f k t253 l1).bind fun t256 => ((num_TakeRow.f k t253 a2).bind fun bt259 => ((dragnetref02_TakeRow.f k l0 a2).bind fun bt264 => ((dragnetref01_Same.f bt259.1 bt264.1).bind fun t269 => (if t269 = true then (if bt259.2.1 = bt264.2.1 then (if bt259.2.2 = bt264.2.2 then ((dragnetref02_Row.f k l1).bind fun t270 => ((dragnetlaw02_behind.f t256 l0 t270).bind fun t273 => (dragnetlaw02_NumRows.j0 k l0 t253 bt259.1 t273))) else (dragnetlaw02_NumRows.j0 k l0 t253 bt259.1 false)) else (dragnetlaw02_NumRows.j0 k l0 t253 bt259.1 false)) else (dragnetlaw02_NumRows.j0 k l0 t253 bt259.1 false))))))) else (some false)) = some r := H
  have A4 := Aside0.mk A40
  clear A40
  by_cases c5 : t252 = true
  · subst c5
    have H1 : ((dragnetlaw02_spare.f l0).bind fun t253 => ((num_PutRow.f k t253 l1).bind fun t256 => ((num_TakeRow.f k t253 a2).bind fun bt259 => ((dragnetref02_TakeRow.f k l0 a2).bind fun bt264 => ((dragnetref01_Same.f bt259.1 bt264.1).bind fun t269 => (if t269 = true then (if bt259.2.1 = bt264.2.1 then (if bt259.2.2 = bt264.2.2 then ((dragnetref02_Row.f k l1).bind fun t270 => ((dragnetlaw02_behind.f t256 l0 t270).bind fun t273 => (dragnetlaw02_NumRows.j0 k l0 t253 bt259.1 t273))) else (dragnetlaw02_NumRows.j0 k l0 t253 bt259.1 false)) else (dragnetlaw02_NumRows.j0 k l0 t253 bt259.1 false)) else (dragnetlaw02_NumRows.j0 k l0 t253 bt259.1 false))))))) = some r := by rw [if_pos rfl] at H; exact H
    clear H
    have H := H1
    clear H1
    replace H := Option.bind_eq_some_iff.mp H
    obtain ⟨t253, A60, H⟩ := H
    replace H : ((num_PutRow.f k t253 l1).bind fun t256 => ((num_TakeRow.f k t253 a2).bind fun bt259 => ((dragnetref02_TakeRow.f k l0 a2).bind fun bt264 => ((dragnetref01_Same.f bt259.1 bt264.1).bind fun t269 => (if t269 = true then (if bt259.2.1 = bt264.2.1 then (if bt259.2.2 = bt264.2.2 then ((dragnetref02_Row.f k l1).bind fun t270 => ((dragnetlaw02_behind.f t256 l0 t270).bind fun t273 => (dragnetlaw02_NumRows.j0 k l0 t253 bt259.1 t273))) else (dragnetlaw02_NumRows.j0 k l0 t253 bt259.1 false)) else (dragnetlaw02_NumRows.j0 k l0 t253 bt259.1 false)) else (dragnetlaw02_NumRows.j0 k l0 t253 bt259.1 false)))))) = some r := H
    have A6 := Aside0.mk A60
    clear A60
    replace H := Option.bind_eq_some_iff.mp H
    obtain ⟨t256, A70, H⟩ := H
    replace H : ((num_TakeRow.f k t253 a2).bind fun bt259 => ((dragnetref02_TakeRow.f k l0 a2).bind fun bt264 => ((dragnetref01_Same.f bt259.1 bt264.1).bind fun t269 => (if t269 = true then (if bt259.2.1 = bt264.2.1 then (if bt259.2.2 = bt264.2.2 then ((dragnetref02_Row.f k l1).bind fun t270 => ((dragnetlaw02_behind.f t256 l0 t270).bind fun t273 => (dragnetlaw02_NumRows.j0 k l0 t253 bt259.1 t273))) else (dragnetlaw02_NumRows.j0 k l0 t253 bt259.1 false)) else (dragnetlaw02_NumRows.j0 k l0 t253 bt259.1 false)) else (dragnetlaw02_NumRows.j0 k l0 t253 bt259.1 false))))) = some r := H
    have A7 := Aside0.mk A70
    clear A70
    replace H := Option.bind_eq_some_iff.mp H
    obtain ⟨⟨t259, t260, t261⟩, A80, H⟩ := H
    replace H : ((dragnetref02_TakeRow.f k l0 a2).bind fun bt264 => ((dragnetref01_Same.f t259 bt264.1).bind fun t269 => (if t269 = true then (if t260 = bt264.2.1 then (if t261 = bt264.2.2 then ((dragnetref02_Row.f k l1).bind fun t270 => ((dragnetlaw02_behind.f t256 l0 t270).bind fun t273 => (dragnetlaw02_NumRows.j0 k l0 t253 t259 t273))) else (dragnetlaw02_NumRows.j0 k l0 t253 t259 false)) else (dragnetlaw02_NumRows.j0 k l0 t253 t259 false)) else (dragnetlaw02_NumRows.j0 k l0 t253 t259 false)))) = some r := H
    have A8 := Aside0.mk A80
    clear A80
    replace H := Option.bind_eq_some_iff.mp H
    obtain ⟨⟨t264, t265, t266⟩, A90, H⟩ := H
    replace H : ((dragnetref01_Same.f t259 t264).bind fun t269 => (if t269 = true then (if t260 = t265 then (if t261 = t266 then ((dragnetref02_Row.f k l1).bind fun t270 => ((dragnetlaw02_behind.f t256 l0 t270).bind fun t273 => (dragnetlaw02_NumRows.j0 k l0 t253 t259 t273))) else (dragnetlaw02_NumRows.j0 k l0 t253 t259 false)) else (dragnetlaw02_NumRows.j0 k l0 t253 t259 false)) else (dragnetlaw02_NumRows.j0 k l0 t253 t259 false))) = some r := H
    have A9 := Aside0.mk A90
    clear A90
    have HC10 := Aside0.mk H
    clear H
    go_enter Try.func6, Try.ntmps6
    go_upto_region 7 with (first | ((with_reducible refine gate_callee (f := 9) rfl ?_); refine goesL_ (some 17) rfl rfl Try.func9 (by kernel_rfl) rfl #[] rfl (by (try simp only [List.map_toArray, List.map_cons, List.map_nil]); first | done | rfl | (simp only [List.length_drop, List.length_take]; rfl)) ?_; (with_reducible refine (dragnetlaw02_alive.calls k  true _ A4.out).mono ?_); rintro e w11 ⟨rfl, hb⟩; refine ⟨_, rfl, ?_⟩; (try (have nG_ := Aside0.mk (Sp.below (by repeat (first | exact HG.out | (with_reducible refine Sp.alloc ?_ _) | (with_reducible refine Sp.drewN ?_ _) | (with_reducible refine Sp.drew ?_))) hb); clear HG; have HG := nG_; clear nG_)); have n0_ := Aside0.mk (below_step (by repeat (first | (with_reducible first | exact HB.out | apply below_alloc | apply pw_below_drewN | apply below_drew1) | exact HB.out)) hb); clear HB; have HB := n0_; clear n0_; (try clear hb); (try clear hb2); (try clear hk); (try clear hi)) | ((with_reducible refine gate_callee (f := 10) rfl ?_); refine goesL_ (some 20) rfl rfl Try.func10 (by kernel_rfl) rfl #[.slice A0 l0.length c0] rfl (by (try simp only [List.map_toArray, List.map_cons, List.map_nil]); first | done | rfl | (simp only [List.length_drop, List.length_take]; rfl)) ?_; (with_reducible refine (dragnetlaw02_spare.calls _ _ l0 t253 _ ?side1 ?side2 A6.out).mono ?_); (case side1 => repeat (first | exact (Kd.C_below HR0.out HB.out) | (with_reducible refine Kd.C_alloc ?_ _) | (with_reducible refine Kd.C_drewN ?_ _) | (with_reducible refine Kd.C_drew ?_))); (case side2 => exact HC0.out); rintro e w12 ⟨v254, rfl, ho0, hb, hsp⟩; refine ⟨_, rfl, ?_⟩; have HG := Aside0.mk hsp; clear hsp; have n0_ := Aside0.mk (Kd.R_lower ho0 (below_size (by repeat (first | (with_reducible first | exact HB.out | apply below_alloc | apply pw_below_drewN | apply below_drew1) | exact HB.out)))); have n1_ := Aside0.mk (below_step (by repeat (first | (with_reducible first | exact HB.out | apply below_alloc | apply pw_below_drewN | apply below_drew1) | exact HB.out)) hb); clear HB; have HO255 := n0_; have HB := n1_; clear n0_ n1_; (try clear hb); (try clear hb2); (try clear hk); (try clear hi); (try clear ho0); obtain ⟨Ao13, co13, eo13⟩ := Kd.R_slice HO255.out; subst eo13) | ((with_reducible refine gate_callee (f := 24) rfl ?_); refine goesL_ (some 23) rfl rfl Try.func24 (by kernel_rfl) rfl #[.slice Ao13 t253.length co13, .slice A1 l1.length c1] rfl (by (try simp only [List.map_toArray, List.map_cons, List.map_nil]); first | done | rfl | (simp only [List.length_drop, List.length_take]; rfl)) ?_; (with_reducible refine (num_PutRow.calls k _ _ t253 _ _ l1 t256 _ ?side1 ?side2 ?side3 ?side4 A7.out).mono ?_); (case side1 => repeat (first | exact (Kd.R_reads' HO255.out).2.2 | (with_reducible refine Kd.C_alloc ?_ _) | (with_reducible refine Kd.C_drewN ?_ _) | (with_reducible refine Kd.C_drew ?_))); (case side2 => exact (Kd.R_reads' HO255.out).2.1); (case side3 => repeat (first | exact (Kd.C_below HR1.out HB.out) | (with_reducible refine Kd.C_alloc ?_ _) | (with_reducible refine Kd.C_drewN ?_ _) | (with_reducible refine Kd.C_drew ?_))); (case side4 => exact HC1.out); rintro e w14 ⟨v257, rfl, ho0, hb⟩; refine ⟨_, rfl, ?_⟩; (try (have nG_ := Aside0.mk (Sp.below (by repeat (first | exact HG.out | (with_reducible refine Sp.alloc ?_ _) | (with_reducible refine Sp.drewN ?_ _) | (with_reducible refine Sp.drew ?_))) hb); clear HG; have HG := nG_; clear nG_)); have n0_ := Aside0.mk (Kd.R_elder' (by (with_reducible repeat (first | apply Kd.R_alloc | apply Kd.R_drewN | apply Kd.R_drew)); exact HO255.out) (Kd.R_base ho0) hb); have n1_ := Aside0.mk (Kd.R_lower (Kd.R_new' ho0 (Kd.R_lt (by (with_reducible repeat (first | apply Kd.R_alloc | apply Kd.R_drewN | apply Kd.R_drew)); exact HO255.out))) (below_size (by repeat (first | (with_reducible first | exact HB.out | apply below_alloc | apply pw_below_drewN | apply below_drew1) | exact HB.out)))); have n2_ := Aside0.mk (below_step (by repeat (first | (with_reducible first | exact HB.out | apply below_alloc | apply pw_below_drewN | apply below_drew1) | exact HB.out)) hb); clear HO255; clear HB; have HO255 := n0_; have HO258 := n1_; have HB := n2_; clear n0_ n1_ n2_; (try clear hb); (try clear hb2); (try clear hk); (try clear hi); (try clear ho0)) | ((with_reducible refine gate_callee (f := 25) rfl ?_); refine goesL_ (some 27) rfl rfl Try.func25 (by kernel_rfl) rfl #[.slice Ao13 t253.length co13, .int .i64 a2] rfl (by (try simp only [List.map_toArray, List.map_cons, List.map_nil]); first | done | rfl | (simp only [List.length_drop, List.length_take]; rfl)) ?_; (with_reducible refine (num_TakeRow.calls k _ _ t253 a2 t259 t260 t261 _ ?side1 ?side2 A8.out).mono ?_); (case side1 => repeat (first | exact (Kd.R_reads' HO255.out).2.2 | (with_reducible refine Kd.C_alloc ?_ _) | (with_reducible refine Kd.C_drewN ?_ _) | (with_reducible refine Kd.C_drew ?_))); (case side2 => exact (Kd.R_reads' HO255.out).2.1); rintro e w15 ⟨v262, rfl, ho0, hb⟩; refine ⟨_, rfl, ?_⟩; (try (have nG_ := Aside0.mk (Sp.below (by repeat (first | exact HG.out | (with_reducible refine Sp.alloc ?_ _) | (with_reducible refine Sp.drewN ?_ _) | (with_reducible refine Sp.drew ?_))) hb); clear HG; have HG := nG_; clear nG_)); have n0_ := Aside0.mk (Kd.R_elder' (by (with_reducible repeat (first | apply Kd.R_alloc | apply Kd.R_drewN | apply Kd.R_drew)); exact HO255.out) (Kd.R_base ho0) hb); have n1_ := Aside0.mk (Kd.R_elder' (by (with_reducible repeat (first | apply Kd.R_alloc | apply Kd.R_drewN | apply Kd.R_drew)); exact HO258.out) (Kd.R_base ho0) hb); have n2_ := Aside0.mk (Kd.R_lower (Kd.R_new' (Kd.R_new' ho0 (Kd.R_lt (by (with_reducible repeat (first | apply Kd.R_alloc | apply Kd.R_drewN | apply Kd.R_drew)); exact HO255.out))) (Kd.R_lt (by (with_reducible repeat (first | apply Kd.R_alloc | apply Kd.R_drewN | apply Kd.R_drew)); exact HO258.out))) (below_size (by repeat (first | (with_reducible first | exact HB.out | apply below_alloc | apply pw_below_drewN | apply below_drew1) | exact HB.out)))); have n3_ := Aside0.mk (below_step (by repeat (first | (with_reducible first | exact HB.out | apply below_alloc | apply pw_below_drewN | apply below_drew1) | exact HB.out)) hb); clear HO255; clear HO258; clear HB; have HO255 := n0_; have HO258 := n1_; have HO263 := n2_; have HB := n3_; clear n0_ n1_ n2_ n3_; (try clear hb); (try clear hb2); (try clear hk); (try clear hi); (try clear ho0)) | ((with_reducible refine gate_callee (f := 26) rfl ?_); refine goesL_ (some 34) rfl rfl Try.func26 (by kernel_rfl) rfl #[.slice A0 l0.length c0, .int .i64 a2] rfl (by (try simp only [List.map_toArray, List.map_cons, List.map_nil]); first | done | rfl | (simp only [List.length_drop, List.length_take]; rfl)) ?_; (with_reducible refine (dragnetref02_TakeRow.calls k _ _ l0 a2 t264 t265 t266 _ ?side1 ?side2 A9.out).mono ?_); (case side1 => repeat (first | exact (Kd.C_below HR0.out HB.out) | (with_reducible refine Kd.C_alloc ?_ _) | (with_reducible refine Kd.C_drewN ?_ _) | (with_reducible refine Kd.C_drew ?_))); (case side2 => exact HC0.out); rintro e w16 ⟨v267, rfl, ho0, hb⟩; refine ⟨_, rfl, ?_⟩; (try (have nG_ := Aside0.mk (Sp.below (by repeat (first | exact HG.out | (with_reducible refine Sp.alloc ?_ _) | (with_reducible refine Sp.drewN ?_ _) | (with_reducible refine Sp.drew ?_))) hb); clear HG; have HG := nG_; clear nG_)); have n0_ := Aside0.mk (Kd.R_elder' (by (with_reducible repeat (first | apply Kd.R_alloc | apply Kd.R_drewN | apply Kd.R_drew)); exact HO255.out) (Kd.R_base ho0) hb); have n1_ := Aside0.mk (Kd.R_elder' (by (with_reducible repeat (first | apply Kd.R_alloc | apply Kd.R_drewN | apply Kd.R_drew)); exact HO258.out) (Kd.R_base ho0) hb); have n2_ := Aside0.mk (Kd.R_elder' (by (with_reducible repeat (first | apply Kd.R_alloc | apply Kd.R_drewN | apply Kd.R_drew)); exact HO263.out) (Kd.R_base ho0) hb); have n3_ := Aside0.mk (Kd.R_lower (Kd.R_new' (Kd.R_new' (Kd.R_new' ho0 (Kd.R_lt (by (with_reducible repeat (first | apply Kd.R_alloc | apply Kd.R_drewN | apply Kd.R_drew)); exact HO255.out))) (Kd.R_lt (by (with_reducible repeat (first | apply Kd.R_alloc | apply Kd.R_drewN | apply Kd.R_drew)); exact HO258.out))) (Kd.R_lt (by (with_reducible repeat (first | apply Kd.R_alloc | apply Kd.R_drewN | apply Kd.R_drew)); exact HO263.out))) (below_size (by repeat (first | (with_reducible first | exact HB.out | apply below_alloc | apply pw_below_drewN | apply below_drew1) | exact HB.out)))); have n4_ := Aside0.mk (below_step (by repeat (first | (with_reducible first | exact HB.out | apply below_alloc | apply pw_below_drewN | apply below_drew1) | exact HB.out)) hb); clear HO255; clear HO258; clear HO263; clear HB; have HO255 := n0_; have HO258 := n1_; have HO263 := n2_; have HO268 := n3_; have HB := n4_; clear n0_ n1_ n2_ n3_ n4_; (try clear hb); (try clear hb2); (try clear hk); (try clear hi); (try clear ho0)))
    (try simp only [Act.put, List.setIfInBounds_toArray, List.set_cons_zero, List.set_cons_succ])
    go_cut [15] (fun v15 wc => ∃ (kq : Nat) (x15_9 : Bool), v15 = .bool x15_9 ∧ Aside0 (dragnetlaw02_NumRows.j0 kq l0 t253 t259 x15_9 = some r) ∧ Aside0 (kq ≤ k) ∧ Aside0 (Kd.R (Kd.int .u8) 5 wc w.heap.size (fun k_ => some k_ ≠ (v262 : Value).ownBlock) (.slice Ao13 t253.length co13) t253) ∧ Aside0 (Kd.R (Kd.int .u8) 5 wc w.heap.size (fun k_ => some k_ ≠ ((.slice Ao13 t253.length co13) : Value).ownBlock) v262 t259) ∧ Aside0 (Below w.heap.size w wc) ∧ Aside0 (Sp wc (.slice Ao13 t253.length co13) t253))
    case first =>
      have H := HC10.out
      clear HC10
      replace H := Option.bind_eq_some_iff.mp H
      obtain ⟨t269, A170, H⟩ := H
      replace H : (if t269 = true then (if t260 = t265 then (if t261 = t266 then ((dragnetref02_Row.f k l1).bind fun t270 => ((dragnetlaw02_behind.f t256 l0 t270).bind fun t273 => (dragnetlaw02_NumRows.j0 k l0 t253 t259 t273))) else (dragnetlaw02_NumRows.j0 k l0 t253 t259 false)) else (dragnetlaw02_NumRows.j0 k l0 t253 t259 false)) else (dragnetlaw02_NumRows.j0 k l0 t253 t259 false)) = some r := H
      have A17 := Aside0.mk A170
      clear A170
      by_cases c18 : t269 = true
      · subst c18
        have H1 : (if t260 = t265 then (if t261 = t266 then ((dragnetref02_Row.f k l1).bind fun t270 => ((dragnetlaw02_behind.f t256 l0 t270).bind fun t273 => (dragnetlaw02_NumRows.j0 k l0 t253 t259 t273))) else (dragnetlaw02_NumRows.j0 k l0 t253 t259 false)) else (dragnetlaw02_NumRows.j0 k l0 t253 t259 false)) = some r := by rw [if_pos rfl] at H; exact H
        clear H
        have H := H1
        clear H1
        by_cases c19 : t260 = t265
        · rw [if_pos c19] at H
          have c19b0 : (t260 == t265) = true := beq_iff_eq.mpr c19
          have c19b1 : (t260 != t265) = false := bne_eq_false_iff_eq.mpr c19
          clear c19
          (first | rw [c19b0] | (simp only [i64_w, i32_w]; rw [c19b0]) | skip)
          by_cases c20 : t261 = t266
          · rw [if_pos c20] at H
            have c20b0 : (t261 == t266) = true := beq_iff_eq.mpr c20
            have c20b1 : (t261 != t266) = false := bne_eq_false_iff_eq.mpr c20
            clear c20
            replace H := Option.bind_eq_some_iff.mp H
            obtain ⟨t270, A210, H⟩ := H
            replace H : ((dragnetlaw02_behind.f t256 l0 t270).bind fun t273 => (dragnetlaw02_NumRows.j0 k l0 t253 t259 t273)) = some r := H
            have A21 := Aside0.mk A210
            clear A210
            replace H := Option.bind_eq_some_iff.mp H
            obtain ⟨t273, A220, H⟩ := H
            replace H : (dragnetlaw02_NumRows.j0 k l0 t253 t259 t273) = some r := H
            have A22 := Aside0.mk A220
            clear A220
            have H' := Aside0.mk H
            clear H
            obtain ⟨Ao23, co23, eo23⟩ := Kd.R_slice HO263.out
            subst eo23
            obtain ⟨Ao24, co24, eo24⟩ := Kd.R_slice HO268.out
            subst eo24
            go_wp2_with (first | ((with_reducible refine gate_callee (f := 27) rfl ?_); refine goesL_ (some 40) rfl rfl Try.func27 (by kernel_rfl) rfl #[.slice Ao23 t259.length co23, .slice Ao24 t264.length co24] rfl (by (try simp only [List.map_toArray, List.map_cons, List.map_nil]); first | done | rfl | (simp only [List.length_drop, List.length_take]; rfl)) ?_; (with_reducible refine (dragnetref01_Same.calls _ _ t259 _ _ t264 true _ ?side1 ?side2 ?side3 ?side4 A17.out).mono ?_); (case side1 => repeat (first | exact (Kd.R_reads' HO263.out).2.2 | (with_reducible refine Kd.C_alloc ?_ _) | (with_reducible refine Kd.C_drewN ?_ _) | (with_reducible refine Kd.C_drew ?_))); (case side2 => exact (Kd.R_reads' HO263.out).2.1); (case side3 => repeat (first | exact (Kd.R_reads' HO268.out).2.2 | (with_reducible refine Kd.C_alloc ?_ _) | (with_reducible refine Kd.C_drewN ?_ _) | (with_reducible refine Kd.C_drew ?_))); (case side4 => exact (Kd.R_reads' HO268.out).2.1); rintro e w' ⟨rfl, ⟨nd, rfl⟩⟩; refine ⟨_, rfl, ?_⟩) | (go_at_call 28; (with_reducible refine (dragnetref02_Row.calls k _ _ l1 t270 _ ?side1 ?side2 A21.out).mono ?_); (case side1 => repeat (first | exact (Kd.C_below HR1.out (by repeat (first | (with_reducible first | exact HB.out | apply below_alloc | apply pw_below_drewN | apply below_drew1) | exact HB.out))) | (with_reducible refine Kd.C_alloc ?_ _) | (with_reducible refine Kd.C_drewN ?_ _) | (with_reducible refine Kd.C_drew ?_))); (case side2 => exact HC1.out); rintro e w25 ⟨v271, rfl, ho0, hb⟩; (try (have nG_ := Aside0.mk (Sp.below (by repeat (first | exact HG.out | (with_reducible refine Sp.alloc ?_ _) | (with_reducible refine Sp.drewN ?_ _) | (with_reducible refine Sp.drew ?_))) hb); clear HG; have HG := nG_; clear nG_)); have n0_ := Aside0.mk (Kd.R_elder' (by (with_reducible repeat (first | apply Kd.R_alloc | apply Kd.R_drewN | apply Kd.R_drew)); exact HO255.out) (Kd.R_base ho0) hb); have n1_ := Aside0.mk (Kd.R_elder' (by (with_reducible repeat (first | apply Kd.R_alloc | apply Kd.R_drewN | apply Kd.R_drew)); exact HO258.out) (Kd.R_base ho0) hb); have n2_ := Aside0.mk (Kd.R_elder' (by (with_reducible repeat (first | apply Kd.R_alloc | apply Kd.R_drewN | apply Kd.R_drew)); exact HO263.out) (Kd.R_base ho0) hb); have n3_ := Aside0.mk (Kd.R_elder' (by (with_reducible repeat (first | apply Kd.R_alloc | apply Kd.R_drewN | apply Kd.R_drew)); exact HO268.out) (Kd.R_base ho0) hb); have n4_ := Aside0.mk (Kd.R_lower (Kd.R_new' (Kd.R_new' (Kd.R_new' (Kd.R_new' ho0 (Kd.R_lt (by (with_reducible repeat (first | apply Kd.R_alloc | apply Kd.R_drewN | apply Kd.R_drew)); exact HO255.out))) (Kd.R_lt (by (with_reducible repeat (first | apply Kd.R_alloc | apply Kd.R_drewN | apply Kd.R_drew)); exact HO258.out))) (Kd.R_lt (by (with_reducible repeat (first | apply Kd.R_alloc | apply Kd.R_drewN | apply Kd.R_drew)); exact HO263.out))) (Kd.R_lt (by (with_reducible repeat (first | apply Kd.R_alloc | apply Kd.R_drewN | apply Kd.R_drew)); exact HO268.out))) (below_size (by repeat (first | (with_reducible first | exact HB.out | apply below_alloc | apply pw_below_drewN | apply below_drew1) | exact HB.out)))); have n5_ := Aside0.mk (below_step (by repeat (first | (with_reducible first | exact HB.out | apply below_alloc | apply pw_below_drewN | apply below_drew1) | exact HB.out)) hb); clear HO255; clear HO258; clear HO263; clear HO268; clear HB; have HO255 := n0_; have HO258 := n1_; have HO263 := n2_; have HO268 := n3_; have HO272 := n4_; have HB := n5_; clear n0_ n1_ n2_ n3_ n4_ n5_; (try clear hb); (try clear hb2); (try clear hk); (try clear hi); (try clear ho0); obtain ⟨Ao26, co26, eo26⟩ := Kd.R_slice HO258.out; subst eo26; obtain ⟨Ao27, co27, eo27⟩ := Kd.R_slice HO272.out; subst eo27) | (go_at_call 14; (with_reducible refine (dragnetlaw02_behind.calls _ _ t256 _ _ l0 _ _ t270 t273 _ ?side1 ?side2 ?side3 ?side4 ?side5 ?side6 A22.out).mono ?_); (case side1 => repeat (first | exact (Kd.R_reads' HO258.out).2.2 | (with_reducible refine Kd.C_alloc ?_ _) | (with_reducible refine Kd.C_drewN ?_ _) | (with_reducible refine Kd.C_drew ?_))); (case side2 => exact (Kd.R_reads' HO258.out).2.1); (case side3 => repeat (first | exact (Kd.C_below HR0.out HB.out) | (with_reducible refine Kd.C_alloc ?_ _) | (with_reducible refine Kd.C_drewN ?_ _) | (with_reducible refine Kd.C_drew ?_))); (case side4 => exact HC0.out); (case side5 => repeat (first | exact (Kd.R_reads' HO272.out).2.2 | (with_reducible refine Kd.C_alloc ?_ _) | (with_reducible refine Kd.C_drewN ?_ _) | (with_reducible refine Kd.C_drew ?_))); (case side6 => exact (Kd.R_reads' HO272.out).2.1); rintro e w' ⟨rfl, ⟨nd, rfl⟩⟩))
            go_meet
            case rel => exact ⟨_, (t273), (by first | rfl | (simp; done) | (simp [*]; done)), H', ⟨by first | omega | exact Nat.le_refl _⟩, ⟨by (with_reducible repeat (first | apply Kd.R_alloc | apply Kd.R_drewN | apply Kd.R_drew)); exact Kd.R_mono HO255.out (fun _ hk => hk.1.1.2)⟩, ⟨by (with_reducible repeat (first | apply Kd.R_alloc | apply Kd.R_drewN | apply Kd.R_drew)); exact Kd.R_mono HO263.out (fun _ hk => hk.1.1.1.2)⟩, ⟨by repeat (first | (with_reducible first | exact HB.out | apply below_alloc | apply pw_below_drewN | apply below_drew1) | exact HB.out)⟩, ⟨(by repeat (first | exact HG.out | (with_reducible refine Sp.alloc ?_ _) | (with_reducible refine Sp.drewN ?_ _) | (with_reducible refine Sp.drew ?_)))⟩⟩
          · rw [if_neg c20] at H
            have c20b0 : (t261 == t266) = false := beq_eq_false_iff_ne.mpr c20
            have c20b1 : (t261 != t266) = true := bne_iff_ne.mpr c20
            have H' := Aside0.mk H
            clear H
            obtain ⟨Ao28, co28, eo28⟩ := Kd.R_slice HO263.out
            subst eo28
            obtain ⟨Ao29, co29, eo29⟩ := Kd.R_slice HO268.out
            subst eo29
            go_wp2_with (first | ((with_reducible refine gate_callee (f := 27) rfl ?_); refine goesL_ (some 40) rfl rfl Try.func27 (by kernel_rfl) rfl #[.slice Ao28 t259.length co28, .slice Ao29 t264.length co29] rfl (by (try simp only [List.map_toArray, List.map_cons, List.map_nil]); first | done | rfl | (simp only [List.length_drop, List.length_take]; rfl)) ?_; (with_reducible refine (dragnetref01_Same.calls _ _ t259 _ _ t264 true _ ?side1 ?side2 ?side3 ?side4 A17.out).mono ?_); (case side1 => repeat (first | exact (Kd.R_reads' HO263.out).2.2 | (with_reducible refine Kd.C_alloc ?_ _) | (with_reducible refine Kd.C_drewN ?_ _) | (with_reducible refine Kd.C_drew ?_))); (case side2 => exact (Kd.R_reads' HO263.out).2.1); (case side3 => repeat (first | exact (Kd.R_reads' HO268.out).2.2 | (with_reducible refine Kd.C_alloc ?_ _) | (with_reducible refine Kd.C_drewN ?_ _) | (with_reducible refine Kd.C_drew ?_))); (case side4 => exact (Kd.R_reads' HO268.out).2.1); rintro e w' ⟨rfl, ⟨nd, rfl⟩⟩; refine ⟨_, rfl, ?_⟩))
            go_meet
            case rel => exact ⟨_, (false), (by first | rfl | (simp; done) | (simp [*]; done)), H', ⟨by first | omega | exact Nat.le_refl _⟩, ⟨by (with_reducible repeat (first | apply Kd.R_alloc | apply Kd.R_drewN | apply Kd.R_drew)); exact Kd.R_mono HO255.out (fun _ hk => hk.1.2)⟩, ⟨by (with_reducible repeat (first | apply Kd.R_alloc | apply Kd.R_drewN | apply Kd.R_drew)); exact Kd.R_mono HO263.out (fun _ hk => hk.1.1.2)⟩, ⟨by repeat (first | (with_reducible first | exact HB.out | apply below_alloc | apply pw_below_drewN | apply below_drew1) | exact HB.out)⟩, ⟨(by repeat (first | exact HG.out | (with_reducible refine Sp.alloc ?_ _) | (with_reducible refine Sp.drewN ?_ _) | (with_reducible refine Sp.drew ?_)))⟩⟩
        · rw [if_neg c19] at H
          have c19b0 : (t260 == t265) = false := beq_eq_false_iff_ne.mpr c19
          have c19b1 : (t260 != t265) = true := bne_iff_ne.mpr c19
          (first | rw [c19b0] | (simp only [i64_w, i32_w]; rw [c19b0]) | skip)
          have H' := Aside0.mk H
          clear H
          obtain ⟨Ao30, co30, eo30⟩ := Kd.R_slice HO263.out
          subst eo30
          obtain ⟨Ao31, co31, eo31⟩ := Kd.R_slice HO268.out
          subst eo31
          go_wp2_with (first | ((with_reducible refine gate_callee (f := 27) rfl ?_); refine goesL_ (some 40) rfl rfl Try.func27 (by kernel_rfl) rfl #[.slice Ao30 t259.length co30, .slice Ao31 t264.length co31] rfl (by (try simp only [List.map_toArray, List.map_cons, List.map_nil]); first | done | rfl | (simp only [List.length_drop, List.length_take]; rfl)) ?_; (with_reducible refine (dragnetref01_Same.calls _ _ t259 _ _ t264 true _ ?side1 ?side2 ?side3 ?side4 A17.out).mono ?_); (case side1 => repeat (first | exact (Kd.R_reads' HO263.out).2.2 | (with_reducible refine Kd.C_alloc ?_ _) | (with_reducible refine Kd.C_drewN ?_ _) | (with_reducible refine Kd.C_drew ?_))); (case side2 => exact (Kd.R_reads' HO263.out).2.1); (case side3 => repeat (first | exact (Kd.R_reads' HO268.out).2.2 | (with_reducible refine Kd.C_alloc ?_ _) | (with_reducible refine Kd.C_drewN ?_ _) | (with_reducible refine Kd.C_drew ?_))); (case side4 => exact (Kd.R_reads' HO268.out).2.1); rintro e w' ⟨rfl, ⟨nd, rfl⟩⟩; refine ⟨_, rfl, ?_⟩))
          go_meet
          case rel => exact ⟨_, (false), (by first | rfl | (simp; done) | (simp [*]; done)), H', ⟨by first | omega | exact Nat.le_refl _⟩, ⟨by (with_reducible repeat (first | apply Kd.R_alloc | apply Kd.R_drewN | apply Kd.R_drew)); exact Kd.R_mono HO255.out (fun _ hk => hk.1.2)⟩, ⟨by (with_reducible repeat (first | apply Kd.R_alloc | apply Kd.R_drewN | apply Kd.R_drew)); exact Kd.R_mono HO263.out (fun _ hk => hk.1.1.2)⟩, ⟨by repeat (first | (with_reducible first | exact HB.out | apply below_alloc | apply pw_below_drewN | apply below_drew1) | exact HB.out)⟩, ⟨(by repeat (first | exact HG.out | (with_reducible refine Sp.alloc ?_ _) | (with_reducible refine Sp.drewN ?_ _) | (with_reducible refine Sp.drew ?_)))⟩⟩
      · replace c18 := Bool.eq_false_iff.mpr c18
        subst c18
        have H1 : (dragnetlaw02_NumRows.j0 k l0 t253 t259 false) = some r := by rw [if_neg (show ¬ (false = true) by decide)] at H; exact H
        clear H
        have H := H1
        clear H1
        have H' := Aside0.mk H
        clear H
        obtain ⟨Ao32, co32, eo32⟩ := Kd.R_slice HO263.out
        subst eo32
        obtain ⟨Ao33, co33, eo33⟩ := Kd.R_slice HO268.out
        subst eo33
        go_wp2_with (first | ((with_reducible refine gate_callee (f := 27) rfl ?_); refine goesL_ (some 40) rfl rfl Try.func27 (by kernel_rfl) rfl #[.slice Ao32 t259.length co32, .slice Ao33 t264.length co33] rfl (by (try simp only [List.map_toArray, List.map_cons, List.map_nil]); first | done | rfl | (simp only [List.length_drop, List.length_take]; rfl)) ?_; (with_reducible refine (dragnetref01_Same.calls _ _ t259 _ _ t264 false _ ?side1 ?side2 ?side3 ?side4 A17.out).mono ?_); (case side1 => repeat (first | exact (Kd.R_reads' HO263.out).2.2 | (with_reducible refine Kd.C_alloc ?_ _) | (with_reducible refine Kd.C_drewN ?_ _) | (with_reducible refine Kd.C_drew ?_))); (case side2 => exact (Kd.R_reads' HO263.out).2.1); (case side3 => repeat (first | exact (Kd.R_reads' HO268.out).2.2 | (with_reducible refine Kd.C_alloc ?_ _) | (with_reducible refine Kd.C_drewN ?_ _) | (with_reducible refine Kd.C_drew ?_))); (case side4 => exact (Kd.R_reads' HO268.out).2.1); rintro e w' ⟨rfl, ⟨nd, rfl⟩⟩; refine ⟨_, rfl, ?_⟩))
        go_meet
        case rel => exact ⟨_, (false), (by first | rfl | (simp; done) | (simp [*]; done)), H', ⟨by first | omega | exact Nat.le_refl _⟩, ⟨by (with_reducible repeat (first | apply Kd.R_alloc | apply Kd.R_drewN | apply Kd.R_drew)); exact Kd.R_mono HO255.out (fun _ hk => hk.1.2)⟩, ⟨by (with_reducible repeat (first | apply Kd.R_alloc | apply Kd.R_drewN | apply Kd.R_drew)); exact Kd.R_mono HO263.out (fun _ hk => hk.1.1.2)⟩, ⟨by repeat (first | (with_reducible first | exact HB.out | apply below_alloc | apply pw_below_drewN | apply below_drew1) | exact HB.out)⟩, ⟨(by repeat (first | exact HG.out | (with_reducible refine Sp.alloc ?_ _) | (with_reducible refine Sp.drewN ?_ _) | (with_reducible refine Sp.drew ?_)))⟩⟩
    case rest =>
      clear HC10
      try clear c1
      try clear c2
      try clear p2
      try clear c5
      try clear c6
      try clear c9
      try clear c10
      try clear c18
      try clear c19
      try clear c19b0
      try clear c19b1
      try clear c20
      try clear c20b0
      try clear c20b1
      try clear c24
      try clear c25
      try clear c26
      try clear c27
      obtain ⟨kq, x15_9, rfl, HA, HJ9, HO_7, HO_9, HB, HG⟩ := hcut
      cases kq with
      | zero => exact absurd HA.out (by simp [dragnetlaw02_NumRows.j0])
      | succ kj9 =>
        have H := HA.out
        clear HA
        simp only [dragnetlaw02_NumRows.j0] at H
        have H' := Aside0.mk H
        clear H
        go_wp2
        go_loopg [16] kj9 (fun kq v16 w' => ∃ (x9_2 : List Int) (x16_2 : Int), v16 = .int .i64 x16_2 ∧ Aside0 (dragnetlaw02_NumRows.l0 kq l0 t253 x9_2 x15_9 x16_2 = some r) ∧ Aside0 (kq ≤ kj9) ∧ Aside0 (Kd.R (Kd.int .u8) 5 w' w.heap.size (fun k_ => some k_ ≠ (v262 : Value).ownBlock) (.slice Ao13 t253.length co13) t253) ∧ Aside0 (Kd.R (Kd.int .u8) 5 w' w.heap.size (fun k_ => some k_ ≠ ((.slice Ao13 t253.length co13) : Value).ownBlock) v262 x9_2) ∧ Aside0 (Below w.heap.size w w') ∧ Aside0 (Sp w' (.slice Ao13 t253.length co13) t253))
        case atStart => exact ⟨(t259), (0), (by first | rfl | (simp; done) | (simp [*]; done)), H', ⟨Nat.le_refl _⟩, ⟨by (with_reducible repeat (first | apply Kd.R_alloc | apply Kd.R_drewN | apply Kd.R_drew)); exact HO_7.out⟩, ⟨by (with_reducible repeat (first | apply Kd.R_alloc | apply Kd.R_drewN | apply Kd.R_drew)); exact HO_9.out⟩, ⟨by repeat (first | (with_reducible first | exact HB.out | apply below_alloc | apply pw_below_drewN | apply below_drew1) | exact HB.out)⟩, ⟨(by repeat (first | exact HG.out | (with_reducible refine Sp.alloc ?_ _) | (with_reducible refine Sp.drewN ?_ _) | (with_reducible refine Sp.drew ?_)))⟩⟩
        case round =>
          clear H'
          try clear c1
          try clear c2
          try clear p2
          try clear c5
          try clear c6
          try clear c9
          try clear c10
          try clear c18
          try clear c19
          try clear c19b0
          try clear c19b1
          try clear c20
          try clear c20b0
          try clear c20b1
          try clear c24
          try clear c25
          try clear c26
          try clear c27
          try clear p2
          obtain ⟨x9_2, x16_2, rfl, HA, HK2, HO_7, HO_9, HB, HG⟩ := hrel
          cases gk with
          | zero => exact absurd HA.out (by simp [dragnetlaw02_NumRows.l0])
          | succ k2 =>
            have H := HA.out
            clear HA
            simp only [dragnetlaw02_NumRows.l0] at H
            by_cases c34 : x16_2 < (x9_2.length : Int)
            · rw [if_pos c34] at H
              have c34b0 : decide (x16_2 < (x9_2.length : Int)) = true := decide_eq_true c34
              clear c34
              by_cases c35 : 0 ≤ x16_2
              · rw [if_pos c35] at H
                have c35b0 : decide (0 ≤ x16_2) = true := decide_eq_true c35
                clear c35
                obtain ⟨y275, hy275⟩ : ∃ y_ : List Int, y_ = (x9_2.set (x16_2 : Int).toNat (Go.bits .xor .u8 (rd x9_2 x16_2) 255)) := ⟨_, rfl⟩
                replace H : (dragnetlaw02_NumRows.l0 k2 l0 t253 y275 x15_9 (wrap64 (x16_2 + 1))) = some r := by first | (rw [hy275]; with_reducible exact H) | (have H2_ := (Option.bind_some _ _).symm.trans H; rw [hy275]; with_reducible exact H2_) | (have H2_ := (Option.bind_some _ _).symm.trans H; with_reducible exact H2_) | with_reducible exact H | (rw [hy275]; exact H) | exact H
                have Ny275 := Aside0.mk hy275
                clear hy275
                have H' := Aside0.mk H
                clear H
                obtain ⟨Ao37, co37, eo37⟩ := Kd.R_slice HO_9.out
                subst eo37
                have p274 : 0 ≤ (x16_2 : Int) := of_decide_eq_true (by first | (with_reducible assumption) | assumption)
                have q274 : x16_2 < (x9_2.length : Int) := of_decide_eq_true (by first | (with_reducible assumption) | assumption)
                obtain ⟨ad274, e274, hx274_0⟩ := Kd.at_int (Kd.R_reads' HO_9.out).2.2 x16_2 p274 q274
                cases e274
                replace p274 := eq_true p274
                replace q274 := eq_true q274
                have p36 : 0 ≤ (x16_2 : Int) := of_decide_eq_true (by first | (with_reducible assumption) | assumption)
                have q36 : (x16_2 : Int) < ((x9_2.length : Int) : Int) := of_decide_eq_true (by first | (with_reducible assumption) | assumption)
                obtain ⟨go36, co36, eo36, gb36, gl36, cl36, HG36⟩ := Kd.R_form HO_9.out (by omega)
                (first | cases eo36 | (injection eo36 with ea_ en_ ec_; (first | subst ea_ | (injection ea_ with ea_; subst ea_)); subst ec_; clear en_))
                have GB36 := Aside0.mk gb36
                have GG36 := Aside0.mk HG36
                clear gb36 gl36 HG36
                (first | simp only [add_plain] at hx274_0 | skip)
                obtain ⟨hx36_0, hf36_0⟩ := Kd.R_celln 0 HO_9.out (x16_2 : Int) p36 q36
                replace p36 := eq_true p36
                replace q36 := eq_true q36
                have HP38 := Kd.R_putg HO_9.out (x16_2 : Int) (Go.bits .xor .u8 (rd x9_2 x16_2) 255)
                go_wp2_with (first | ((with_reducible refine gate_store (t := 5) (p := 69) rfl ?_); refine store_event (t := 5) (p := 69) (v := ?vo_w39) (w1 := (wr.setCell ⟨go36, (x16_2 : Int).toNat, none⟩ (.int .u8 (Go.bits .xor .u8 (rd x9_2 x16_2) 255)))) ?hg ?ho ?hn ?hr ?_; (case ho => rfl); (case hg => rfl); (case hn => rfl); (case hr => first | (go_simp; done) | (go_simp; rfl)); intro w39 hw; have hg : wr.grownBy w39 (some go36) := (by rw [hw]; exact HP38.2); have nG_ := Aside0.mk (Sp.grown HG.out hg (fun e_ => HO_9.out.1 go36 rfl e_.symm)); clear HG; have HG := nG_; clear nG_; have hp_ : Kd.R (Kd.int .u8) 5 w39 w.heap.size (fun k_ => some k_ ≠ (.slice Ao13 t253.length co13 : Value).ownBlock) (.slice (some ⟨go36, 0, none⟩) x9_2.length co37) y275 := (by rw [hw, Ny275.out]; exact HP38.1); clear HP38; have n0_ := Aside0.mk (Kd.R_after (v := (.slice (some ⟨go36, 0, none⟩) x9_2.length co37)) (v1 := (.slice (some ⟨go36, 0, none⟩) x9_2.length co37)) (ok := (fun _ => True)) (by (with_reducible repeat (first | apply Kd.R_alloc | apply Kd.R_drewN | apply Kd.R_drew)); exact Kd.R_mono HO_7.out (fun _ hk => ⟨trivial, hk⟩)) hg (.inl rfl)); have n1_ := Aside0.mk (hp_); have n2_ := Aside0.mk ((by rw [hw]; exact below_set (HB.out) GB36.out : Below w.heap.size w w39)); clear HO_7; clear HO_9; clear HB; have HO_7 := n0_; have HO_9 := n1_; have HB := n2_; clear n0_ n1_ n2_; clear hg hw hp_))
                go_roundg k2
                case measure => have := HJ9.out; have := HK2.out; omega
                case rel => exact ⟨(y275), (wrap64 (x16_2 + 1)), (by first | rfl | (simp; done) | (simp [*]; done)), H', ⟨by have := HJ9.out; have := HK2.out; omega⟩, ⟨by (with_reducible repeat (first | apply Kd.R_alloc | apply Kd.R_drewN | apply Kd.R_drew)); exact Kd.R_mono HO_7.out (fun _ hk => hk.2)⟩, ⟨by (with_reducible repeat (first | apply Kd.R_alloc | apply Kd.R_drewN | apply Kd.R_drew)); exact HO_9.out⟩, ⟨by repeat (first | (with_reducible first | exact HB.out | apply below_alloc | apply pw_below_drewN | apply below_drew1) | exact HB.out)⟩, ⟨(by repeat (first | exact HG.out | (with_reducible refine Sp.alloc ?_ _) | (with_reducible refine Sp.drewN ?_ _) | (with_reducible refine Sp.drew ?_)))⟩⟩
              · rw [if_neg c35] at H
                exact absurd H (by simp)
            · rw [if_neg c34] at H
              have c34b0 : decide (x16_2 < (x9_2.length : Int)) = false := decide_eq_false c34
              clear c34
              by_cases c40 : x15_9 = true
              · subst c40
                have H1 : ((dragnetlaw02_kept.f t253 l0).bind fun t276 => (some t276)) = some r := by rw [if_pos rfl] at H; exact H
                clear H
                have H := H1
                clear H1
                replace H := Option.bind_eq_some_iff.mp H
                obtain ⟨t276, A410, H⟩ := H
                replace H : (some t276) = some r := H
                have A41 := Aside0.mk A410
                clear A410
                obtain rfl := Option.some.inj H
                obtain ⟨Ao42, co42, eo42⟩ := Kd.R_slice HO_9.out
                subst eo42
                go_wp2_with (first | (go_at_call 13; (with_reducible refine (dragnetlaw02_kept.calls _ _ t253 _ _ l0 t276 _ ?side1 ?side2 ?side3 ?side4 A41.out).mono ?_); (case side1 => repeat (first | exact (Kd.R_reads' HO_7.out).2.2 | (with_reducible refine Kd.C_alloc ?_ _) | (with_reducible refine Kd.C_drewN ?_ _) | (with_reducible refine Kd.C_drew ?_))); (case side2 => exact (Kd.R_reads' HO_7.out).2.1); (case side3 => repeat (first | exact (Kd.C_below HR0.out HB.out) | (with_reducible refine Kd.C_alloc ?_ _) | (with_reducible refine Kd.C_drewN ?_ _) | (with_reducible refine Kd.C_drew ?_))); (case side4 => exact HC0.out); rintro e w' ⟨rfl, ⟨nd, rfl⟩⟩))
                go_ret
                exact ⟨by first | rfl | (simp [errW_none, errW_some] <;> rfl) | (simp [*, errW_none, errW_some] <;> rfl), by repeat (first | (with_reducible first | exact HB.out | apply below_alloc | apply pw_below_drewN | apply below_drew1) | exact HB.out)⟩
              · replace c40 := Bool.eq_false_iff.mpr c40
                subst c40
                have H1 : (some false) = some r := by rw [if_neg (show ¬ (false = true) by decide)] at H; exact H
                clear H
                have H := H1
                clear H1
                obtain rfl := Option.some.inj H
                obtain ⟨Ao43, co43, eo43⟩ := Kd.R_slice HO_9.out
                subst eo43
                go_wp2
                go_ret
                exact ⟨by first | rfl | (simp [errW_none, errW_some] <;> rfl) | (simp [*, errW_none, errW_some] <;> rfl), by repeat (first | (with_reducible first | exact HB.out | apply below_alloc | apply pw_below_drewN | apply below_drew1) | exact HB.out)⟩
  · replace c5 := Bool.eq_false_iff.mpr c5
    subst c5
    have H1 : (some false) = some r := by rw [if_neg (show ¬ (false = true) by decide)] at H; exact H
    clear H
    have H := H1
    clear H1
    obtain rfl := Option.some.inj H
    go_enter Try.func6, Try.ntmps6
    go_wp2_with (first | ((with_reducible refine gate_callee (f := 9) rfl ?_); refine goesL_ (some 17) rfl rfl Try.func9 (by kernel_rfl) rfl #[] rfl (by (try simp only [List.map_toArray, List.map_cons, List.map_nil]); first | done | rfl | (simp only [List.length_drop, List.length_take]; rfl)) ?_; (with_reducible refine (dragnetlaw02_alive.calls k  false _ A4.out).mono ?_); rintro e w44 ⟨rfl, hb⟩; refine ⟨_, rfl, ?_⟩; (try (have nG_ := Aside0.mk (Sp.below (by repeat (first | exact HG.out | (with_reducible refine Sp.alloc ?_ _) | (with_reducible refine Sp.drewN ?_ _) | (with_reducible refine Sp.drew ?_))) hb); clear HG; have HG := nG_; clear nG_)); have n0_ := Aside0.mk (below_step (by repeat (first | (with_reducible first | exact HB.out | apply below_alloc | apply pw_below_drewN | apply below_drew1) | exact HB.out)) hb); clear HB; have HB := n0_; clear n0_; (try clear hb); (try clear hb2); (try clear hk); (try clear hi)))
    go_ret
    exact ⟨by first | rfl | (simp [errW_none, errW_some] <;> rfl) | (simp [*, errW_none, errW_some] <;> rfl), by repeat (first | (with_reducible first | exact HB.out | apply below_alloc | apply pw_below_drewN | apply below_drew1) | exact HB.out)⟩

/-- THE ONE PURE STATEMENT of dragnetlaw02_NumRows: yours. -/
def dragnetlaw02_NumRows.Pure : Prop := ∀ (l0 : List Int) (l1 : List Int) (a2 : Int), l0.length ≤ maxLen → l0.length * 1 ≤ 140737488351232 → (∀ x ∈ l0, (Lit.int .u8 x).wf = true) → l1.length ≤ maxLen → l1.length * 1 ≤ 140737488351232 → (∀ x ∈ l1, (Lit.int .u8 x).wf = true) → (Lit.int .i64 a2).wf = true → ∃ k, dragnetlaw02_NumRows.f k l0 l1 a2 = some true
theorem dragnetlaw02_NumRows.walk (P : dragnetlaw02_NumRows.Pure) (a0 : Option Addr) (len0 cap0 : Nat) (z0 : List Int) (a1 : Option Addr) (len1 cap1 : Nat) (z1 : List Int) (a2 : Int) (w : World) (w0 : (a0 = none ∧ len0 = 0 ∧ cap0 = 0 ∧ z0 = []) ∨ ∃ x, a0 = some x ∧ len0 ≤ cap0 ∧ cap0 ≤ maxLen ∧ z0.length = cap0 ∧ (∀ i, i < z0.length → w.cell? (x.add i) = some (.int .u8 (z0.getD i 0))) ∧ ∀ n ∈ z0, (Lit.int .u8 n).wf = true) (y0 : len0 * 1 ≤ 140737488351232) (w1 : (a1 = none ∧ len1 = 0 ∧ cap1 = 0 ∧ z1 = []) ∨ ∃ x, a1 = some x ∧ len1 ≤ cap1 ∧ cap1 ≤ maxLen ∧ z1.length = cap1 ∧ (∀ i, i < z1.length → w.cell? (x.add i) = some (.int .u8 (z1.getD i 0))) ∧ ∀ n ∈ z1, (Lit.int .u8 n).wf = true) (y1 : len1 * 1 ≤ 140737488351232) (w2 : (Lit.int .i64 a2).wf = true) :
    Calls Try.prog 6 #[.slice a0 len0 cap0, .slice a1 len1 cap1, .int .i64 a2] w fun e w' => e = .returned (.bool true) ∧ Below w.heap.size w w' := by
  obtain ⟨l0, rfl, hr0, hm0, hw0, hc0⟩ := ReadsInt.ofRowC w0
  obtain ⟨l1, rfl, hr1, hm1, hw1, hc1⟩ := ReadsInt.ofRowC w1
  obtain ⟨k, h⟩ := P l0 l1 a2 hm0 y0 hw0 hm1 y1 hw1 w2
  refine (dragnetlaw02_NumRows.calls k _ _ l0 _ _ l1 a2 true w (Kd.C_of_reads (d := (0 : Int)) (h1 := fun _ => rfl) hr0) hc0 (Kd.C_of_reads (d := (0 : Int)) (h1 := fun _ => rfl) hr1) hc1 h).mono ?_
  rintro e w' ⟨rfl, hd⟩
  exact ⟨rfl, hd⟩

/-! ### dragnetlaw02_NumBack: function 7 -/
def dragnetlaw02_NumBack.j0 : Nat → List Int → List Int → List Int → Int → Bool → Option (Bool)
  | 0, _, _, _, _, _ => none
  | k + 1, x1, x2, x7, x9, x41 => if x41 = true then (some false) else (if 0 ≤ x9 then (if x9 ≤ (x7.length : Int) then ((dragnetref01_Copy.f (x7.drop (x9 : Int).toNat)).bind fun t297 => (if t297.length + x2.length < 140737488355328 then ((num_TakeRow.f k (t297 ++ x2) (x1.length : Int)).bind fun bt303 => (if bt303.2.2 = 0 then ((dragnetref01_Same.f bt303.1 x1).bind fun t308 => (if t308 = true then (some ((wrap64 (x9 + bt303.2.1)) == (x7.length : Int))) else (some false))) else (some false))) else (none))) else (none)) else (none))
def dragnetlaw02_NumBack.f (k : Nat) (a0 : Int) (l1 : List Int) (l2 : List Int) : Option (Bool) := (dragnetlaw02_alive.f k).bind fun t277 => (if t277 = true then ((num_Put.f k ([] : List Int) a0).bind fun t278 => ((num_PutRow.f k t278 l1).bind fun t281 => ((dragnetref01_Copy.f t281).bind fun t284 => (if t284.length + l2.length < 140737488355328 then ((num_Take.f k (t284 ++ l2)).bind fun bt290 => (if bt290.2.2 = 0 then (if bt290.1 = a0 then (dragnetlaw02_NumBack.j0 k l1 l2 t281 bt290.2.1 (decide (bt290.2.1 > (t281.length : Int)))) else (dragnetlaw02_NumBack.j0 k l1 l2 t281 bt290.2.1 true)) else (dragnetlaw02_NumBack.j0 k l1 l2 t281 bt290.2.1 true))) else (none))))) else (some false))
theorem dragnetlaw02_NumBack.mono_l : ∀ k, (∀ y0 y1 y2 y3 y4, LeO (dragnetlaw02_NumBack.j0 k y0 y1 y2 y3 y4) (dragnetlaw02_NumBack.j0 (k + 1) y0 y1 y2 y3 y4))
  | 0 => fun _ _ _ _ _ r h => by simp [dragnetlaw02_NumBack.j0] at h
  | k + 1 => by
    have ih0 := dragnetlaw02_NumBack.mono_l k
    · intro y0 y1 y2 y3 y4
      unfold dragnetlaw02_NumBack.j0
      repeat' first
      | (with_reducible exact ih0 _ _ _ _ _)
      | (with_reducible exact dragnetlaw02_alive.mono _)
      | (with_reducible exact num_Put.mono _ _ _)
      | (with_reducible exact num_PutRow.mono _ _ _)
      | (with_reducible exact num_Take.mono _ _)
      | (with_reducible exact num_TakeRow.mono _ _ _)
      | (with_reducible exact LeO.refl _)
      | (with_reducible exact LeO.none _)
      | (with_reducible refine LeO.ite ?_ ?_)
      | (with_reducible refine LeO.bind ?_ (fun _ => ?_))
      | exact ih0 _ _ _ _ _
      | exact dragnetlaw02_alive.mono _
      | exact num_Put.mono _ _ _
      | exact num_PutRow.mono _ _ _
      | exact num_Take.mono _ _
      | exact num_TakeRow.mono _ _ _
      | exact LeO.none _
      | refine LeO.ite ?_ ?_
      | refine LeO.bind ?_ (fun _ => ?_)
theorem dragnetlaw02_NumBack.mono : ∀ a0 a1 a2 k, LeO (dragnetlaw02_NumBack.f k a0 a1 a2) (dragnetlaw02_NumBack.f (k + 1) a0 a1 a2) := by
  intro a0 a1 a2 k
  have ih0 := dragnetlaw02_NumBack.mono_l k
  unfold dragnetlaw02_NumBack.f
  repeat' first
      | (with_reducible exact ih0 _ _ _ _ _)
      | (with_reducible exact dragnetlaw02_alive.mono _)
      | (with_reducible exact num_Put.mono _ _ _)
      | (with_reducible exact num_PutRow.mono _ _ _)
      | (with_reducible exact num_Take.mono _ _)
      | (with_reducible exact num_TakeRow.mono _ _ _)
      | (with_reducible exact LeO.refl _)
      | (with_reducible exact LeO.none _)
      | (with_reducible refine LeO.ite ?_ ?_)
      | (with_reducible refine LeO.bind ?_ (fun _ => ?_))
      | exact ih0 _ _ _ _ _
      | exact dragnetlaw02_alive.mono _
      | exact num_Put.mono _ _ _
      | exact num_PutRow.mono _ _ _
      | exact num_Take.mono _ _
      | exact num_TakeRow.mono _ _ _
      | exact LeO.none _
      | refine LeO.ite ?_ ?_
      | refine LeO.bind ?_ (fun _ => ?_)
set_option maxHeartbeats 8000000 in
set_option maxRecDepth 100000 in
theorem dragnetlaw02_NumBack.calls (k : Nat) (a0 : Int) (A1 : Option Addr) (c1 : Nat) (l1 : List Int) (A2 : Option Addr) (c2 : Nat) (l2 : List Int) (r : Bool) (w : World) (hr1 : Kd.C (Kd.int .u8) w A1 l1.length l1) (hc1 : l1.length ≤ c1) (hr2 : Kd.C (Kd.int .u8) w A2 l2.length l2) (hc2 : l2.length ≤ c2) (h : dragnetlaw02_NumBack.f k a0 l1 l2 = some r) :
    Calls Try.prog 7 #[.int .u64 a0, .slice A1 l1.length c1, .slice A2 l2.length c2] w fun e w' => e = .returned (.bool r) ∧ Below w.heap.size w w' := by
  have HR1 := Aside0.mk hr1
  have HC1 := Aside0.mk hc1
  clear hr1 hc1
  have HR2 := Aside0.mk hr2
  have HC2 := Aside0.mk hc2
  clear hr2 hc2
  have HB := Aside0.mk (Below.refl w.heap.size w)
  have H : ((dragnetlaw02_alive.f k).bind fun t277 => (if t277 = true then ((num_Put.f k ([] : List Int) a0).bind fun t278 => ((num_PutRow.f k t278 l1).bind fun t281 => ((dragnetref01_Copy.f t281).bind fun t284 => (if t284.length + l2.length < 140737488355328 then ((num_Take.f k (t284 ++ l2)).bind fun bt290 => (if bt290.2.2 = 0 then (if bt290.1 = a0 then (dragnetlaw02_NumBack.j0 k l1 l2 t281 bt290.2.1 (decide (bt290.2.1 > (t281.length : Int)))) else (dragnetlaw02_NumBack.j0 k l1 l2 t281 bt290.2.1 true)) else (dragnetlaw02_NumBack.j0 k l1 l2 t281 bt290.2.1 true))) else (none))))) else (some false))) = some r := h
  clear h
  replace H := Option.bind_eq_some_iff.mp H
  obtain ⟨t277, A40, H⟩ := H
  replace H : (if t277 = true then ((num_Put.f k ([] : List Int) a0).bind fun t278 => ((num_PutRow.f k t278 l1).bind fun t281 => ((dragnetref01_Copy.f t281).bind fun t284 => (if t284.length + l2.length < 140737488355328 then ((num_Take.f k (t284 ++ l2)).bind fun bt290 => (if bt290.2.2 = 0 then (if bt290.1 = a0 then (dragnetlaw02_NumBack.j0 k l1 l2 t281 bt290.2.1 (decide (bt290.2.1 > (t281.length : Int)))) else (dragnetlaw02_NumBack.j0 k l1 l2 t281 bt290.2.1 true)) else (dragnetlaw02_NumBack.j0 k l1 l2 t281 bt290.2.1 true))) else (none))))) else (some false)) = some r := H
  have A4 := Aside0.mk A40
  clear A40
  by_cases c5 : t277 = true
  · subst c5
    have H1 : ((num_Put.f k ([] : List Int) a0).bind fun t278 => ((num_PutRow.f k t278 l1).bind fun t281 => ((dragnetref01_Copy.f t281).bind fun t284 => (if t284.length + l2.length < 140737488355328 then ((num_Take.f k (t284 ++ l2)).bind fun bt290 => (if bt290.2.2 = 0 then (if bt290.1 = a0 then (dragnetlaw02_NumBack.j0 k l1 l2 t281 bt290.2.1 (decide (bt290.2.1 > (t281.length : Int)))) else (dragnetlaw02_NumBack.j0 k l1 l2 t281 bt290.2.1 true)) else (dragnetlaw02_NumBack.j0 k l1 l2 t281 bt290.2.1 true))) else (none))))) = some r := by rw [if_pos rfl] at H; exact H
    clear H
    have H := H1
    clear H1
    replace H := Option.bind_eq_some_iff.mp H
    obtain ⟨t278, A60, H⟩ := H
    replace H : ((num_PutRow.f k t278 l1).bind fun t281 => ((dragnetref01_Copy.f t281).bind fun t284 => (if t284.length + l2.length < 140737488355328 then ((num_Take.f k (t284 ++ l2)).bind fun bt290 => (if bt290.2.2 = 0 then (if bt290.1 = a0 then (dragnetlaw02_NumBack.j0 k l1 l2 t281 bt290.2.1 (decide (bt290.2.1 > (t281.length : Int)))) else (dragnetlaw02_NumBack.j0 k l1 l2 t281 bt290.2.1 true)) else (dragnetlaw02_NumBack.j0 k l1 l2 t281 bt290.2.1 true))) else (none)))) = some r := H
    have A6 := Aside0.mk A60
    clear A60
    replace H := Option.bind_eq_some_iff.mp H
    obtain ⟨t281, A70, H⟩ := H
    replace H : ((dragnetref01_Copy.f t281).bind fun t284 => (if t284.length + l2.length < 140737488355328 then ((num_Take.f k (t284 ++ l2)).bind fun bt290 => (if bt290.2.2 = 0 then (if bt290.1 = a0 then (dragnetlaw02_NumBack.j0 k l1 l2 t281 bt290.2.1 (decide (bt290.2.1 > (t281.length : Int)))) else (dragnetlaw02_NumBack.j0 k l1 l2 t281 bt290.2.1 true)) else (dragnetlaw02_NumBack.j0 k l1 l2 t281 bt290.2.1 true))) else (none))) = some r := H
    have A7 := Aside0.mk A70
    clear A70
    replace H := Option.bind_eq_some_iff.mp H
    obtain ⟨t284, A80, H⟩ := H
    replace H : (if t284.length + l2.length < 140737488355328 then ((num_Take.f k (t284 ++ l2)).bind fun bt290 => (if bt290.2.2 = 0 then (if bt290.1 = a0 then (dragnetlaw02_NumBack.j0 k l1 l2 t281 bt290.2.1 (decide (bt290.2.1 > (t281.length : Int)))) else (dragnetlaw02_NumBack.j0 k l1 l2 t281 bt290.2.1 true)) else (dragnetlaw02_NumBack.j0 k l1 l2 t281 bt290.2.1 true))) else (none)) = some r := H
    have A8 := Aside0.mk A80
    clear A80
    by_cases c9 : t284.length + l2.length < 140737488355328
    · rw [if_pos c9] at H
      have LMc9 := Aside0.mk c9
      clear c9
      obtain ⟨y287, hy287⟩ : ∃ y_ : List Int, y_ = (t284 ++ l2) := ⟨_, rfl⟩
      replace H : ((num_Take.f k y287).bind fun bt290 => (if bt290.2.2 = 0 then (if bt290.1 = a0 then (dragnetlaw02_NumBack.j0 k l1 l2 t281 bt290.2.1 (decide (bt290.2.1 > (t281.length : Int)))) else (dragnetlaw02_NumBack.j0 k l1 l2 t281 bt290.2.1 true)) else (dragnetlaw02_NumBack.j0 k l1 l2 t281 bt290.2.1 true))) = some r := by first | (rw [hy287]; with_reducible exact H) | (have H2_ := (Option.bind_some _ _).symm.trans H; rw [hy287]; with_reducible exact H2_) | (have H2_ := (Option.bind_some _ _).symm.trans H; with_reducible exact H2_) | with_reducible exact H | (rw [hy287]; exact H) | exact H
      have Ny287 := Aside0.mk hy287
      clear hy287
      replace H := Option.bind_eq_some_iff.mp H
      obtain ⟨⟨t290, t291, t292⟩, A100, H⟩ := H
      replace H : (if t292 = 0 then (if t290 = a0 then (dragnetlaw02_NumBack.j0 k l1 l2 t281 t291 (decide (t291 > (t281.length : Int)))) else (dragnetlaw02_NumBack.j0 k l1 l2 t281 t291 true)) else (dragnetlaw02_NumBack.j0 k l1 l2 t281 t291 true)) = some r := H
      have A10 := Aside0.mk A100
      clear A100
      have HC11 := Aside0.mk H
      clear H
      go_enter Try.func7, Try.ntmps7
      go_upto_region 5 with (first | ((with_reducible refine gate_callee (f := 9) rfl ?_); refine goesL_ (some 14) rfl rfl Try.func9 (by kernel_rfl) rfl #[] rfl (by (try simp only [List.map_toArray, List.map_cons, List.map_nil]); first | done | rfl | (simp only [List.length_drop, List.length_take]; rfl)) ?_; (with_reducible refine (dragnetlaw02_alive.calls k  true _ A4.out).mono ?_); rintro e w12 ⟨rfl, hb⟩; refine ⟨_, rfl, ?_⟩; have n0_ := Aside0.mk (below_step (by repeat (first | (with_reducible first | exact HB.out | apply below_alloc | apply pw_below_drewN | apply below_drew1) | exact HB.out)) hb); clear HB; have HB := n0_; clear n0_; (try clear hb); (try clear hb2); (try clear hk); (try clear hi)) | ((with_reducible refine gate_callee (f := 11) rfl ?_); refine goesL_ (some 17) rfl rfl Try.func11 (by kernel_rfl) rfl #[.slice none 0 0, .int .u64 a0] rfl (by (try simp only [List.map_toArray, List.map_cons, List.map_nil]); first | done | rfl | (simp only [List.length_drop, List.length_take]; rfl)) ?_; (refine (num_Put.calls k _ _ ([] : List Int) a0 t278 _ ?side1 ?side2 A6.out).mono ?_); (case side1 => exact Kd.C_nil _ _); (case side2 => exact Nat.le_refl _); rintro e w13 ⟨v279, rfl, ho0, hb⟩; refine ⟨_, rfl, ?_⟩; have n0_ := Aside0.mk (Kd.R_lower ho0 (below_size (by repeat (first | (with_reducible first | exact HB.out | apply below_alloc | apply pw_below_drewN | apply below_drew1) | exact HB.out)))); have n1_ := Aside0.mk (below_step (by repeat (first | (with_reducible first | exact HB.out | apply below_alloc | apply pw_below_drewN | apply below_drew1) | exact HB.out)) hb); clear HB; have HO280 := n0_; have HB := n1_; clear n0_ n1_; (try clear hb); (try clear hb2); (try clear hk); (try clear hi); (try clear ho0); obtain ⟨Ao14, co14, eo14⟩ := Kd.R_slice HO280.out; subst eo14) | ((with_reducible refine gate_callee (f := 24) rfl ?_); refine goesL_ (some 19) rfl rfl Try.func24 (by kernel_rfl) rfl #[.slice Ao14 t278.length co14, .slice A1 l1.length c1] rfl (by (try simp only [List.map_toArray, List.map_cons, List.map_nil]); first | done | rfl | (simp only [List.length_drop, List.length_take]; rfl)) ?_; (with_reducible refine (num_PutRow.calls k _ _ t278 _ _ l1 t281 _ ?side1 ?side2 ?side3 ?side4 A7.out).mono ?_); (case side1 => repeat (first | exact (Kd.R_reads' HO280.out).2.2 | (with_reducible refine Kd.C_alloc ?_ _) | (with_reducible refine Kd.C_drewN ?_ _) | (with_reducible refine Kd.C_drew ?_))); (case side2 => exact (Kd.R_reads' HO280.out).2.1); (case side3 => repeat (first | exact (Kd.C_below HR1.out HB.out) | (with_reducible refine Kd.C_alloc ?_ _) | (with_reducible refine Kd.C_drewN ?_ _) | (with_reducible refine Kd.C_drew ?_))); (case side4 => exact HC1.out); rintro e w15 ⟨v282, rfl, ho0, hb⟩; refine ⟨_, rfl, ?_⟩; have n0_ := Aside0.mk (Kd.R_elder' (by (with_reducible repeat (first | apply Kd.R_alloc | apply Kd.R_drewN | apply Kd.R_drew)); exact HO280.out) (Kd.R_base ho0) hb); have n1_ := Aside0.mk (Kd.R_lower (Kd.R_new' ho0 (Kd.R_lt (by (with_reducible repeat (first | apply Kd.R_alloc | apply Kd.R_drewN | apply Kd.R_drew)); exact HO280.out))) (below_size (by repeat (first | (with_reducible first | exact HB.out | apply below_alloc | apply pw_below_drewN | apply below_drew1) | exact HB.out)))); have n2_ := Aside0.mk (below_step (by repeat (first | (with_reducible first | exact HB.out | apply below_alloc | apply pw_below_drewN | apply below_drew1) | exact HB.out)) hb); clear HO280; clear HB; have HO280 := n0_; have HO283 := n1_; have HB := n2_; clear n0_ n1_ n2_; (try clear hb); (try clear hb2); (try clear hk); (try clear hi); (try clear ho0); obtain ⟨Ao16, co16, eo16⟩ := Kd.R_slice HO283.out; subst eo16) | ((with_reducible refine gate_callee (f := 29) rfl ?_); refine goesL_ (some 22) rfl rfl Try.func29 (by kernel_rfl) rfl #[.slice Ao16 t281.length co16] rfl (by (try simp only [List.map_toArray, List.map_cons, List.map_nil]); first | done | rfl | (simp only [List.length_drop, List.length_take]; rfl)) ?_; (with_reducible refine (dragnetref01_Copy.calls _ _ t281 t284 _ ?side1 ?side2 A8.out).mono ?_); (case side1 => repeat (first | exact (Kd.R_reads' HO283.out).2.2 | (with_reducible refine Kd.C_alloc ?_ _) | (with_reducible refine Kd.C_drewN ?_ _) | (with_reducible refine Kd.C_drew ?_))); (case side2 => exact (Kd.R_reads' HO283.out).2.1); rintro e w17 ⟨v285, rfl, ho0, hb⟩; refine ⟨_, rfl, ?_⟩; have n0_ := Aside0.mk (Kd.R_elder' (by (with_reducible repeat (first | apply Kd.R_alloc | apply Kd.R_drewN | apply Kd.R_drew)); exact HO280.out) (Kd.R_base ho0) hb); have n1_ := Aside0.mk (Kd.R_elder' (by (with_reducible repeat (first | apply Kd.R_alloc | apply Kd.R_drewN | apply Kd.R_drew)); exact HO283.out) (Kd.R_base ho0) hb); have n2_ := Aside0.mk (Kd.R_lower (Kd.R_new' (Kd.R_new' ho0 (Kd.R_lt (by (with_reducible repeat (first | apply Kd.R_alloc | apply Kd.R_drewN | apply Kd.R_drew)); exact HO280.out))) (Kd.R_lt (by (with_reducible repeat (first | apply Kd.R_alloc | apply Kd.R_drewN | apply Kd.R_drew)); exact HO283.out))) (below_size (by repeat (first | (with_reducible first | exact HB.out | apply below_alloc | apply pw_below_drewN | apply below_drew1) | exact HB.out)))); have n3_ := Aside0.mk (below_step (by repeat (first | (with_reducible first | exact HB.out | apply below_alloc | apply pw_below_drewN | apply below_drew1) | exact HB.out)) hb); clear HO280; clear HO283; clear HB; have HO280 := n0_; have HO283 := n1_; have HO286 := n2_; have HB := n3_; clear n0_ n1_ n2_ n3_; (try clear hb); (try clear hb2); (try clear hk); (try clear hi); (try clear ho0)) | ((with_reducible refine gate_builtin (b := .append) (xs := #[.tmp 22, .tmp 23]) rfl ?_); (try (refine gate_guard (by rfl) ?_; dsimp only)); at_builtin; refine Kd.R_append_rows (Kd.int .u8) (w0 := w) w.heap.size rfl (.tmp 22) (.tmp 23) 22 5 (.int .u8 0) 1 rfl Try.underlying22 info5 rfl (by decide) (by omega) v285 t284 l2 _ _ _ (fun k_ => some k_ ≠ (.slice Ao14 t278.length co14 : Value).ownBlock ∧ some k_ ≠ (.slice Ao16 t281.length co16 : Value).ownBlock) (fun _ => False) rfl rfl ?aO ?aR (fun _ _ h => h) (fun _ h => h.elim) ?aF ?aB ?aS ?aL ?_; (case aR => repeat (first | exact (Kd.C_below HR2.out HB.out) | (with_reducible refine Kd.C_alloc ?_ _) | (with_reducible refine Kd.C_drewN ?_ _) | (with_reducible refine Kd.C_drew ?_))); (case aB => exact (by repeat (first | (with_reducible first | exact HB.out | apply below_alloc | apply pw_below_drewN | apply below_drew1) | exact HB.out))); (case aF => exact (fun k_ hk => ⟨Kd.fresh' (Kd.R_lt (by (with_reducible repeat (first | apply Kd.R_alloc | apply Kd.R_drewN | apply Kd.R_drew)); exact HO280.out)) k_ hk, Kd.fresh' (Kd.R_lt (by (with_reducible repeat (first | apply Kd.R_alloc | apply Kd.R_drewN | apply Kd.R_drew)); exact HO283.out)) k_ hk⟩)); (case aO => exact (by (with_reducible repeat (first | apply Kd.R_alloc | apply Kd.R_drewN | apply Kd.R_drew)); exact Kd.R_mono HO286.out (fun _ hk => ⟨hk.1.2, hk.2⟩))); (case aS => exact (below_size (by repeat (first | (with_reducible first | exact HB.out | apply below_alloc | apply pw_below_drewN | apply below_drew1) | exact HB.out)))); (case aL => have := LMc9.out; omega); intro v288 w18 ho hb hg hat; rw [← Ny287.out] at ho; have n0_ := Aside0.mk (Kd.R_after (ok := (fun k_ => some k_ ≠ (.slice Ao16 t281.length co16 : Value).ownBlock)) (by (with_reducible repeat (first | apply Kd.R_alloc | apply Kd.R_drewN | apply Kd.R_drew)); exact Kd.R_mono HO280.out (fun _ hk => ⟨hk.1.2, hk.2⟩)) hg hat); have n1_ := Aside0.mk (Kd.R_after (ok := (fun k_ => some k_ ≠ (.slice Ao14 t278.length co14 : Value).ownBlock)) (by (with_reducible repeat (first | apply Kd.R_alloc | apply Kd.R_drewN | apply Kd.R_drew)); exact Kd.R_mono HO283.out (fun _ hk => ⟨hk.1.2, hk.2⟩)) hg hat); have n2_ := Aside0.mk (hb); have n3_ := Aside0.mk (ho); clear HO280; clear HO283; clear HB; clear HO286; have HO280 := n0_; have HO283 := n1_; have HB := n2_; have HO289 := n3_; clear n0_ n1_ n2_ n3_; clear ho hb hg hat; obtain ⟨Ao19, co19, eo19⟩ := Kd.R_slice HO289.out; subst eo19) | ((with_reducible refine gate_callee (f := 21) rfl ?_); refine goesL_ (some 25) rfl rfl Try.func21 (by kernel_rfl) rfl #[.slice Ao19 y287.length co19] rfl (by (try simp only [List.map_toArray, List.map_cons, List.map_nil]); first | done | rfl | (simp only [List.length_drop, List.length_take]; rfl)) ?_; (with_reducible refine (num_Take.calls k _ _ y287 t290 t291 t292 _ ?side1 ?side2 A10.out).mono ?_); (case side1 => repeat (first | exact (Kd.R_reads' HO289.out).2.2 | (with_reducible refine Kd.C_alloc ?_ _) | (with_reducible refine Kd.C_drewN ?_ _) | (with_reducible refine Kd.C_drew ?_))); (case side2 => exact (Kd.R_reads' HO289.out).2.1); rintro e w' ⟨rfl, ⟨nd, rfl⟩⟩; refine ⟨_, rfl, ?_⟩))
      (try simp only [Act.put, List.setIfInBounds_toArray, List.set_cons_zero, List.set_cons_succ])
      go_cut [41] (fun v41 wc => ∃ (kq : Nat) (x41_10 : Bool), v41 = .bool x41_10 ∧ Aside0 (dragnetlaw02_NumBack.j0 kq l1 l2 t281 t291 x41_10 = some r) ∧ Aside0 (kq ≤ k) ∧ Aside0 (Kd.R (Kd.int .u8) 5 wc w.heap.size (fun _ => True) (.slice Ao16 t281.length co16) t281) ∧ Aside0 (Below w.heap.size w wc))
      case first =>
        have H := HC11.out
        clear HC11
        by_cases c20 : t292 = 0
        · rw [if_pos c20] at H
          have c20b0 : (t292 == 0) = true := beq_iff_eq.mpr c20
          have c20b1 : (t292 != 0) = false := bne_eq_false_iff_eq.mpr c20
          clear c20
          (first | rw [c20b0] | (simp only [i64_w, i32_w]; rw [c20b0]) | skip)
          by_cases c21 : t290 = a0
          · rw [if_pos c21] at H
            have c21b0 : (t290 == a0) = true := beq_iff_eq.mpr c21
            have c21b1 : (t290 != a0) = false := bne_eq_false_iff_eq.mpr c21
            clear c21
            have H' := Aside0.mk H
            clear H
            go_wp2
            go_meet
            case rel => exact ⟨_, (decide (t291 > (t281.length : Int))), (by first | rfl | (simp; done) | (simp [*]; done)), H', ⟨by first | omega | exact Nat.le_refl _⟩, ⟨by (with_reducible repeat (first | apply Kd.R_alloc | apply Kd.R_drewN | apply Kd.R_drew)); exact Kd.R_mono HO283.out (fun _ hk => trivial)⟩, ⟨by repeat (first | (with_reducible first | exact HB.out | apply below_alloc | apply pw_below_drewN | apply below_drew1) | exact HB.out)⟩⟩
          · rw [if_neg c21] at H
            have c21b0 : (t290 == a0) = false := beq_eq_false_iff_ne.mpr c21
            have c21b1 : (t290 != a0) = true := bne_iff_ne.mpr c21
            have H' := Aside0.mk H
            clear H
            go_wp2
            go_meet
            case rel => exact ⟨_, (true), (by first | rfl | (simp; done) | (simp [*]; done)), H', ⟨by first | omega | exact Nat.le_refl _⟩, ⟨by (with_reducible repeat (first | apply Kd.R_alloc | apply Kd.R_drewN | apply Kd.R_drew)); exact Kd.R_mono HO283.out (fun _ hk => trivial)⟩, ⟨by repeat (first | (with_reducible first | exact HB.out | apply below_alloc | apply pw_below_drewN | apply below_drew1) | exact HB.out)⟩⟩
        · rw [if_neg c20] at H
          have c20b0 : (t292 == 0) = false := beq_eq_false_iff_ne.mpr c20
          have c20b1 : (t292 != 0) = true := bne_iff_ne.mpr c20
          (first | rw [c20b0] | (simp only [i64_w, i32_w]; rw [c20b0]) | skip)
          have H' := Aside0.mk H
          clear H
          go_wp2
          go_meet
          case rel => exact ⟨_, (true), (by first | rfl | (simp; done) | (simp [*]; done)), H', ⟨by first | omega | exact Nat.le_refl _⟩, ⟨by (with_reducible repeat (first | apply Kd.R_alloc | apply Kd.R_drewN | apply Kd.R_drew)); exact Kd.R_mono HO283.out (fun _ hk => trivial)⟩, ⟨by repeat (first | (with_reducible first | exact HB.out | apply below_alloc | apply pw_below_drewN | apply below_drew1) | exact HB.out)⟩⟩
      case rest =>
        clear HC11
        try clear c1
        try clear c2
        try clear p2
        try clear c5
        try clear c7
        try clear c9
        try clear c11
        try clear c20
        try clear c20b0
        try clear c20b1
        try clear c21
        try clear c21b0
        try clear c21b1
        obtain ⟨kq, x41_10, rfl, HA, HJ10, HO_7, HB⟩ := hcut
        cases kq with
        | zero => exact absurd HA.out (by simp [dragnetlaw02_NumBack.j0])
        | succ kj10 =>
          have H := HA.out
          clear HA
          simp only [dragnetlaw02_NumBack.j0] at H
          by_cases c22 : x41_10 = true
          · subst c22
            have H1 : (some false) = some r := by rw [if_pos rfl] at H; exact H
            clear H
            have H := H1
            clear H1
            obtain rfl := Option.some.inj H
            go_wp2
            go_ret
            exact ⟨by first | rfl | (simp [errW_none, errW_some] <;> rfl) | (simp [*, errW_none, errW_some] <;> rfl), by repeat (first | (with_reducible first | exact HB.out | apply below_alloc | apply pw_below_drewN | apply below_drew1) | exact HB.out)⟩
          · replace c22 := Bool.eq_false_iff.mpr c22
            subst c22
            have H1 : (if 0 ≤ t291 then (if t291 ≤ (t281.length : Int) then ((dragnetref01_Copy.f (t281.drop (t291 : Int).toNat)).bind fun t297 => (if t297.length + l2.length < 140737488355328 then ((num_TakeRow.f kj10 (t297 ++ l2) (l1.length : Int)).bind fun bt303 => (if bt303.2.2 = 0 then ((dragnetref01_Same.f bt303.1 l1).bind fun t308 => (if t308 = true then (some ((wrap64 (t291 + bt303.2.1)) == (t281.length : Int))) else (some false))) else (some false))) else (none))) else (none)) else (none)) = some r := by rw [if_neg (show ¬ (false = true) by decide)] at H; exact H
            clear H
            have H := H1
            clear H1
            by_cases c23 : 0 ≤ t291
            · rw [if_pos c23] at H
              have c23b0 := eq_true c23
              have c23b1 : decide (0 ≤ t291) = true := decide_eq_true c23
              clear c23
              by_cases c24 : t291 ≤ (t281.length : Int)
              · rw [if_pos c24] at H
                have c24b0 := eq_true c24
                have c24b1 : decide (t291 ≤ (t281.length : Int)) = true := decide_eq_true c24
                clear c24
                obtain ⟨y293, hy293⟩ : ∃ y_ : List Int, y_ = (t281.drop (t291 : Int).toNat) := ⟨_, rfl⟩
                replace H : ((dragnetref01_Copy.f y293).bind fun t297 => (if t297.length + l2.length < 140737488355328 then ((num_TakeRow.f kj10 (t297 ++ l2) (l1.length : Int)).bind fun bt303 => (if bt303.2.2 = 0 then ((dragnetref01_Same.f bt303.1 l1).bind fun t308 => (if t308 = true then (some ((wrap64 (t291 + bt303.2.1)) == (t281.length : Int))) else (some false))) else (some false))) else (none))) = some r := by first | (rw [hy293]; with_reducible exact H) | (have H2_ := (Option.bind_some _ _).symm.trans H; rw [hy293]; with_reducible exact H2_) | (have H2_ := (Option.bind_some _ _).symm.trans H; with_reducible exact H2_) | with_reducible exact H | (rw [hy293]; exact H) | exact H
                have Ny293 := Aside0.mk hy293
                clear hy293
                replace H := Option.bind_eq_some_iff.mp H
                obtain ⟨t297, A250, H⟩ := H
                replace H : (if t297.length + l2.length < 140737488355328 then ((num_TakeRow.f kj10 (t297 ++ l2) (l1.length : Int)).bind fun bt303 => (if bt303.2.2 = 0 then ((dragnetref01_Same.f bt303.1 l1).bind fun t308 => (if t308 = true then (some ((wrap64 (t291 + bt303.2.1)) == (t281.length : Int))) else (some false))) else (some false))) else (none)) = some r := H
                have A25 := Aside0.mk A250
                clear A250
                by_cases c26 : t297.length + l2.length < 140737488355328
                · rw [if_pos c26] at H
                  have LMc26 := Aside0.mk c26
                  clear c26
                  obtain ⟨y300, hy300⟩ : ∃ y_ : List Int, y_ = (t297 ++ l2) := ⟨_, rfl⟩
                  replace H : ((num_TakeRow.f kj10 y300 (l1.length : Int)).bind fun bt303 => (if bt303.2.2 = 0 then ((dragnetref01_Same.f bt303.1 l1).bind fun t308 => (if t308 = true then (some ((wrap64 (t291 + bt303.2.1)) == (t281.length : Int))) else (some false))) else (some false))) = some r := by first | (rw [hy300]; with_reducible exact H) | (have H2_ := (Option.bind_some _ _).symm.trans H; rw [hy300]; with_reducible exact H2_) | (have H2_ := (Option.bind_some _ _).symm.trans H; with_reducible exact H2_) | with_reducible exact H | (rw [hy300]; exact H) | exact H
                  have Ny300 := Aside0.mk hy300
                  clear hy300
                  replace H := Option.bind_eq_some_iff.mp H
                  obtain ⟨⟨t303, t304, t305⟩, A270, H⟩ := H
                  replace H : (if t305 = 0 then ((dragnetref01_Same.f t303 l1).bind fun t308 => (if t308 = true then (some ((wrap64 (t291 + t304)) == (t281.length : Int))) else (some false))) else (some false)) = some r := H
                  have A27 := Aside0.mk A270
                  clear A270
                  by_cases c28 : t305 = 0
                  · rw [if_pos c28] at H
                    have c28b0 : (t305 == 0) = true := beq_iff_eq.mpr c28
                    have c28b1 : (t305 != 0) = false := bne_eq_false_iff_eq.mpr c28
                    clear c28
                    replace H := Option.bind_eq_some_iff.mp H
                    obtain ⟨t308, A290, H⟩ := H
                    replace H : (if t308 = true then (some ((wrap64 (t291 + t304)) == (t281.length : Int))) else (some false)) = some r := H
                    have A29 := Aside0.mk A290
                    clear A290
                    by_cases c30 : t308 = true
                    · subst c30
                      have H1 : (some ((wrap64 (t291 + t304)) == (t281.length : Int))) = some r := by rw [if_pos rfl] at H; exact H
                      clear H
                      have H := H1
                      clear H1
                      obtain rfl := Option.some.inj H
                      have q31 : (t291 : Int) ≤ ((t281.length : Int) : Int) := of_decide_eq_true (by first | (with_reducible assumption) | assumption)
                      obtain ⟨i031, hi031, _, hsz31, _⟩ := info_parts info5
                      have hroom31 : t281.length ≤ co16 := (Kd.R_reads' HO_7.out).2.1
                      have hC31 : Kd.C (Kd.int .u8) _ Ao16 t281.length t281 := (Kd.R_reads' HO_7.out).2.2
                      have q031 : (0 : Int) ≤ (t291 : Int) := of_decide_eq_true (by first | (with_reducible assumption) | assumption)
                      have hcut31 := cut_from (P := Try.prog) 22 5 .i64 Try.underlying22 hi031 1 hsz31 Ao16 t281.length co16 t291 q031 q31
                      have hr31 := Kd.C_drop (m := (t291 : Int).toNat) (c := co16) hC31 (by omega) hroom31
                      obtain ⟨A31, hA31⟩ : ∃ A1, A1 = (if co16 = (t291 : Int).toNat then Ao16 else (Ao16 : Option Addr).map (·.add ((t291 : Int).toNat * 1))) := ⟨_, rfl⟩
                      obtain ⟨c31, hc31⟩ : ∃ c1, c1 = co16 - (t291 : Int).toNat := ⟨_, rfl⟩
                      have hy31 : y293.length = t281.length - (t291 : Int).toNat := (by rw [Ny293.out, List.length_drop] <;> omega)
                      rw [show (t281).drop (t291 : Int).toNat = y293 from Ny293.out.symm] at hr31
                      replace hr31 : Kd.C (Kd.int .u8) _ A31 y293.length y293 := (by rw [hA31]; exact hr31)
                      rw [← hy31, ← hA31, ← hc31] at hcut31
                      have HR296 := Aside0.mk hr31
                      have HC296 := Aside0.mk (show y293.length ≤ c31 from by rw [hy31, hc31]; exact Nat.sub_le_sub_right hroom31 _)
                      clear hr31 hC31 hroom31 hi031 hsz31 hc31
                      have KY31 := Aside0.mk hy31
                      have KA31 := Aside0.mk hA31
                      clear hy31 hA31
                      have KL31 := Aside0.mk (show (t291 : Int).toNat ≤ t281.length from by omega)
                      replace q31 := eq_true q31
                      go_wp2_with (first | ((with_reducible refine gate_callee (f := 29) rfl ?_); refine goesL_ (some 46) rfl rfl Try.func29 (by kernel_rfl) rfl #[.slice A31 y293.length c31] rfl (by (try simp only [List.map_toArray, List.map_cons, List.map_nil]); first | done | rfl | (simp only [List.length_drop, List.length_take]; rfl)) ?_; (with_reducible refine (dragnetref01_Copy.calls _ _ y293 t297 _ ?side1 ?side2 A25.out).mono ?_); (case side1 => repeat (first | exact (by repeat (first | (with_reducible exact HR296.out) | (with_reducible refine Kd.C_alloc ?_ _) | (with_reducible refine Kd.C_drewN ?_ _) | (with_reducible refine Kd.C_drew ?_) | exact HR296.out)) | (with_reducible refine Kd.C_alloc ?_ _) | (with_reducible refine Kd.C_drewN ?_ _) | (with_reducible refine Kd.C_drew ?_))); (case side2 => exact HC296.out); rintro e w32 ⟨v298, rfl, ho0, hb⟩; refine ⟨_, rfl, ?_⟩; have n0_ := Aside0.mk (Kd.R_elder' (by (with_reducible repeat (first | apply Kd.R_alloc | apply Kd.R_drewN | apply Kd.R_drew)); exact HO_7.out) (Kd.R_base ho0) hb); have n1_ := Aside0.mk (Kd.R_lower (Kd.R_new' ho0 (Kd.R_lt (by (with_reducible repeat (first | apply Kd.R_alloc | apply Kd.R_drewN | apply Kd.R_drew)); exact HO_7.out))) (below_size (by repeat (first | (with_reducible first | exact HB.out | apply below_alloc | apply pw_below_drewN | apply below_drew1) | exact HB.out)))); have n2_ := Aside0.mk (Kd.C_below (by repeat (first | (with_reducible exact HR296.out) | (with_reducible refine Kd.C_alloc ?_ _) | (with_reducible refine Kd.C_drewN ?_ _) | (with_reducible refine Kd.C_drew ?_) | exact HR296.out)) hb); have n3_ := Aside0.mk (below_step (by repeat (first | (with_reducible first | exact HB.out | apply below_alloc | apply pw_below_drewN | apply below_drew1) | exact HB.out)) hb); clear HO_7; clear HR296; clear HB; have HO_7 := n0_; have HO299 := n1_; have HR296 := n2_; have HB := n3_; clear n0_ n1_ n2_ n3_; (try clear hb); (try clear hb2); (try clear hk); (try clear hi); (try clear ho0)) | ((with_reducible refine gate_builtin (b := .append) (xs := #[.tmp 46, .tmp 47]) rfl ?_); (try (refine gate_guard (by rfl) ?_; dsimp only)); at_builtin; refine Kd.R_append_rows (Kd.int .u8) (w0 := w) w.heap.size rfl (.tmp 46) (.tmp 47) 22 5 (.int .u8 0) 1 rfl Try.underlying22 info5 rfl (by decide) (by omega) v298 t297 l2 _ _ _ (fun k_ => some k_ ≠ (.slice Ao16 t281.length co16 : Value).ownBlock) (fun _ => False) rfl rfl ?aO ?aR (fun _ _ h => h) (fun _ h => h.elim) ?aF ?aB ?aS ?aL ?_; (case aR => repeat (first | exact (Kd.C_below HR2.out HB.out) | (with_reducible refine Kd.C_alloc ?_ _) | (with_reducible refine Kd.C_drewN ?_ _) | (with_reducible refine Kd.C_drew ?_))); (case aB => exact (by repeat (first | (with_reducible first | exact HB.out | apply below_alloc | apply pw_below_drewN | apply below_drew1) | exact HB.out))); (case aF => exact (fun k_ hk => Kd.fresh' (Kd.R_lt (by (with_reducible repeat (first | apply Kd.R_alloc | apply Kd.R_drewN | apply Kd.R_drew)); exact HO_7.out)) k_ hk)); (case aO => exact (by (with_reducible repeat (first | apply Kd.R_alloc | apply Kd.R_drewN | apply Kd.R_drew)); exact Kd.R_mono HO299.out (fun _ hk => hk.2))); (case aS => exact (below_size (by repeat (first | (with_reducible first | exact HB.out | apply below_alloc | apply pw_below_drewN | apply below_drew1) | exact HB.out)))); (case aL => have := LMc26.out; omega); intro v301 w33 ho hb hg hat; rw [← Ny300.out] at ho; have n0_ := Aside0.mk (Kd.R_after (ok := (fun _ => True)) (by (with_reducible repeat (first | apply Kd.R_alloc | apply Kd.R_drewN | apply Kd.R_drew)); exact HO_7.out) hg hat); have n1_ := Aside0.mk (hb); have n2_ := Aside0.mk ((show Kd.C (Kd.int .u8) w33 A31 y293.length y293 from by rw [Ny293.out, KA31.out]; exact Kd.C_drop (m := (t291 : Int).toNat) (c := co16) ((Kd.R_reads' (Kd.R_after (ok := (fun _ => True)) (by (with_reducible repeat (first | apply Kd.R_alloc | apply Kd.R_drewN | apply Kd.R_drew)); exact HO_7.out) hg hat)).2.2) KL31.out ((Kd.R_reads' (Kd.R_after (ok := (fun _ => True)) (by (with_reducible repeat (first | apply Kd.R_alloc | apply Kd.R_drewN | apply Kd.R_drew)); exact HO_7.out) hg hat)).2.1))); have n3_ := Aside0.mk (ho); clear HO_7; clear HB; clear HR296; clear HO299; have HO_7 := n0_; have HB := n1_; have HR296 := n2_; have HO302 := n3_; clear n0_ n1_ n2_ n3_; clear ho hb hg hat; obtain ⟨Ao34, co34, eo34⟩ := Kd.R_slice HO302.out; subst eo34) | ((with_reducible refine gate_callee (f := 25) rfl ?_); refine goesL_ (some 51) rfl rfl Try.func25 (by kernel_rfl) rfl #[.slice Ao34 y300.length co34, .int .i64 (l1.length : Int)] rfl (by (try simp only [List.map_toArray, List.map_cons, List.map_nil]); first | done | rfl | (simp only [List.length_drop, List.length_take]; rfl)) ?_; (with_reducible refine (num_TakeRow.calls kj10 _ _ y300 (l1.length : Int) t303 t304 t305 _ ?side1 ?side2 A27.out).mono ?_); (case side1 => repeat (first | exact (Kd.R_reads' HO302.out).2.2 | (with_reducible refine Kd.C_alloc ?_ _) | (with_reducible refine Kd.C_drewN ?_ _) | (with_reducible refine Kd.C_drew ?_))); (case side2 => exact (Kd.R_reads' HO302.out).2.1); rintro e w35 ⟨v306, rfl, ho0, hb⟩; refine ⟨_, rfl, ?_⟩; have n0_ := Aside0.mk (Kd.R_elder' (by (with_reducible repeat (first | apply Kd.R_alloc | apply Kd.R_drewN | apply Kd.R_drew)); exact HO_7.out) (Kd.R_base ho0) hb); have n1_ := Aside0.mk (Kd.R_elder' (by (with_reducible repeat (first | apply Kd.R_alloc | apply Kd.R_drewN | apply Kd.R_drew)); exact HO302.out) (Kd.R_base ho0) hb); have n2_ := Aside0.mk (Kd.R_lower (Kd.R_new' (Kd.R_new' ho0 (Kd.R_lt (by (with_reducible repeat (first | apply Kd.R_alloc | apply Kd.R_drewN | apply Kd.R_drew)); exact HO_7.out))) (Kd.R_lt (by (with_reducible repeat (first | apply Kd.R_alloc | apply Kd.R_drewN | apply Kd.R_drew)); exact HO302.out))) (below_size (by repeat (first | (with_reducible first | exact HB.out | apply below_alloc | apply pw_below_drewN | apply below_drew1) | exact HB.out)))); have n3_ := Aside0.mk (Kd.C_below (by repeat (first | (with_reducible exact HR296.out) | (with_reducible refine Kd.C_alloc ?_ _) | (with_reducible refine Kd.C_drewN ?_ _) | (with_reducible refine Kd.C_drew ?_) | exact HR296.out)) hb); have n4_ := Aside0.mk (below_step (by repeat (first | (with_reducible first | exact HB.out | apply below_alloc | apply pw_below_drewN | apply below_drew1) | exact HB.out)) hb); clear HO_7; clear HO302; clear HR296; clear HB; have HO_7 := n0_; have HO302 := n1_; have HO307 := n2_; have HR296 := n3_; have HB := n4_; clear n0_ n1_ n2_ n3_ n4_; (try clear hb); (try clear hb2); (try clear hk); (try clear hi); (try clear ho0); obtain ⟨Ao36, co36, eo36⟩ := Kd.R_slice HO307.out; subst eo36) | (go_at_call 27; (with_reducible refine (dragnetref01_Same.calls _ _ t303 _ _ l1 true _ ?side1 ?side2 ?side3 ?side4 A29.out).mono ?_); (case side1 => repeat (first | exact (Kd.R_reads' HO307.out).2.2 | (with_reducible refine Kd.C_alloc ?_ _) | (with_reducible refine Kd.C_drewN ?_ _) | (with_reducible refine Kd.C_drew ?_))); (case side2 => exact (Kd.R_reads' HO307.out).2.1); (case side3 => repeat (first | exact (Kd.C_below HR1.out HB.out) | (with_reducible refine Kd.C_alloc ?_ _) | (with_reducible refine Kd.C_drewN ?_ _) | (with_reducible refine Kd.C_drew ?_))); (case side4 => exact HC1.out); rintro e w' ⟨rfl, ⟨nd, rfl⟩⟩))
                      go_ret
                      exact ⟨by first | rfl | (simp [errW_none, errW_some] <;> rfl) | (simp [*, errW_none, errW_some] <;> rfl), by repeat (first | (with_reducible first | exact HB.out | apply below_alloc | apply pw_below_drewN | apply below_drew1) | exact HB.out)⟩
                    · replace c30 := Bool.eq_false_iff.mpr c30
                      subst c30
                      have H1 : (some false) = some r := by rw [if_neg (show ¬ (false = true) by decide)] at H; exact H
                      clear H
                      have H := H1
                      clear H1
                      obtain rfl := Option.some.inj H
                      have q37 : (t291 : Int) ≤ ((t281.length : Int) : Int) := of_decide_eq_true (by first | (with_reducible assumption) | assumption)
                      obtain ⟨i037, hi037, _, hsz37, _⟩ := info_parts info5
                      have hroom37 : t281.length ≤ co16 := (Kd.R_reads' HO_7.out).2.1
                      have hC37 : Kd.C (Kd.int .u8) _ Ao16 t281.length t281 := (Kd.R_reads' HO_7.out).2.2
                      have q037 : (0 : Int) ≤ (t291 : Int) := of_decide_eq_true (by first | (with_reducible assumption) | assumption)
                      have hcut37 := cut_from (P := Try.prog) 22 5 .i64 Try.underlying22 hi037 1 hsz37 Ao16 t281.length co16 t291 q037 q37
                      have hr37 := Kd.C_drop (m := (t291 : Int).toNat) (c := co16) hC37 (by omega) hroom37
                      obtain ⟨A37, hA37⟩ : ∃ A1, A1 = (if co16 = (t291 : Int).toNat then Ao16 else (Ao16 : Option Addr).map (·.add ((t291 : Int).toNat * 1))) := ⟨_, rfl⟩
                      obtain ⟨c37, hc37⟩ : ∃ c1, c1 = co16 - (t291 : Int).toNat := ⟨_, rfl⟩
                      have hy37 : y293.length = t281.length - (t291 : Int).toNat := (by rw [Ny293.out, List.length_drop] <;> omega)
                      rw [show (t281).drop (t291 : Int).toNat = y293 from Ny293.out.symm] at hr37
                      replace hr37 : Kd.C (Kd.int .u8) _ A37 y293.length y293 := (by rw [hA37]; exact hr37)
                      rw [← hy37, ← hA37, ← hc37] at hcut37
                      have HR296 := Aside0.mk hr37
                      have HC296 := Aside0.mk (show y293.length ≤ c37 from by rw [hy37, hc37]; exact Nat.sub_le_sub_right hroom37 _)
                      clear hr37 hC37 hroom37 hi037 hsz37 hc37
                      have KY37 := Aside0.mk hy37
                      have KA37 := Aside0.mk hA37
                      clear hy37 hA37
                      have KL37 := Aside0.mk (show (t291 : Int).toNat ≤ t281.length from by omega)
                      replace q37 := eq_true q37
                      go_wp2_with (first | ((with_reducible refine gate_callee (f := 29) rfl ?_); refine goesL_ (some 46) rfl rfl Try.func29 (by kernel_rfl) rfl #[.slice A37 y293.length c37] rfl (by (try simp only [List.map_toArray, List.map_cons, List.map_nil]); first | done | rfl | (simp only [List.length_drop, List.length_take]; rfl)) ?_; (with_reducible refine (dragnetref01_Copy.calls _ _ y293 t297 _ ?side1 ?side2 A25.out).mono ?_); (case side1 => repeat (first | exact (by repeat (first | (with_reducible exact HR296.out) | (with_reducible refine Kd.C_alloc ?_ _) | (with_reducible refine Kd.C_drewN ?_ _) | (with_reducible refine Kd.C_drew ?_) | exact HR296.out)) | (with_reducible refine Kd.C_alloc ?_ _) | (with_reducible refine Kd.C_drewN ?_ _) | (with_reducible refine Kd.C_drew ?_))); (case side2 => exact HC296.out); rintro e w38 ⟨v298, rfl, ho0, hb⟩; refine ⟨_, rfl, ?_⟩; have n0_ := Aside0.mk (Kd.R_elder' (by (with_reducible repeat (first | apply Kd.R_alloc | apply Kd.R_drewN | apply Kd.R_drew)); exact HO_7.out) (Kd.R_base ho0) hb); have n1_ := Aside0.mk (Kd.R_lower (Kd.R_new' ho0 (Kd.R_lt (by (with_reducible repeat (first | apply Kd.R_alloc | apply Kd.R_drewN | apply Kd.R_drew)); exact HO_7.out))) (below_size (by repeat (first | (with_reducible first | exact HB.out | apply below_alloc | apply pw_below_drewN | apply below_drew1) | exact HB.out)))); have n2_ := Aside0.mk (Kd.C_below (by repeat (first | (with_reducible exact HR296.out) | (with_reducible refine Kd.C_alloc ?_ _) | (with_reducible refine Kd.C_drewN ?_ _) | (with_reducible refine Kd.C_drew ?_) | exact HR296.out)) hb); have n3_ := Aside0.mk (below_step (by repeat (first | (with_reducible first | exact HB.out | apply below_alloc | apply pw_below_drewN | apply below_drew1) | exact HB.out)) hb); clear HO_7; clear HR296; clear HB; have HO_7 := n0_; have HO299 := n1_; have HR296 := n2_; have HB := n3_; clear n0_ n1_ n2_ n3_; (try clear hb); (try clear hb2); (try clear hk); (try clear hi); (try clear ho0)) | ((with_reducible refine gate_builtin (b := .append) (xs := #[.tmp 46, .tmp 47]) rfl ?_); (try (refine gate_guard (by rfl) ?_; dsimp only)); at_builtin; refine Kd.R_append_rows (Kd.int .u8) (w0 := w) w.heap.size rfl (.tmp 46) (.tmp 47) 22 5 (.int .u8 0) 1 rfl Try.underlying22 info5 rfl (by decide) (by omega) v298 t297 l2 _ _ _ (fun k_ => some k_ ≠ (.slice Ao16 t281.length co16 : Value).ownBlock) (fun _ => False) rfl rfl ?aO ?aR (fun _ _ h => h) (fun _ h => h.elim) ?aF ?aB ?aS ?aL ?_; (case aR => repeat (first | exact (Kd.C_below HR2.out HB.out) | (with_reducible refine Kd.C_alloc ?_ _) | (with_reducible refine Kd.C_drewN ?_ _) | (with_reducible refine Kd.C_drew ?_))); (case aB => exact (by repeat (first | (with_reducible first | exact HB.out | apply below_alloc | apply pw_below_drewN | apply below_drew1) | exact HB.out))); (case aF => exact (fun k_ hk => Kd.fresh' (Kd.R_lt (by (with_reducible repeat (first | apply Kd.R_alloc | apply Kd.R_drewN | apply Kd.R_drew)); exact HO_7.out)) k_ hk)); (case aO => exact (by (with_reducible repeat (first | apply Kd.R_alloc | apply Kd.R_drewN | apply Kd.R_drew)); exact Kd.R_mono HO299.out (fun _ hk => hk.2))); (case aS => exact (below_size (by repeat (first | (with_reducible first | exact HB.out | apply below_alloc | apply pw_below_drewN | apply below_drew1) | exact HB.out)))); (case aL => have := LMc26.out; omega); intro v301 w39 ho hb hg hat; rw [← Ny300.out] at ho; have n0_ := Aside0.mk (Kd.R_after (ok := (fun _ => True)) (by (with_reducible repeat (first | apply Kd.R_alloc | apply Kd.R_drewN | apply Kd.R_drew)); exact HO_7.out) hg hat); have n1_ := Aside0.mk (hb); have n2_ := Aside0.mk ((show Kd.C (Kd.int .u8) w39 A37 y293.length y293 from by rw [Ny293.out, KA37.out]; exact Kd.C_drop (m := (t291 : Int).toNat) (c := co16) ((Kd.R_reads' (Kd.R_after (ok := (fun _ => True)) (by (with_reducible repeat (first | apply Kd.R_alloc | apply Kd.R_drewN | apply Kd.R_drew)); exact HO_7.out) hg hat)).2.2) KL37.out ((Kd.R_reads' (Kd.R_after (ok := (fun _ => True)) (by (with_reducible repeat (first | apply Kd.R_alloc | apply Kd.R_drewN | apply Kd.R_drew)); exact HO_7.out) hg hat)).2.1))); have n3_ := Aside0.mk (ho); clear HO_7; clear HB; clear HR296; clear HO299; have HO_7 := n0_; have HB := n1_; have HR296 := n2_; have HO302 := n3_; clear n0_ n1_ n2_ n3_; clear ho hb hg hat; obtain ⟨Ao40, co40, eo40⟩ := Kd.R_slice HO302.out; subst eo40) | ((with_reducible refine gate_callee (f := 25) rfl ?_); refine goesL_ (some 51) rfl rfl Try.func25 (by kernel_rfl) rfl #[.slice Ao40 y300.length co40, .int .i64 (l1.length : Int)] rfl (by (try simp only [List.map_toArray, List.map_cons, List.map_nil]); first | done | rfl | (simp only [List.length_drop, List.length_take]; rfl)) ?_; (with_reducible refine (num_TakeRow.calls kj10 _ _ y300 (l1.length : Int) t303 t304 t305 _ ?side1 ?side2 A27.out).mono ?_); (case side1 => repeat (first | exact (Kd.R_reads' HO302.out).2.2 | (with_reducible refine Kd.C_alloc ?_ _) | (with_reducible refine Kd.C_drewN ?_ _) | (with_reducible refine Kd.C_drew ?_))); (case side2 => exact (Kd.R_reads' HO302.out).2.1); rintro e w41 ⟨v306, rfl, ho0, hb⟩; refine ⟨_, rfl, ?_⟩; have n0_ := Aside0.mk (Kd.R_elder' (by (with_reducible repeat (first | apply Kd.R_alloc | apply Kd.R_drewN | apply Kd.R_drew)); exact HO_7.out) (Kd.R_base ho0) hb); have n1_ := Aside0.mk (Kd.R_elder' (by (with_reducible repeat (first | apply Kd.R_alloc | apply Kd.R_drewN | apply Kd.R_drew)); exact HO302.out) (Kd.R_base ho0) hb); have n2_ := Aside0.mk (Kd.R_lower (Kd.R_new' (Kd.R_new' ho0 (Kd.R_lt (by (with_reducible repeat (first | apply Kd.R_alloc | apply Kd.R_drewN | apply Kd.R_drew)); exact HO_7.out))) (Kd.R_lt (by (with_reducible repeat (first | apply Kd.R_alloc | apply Kd.R_drewN | apply Kd.R_drew)); exact HO302.out))) (below_size (by repeat (first | (with_reducible first | exact HB.out | apply below_alloc | apply pw_below_drewN | apply below_drew1) | exact HB.out)))); have n3_ := Aside0.mk (Kd.C_below (by repeat (first | (with_reducible exact HR296.out) | (with_reducible refine Kd.C_alloc ?_ _) | (with_reducible refine Kd.C_drewN ?_ _) | (with_reducible refine Kd.C_drew ?_) | exact HR296.out)) hb); have n4_ := Aside0.mk (below_step (by repeat (first | (with_reducible first | exact HB.out | apply below_alloc | apply pw_below_drewN | apply below_drew1) | exact HB.out)) hb); clear HO_7; clear HO302; clear HR296; clear HB; have HO_7 := n0_; have HO302 := n1_; have HO307 := n2_; have HR296 := n3_; have HB := n4_; clear n0_ n1_ n2_ n3_ n4_; (try clear hb); (try clear hb2); (try clear hk); (try clear hi); (try clear ho0); obtain ⟨Ao42, co42, eo42⟩ := Kd.R_slice HO307.out; subst eo42) | (go_at_call 27; (with_reducible refine (dragnetref01_Same.calls _ _ t303 _ _ l1 false _ ?side1 ?side2 ?side3 ?side4 A29.out).mono ?_); (case side1 => repeat (first | exact (Kd.R_reads' HO307.out).2.2 | (with_reducible refine Kd.C_alloc ?_ _) | (with_reducible refine Kd.C_drewN ?_ _) | (with_reducible refine Kd.C_drew ?_))); (case side2 => exact (Kd.R_reads' HO307.out).2.1); (case side3 => repeat (first | exact (Kd.C_below HR1.out HB.out) | (with_reducible refine Kd.C_alloc ?_ _) | (with_reducible refine Kd.C_drewN ?_ _) | (with_reducible refine Kd.C_drew ?_))); (case side4 => exact HC1.out); rintro e w' ⟨rfl, ⟨nd, rfl⟩⟩))
                      go_ret
                      exact ⟨by first | rfl | (simp [errW_none, errW_some] <;> rfl) | (simp [*, errW_none, errW_some] <;> rfl), by repeat (first | (with_reducible first | exact HB.out | apply below_alloc | apply pw_below_drewN | apply below_drew1) | exact HB.out)⟩
                  · rw [if_neg c28] at H
                    have c28b0 : (t305 == 0) = false := beq_eq_false_iff_ne.mpr c28
                    have c28b1 : (t305 != 0) = true := bne_iff_ne.mpr c28
                    obtain rfl := Option.some.inj H
                    have q43 : (t291 : Int) ≤ ((t281.length : Int) : Int) := of_decide_eq_true (by first | (with_reducible assumption) | assumption)
                    obtain ⟨i043, hi043, _, hsz43, _⟩ := info_parts info5
                    have hroom43 : t281.length ≤ co16 := (Kd.R_reads' HO_7.out).2.1
                    have hC43 : Kd.C (Kd.int .u8) _ Ao16 t281.length t281 := (Kd.R_reads' HO_7.out).2.2
                    have q043 : (0 : Int) ≤ (t291 : Int) := of_decide_eq_true (by first | (with_reducible assumption) | assumption)
                    have hcut43 := cut_from (P := Try.prog) 22 5 .i64 Try.underlying22 hi043 1 hsz43 Ao16 t281.length co16 t291 q043 q43
                    have hr43 := Kd.C_drop (m := (t291 : Int).toNat) (c := co16) hC43 (by omega) hroom43
                    obtain ⟨A43, hA43⟩ : ∃ A1, A1 = (if co16 = (t291 : Int).toNat then Ao16 else (Ao16 : Option Addr).map (·.add ((t291 : Int).toNat * 1))) := ⟨_, rfl⟩
                    obtain ⟨c43, hc43⟩ : ∃ c1, c1 = co16 - (t291 : Int).toNat := ⟨_, rfl⟩
                    have hy43 : y293.length = t281.length - (t291 : Int).toNat := (by rw [Ny293.out, List.length_drop] <;> omega)
                    rw [show (t281).drop (t291 : Int).toNat = y293 from Ny293.out.symm] at hr43
                    replace hr43 : Kd.C (Kd.int .u8) _ A43 y293.length y293 := (by rw [hA43]; exact hr43)
                    rw [← hy43, ← hA43, ← hc43] at hcut43
                    have HR296 := Aside0.mk hr43
                    have HC296 := Aside0.mk (show y293.length ≤ c43 from by rw [hy43, hc43]; exact Nat.sub_le_sub_right hroom43 _)
                    clear hr43 hC43 hroom43 hi043 hsz43 hc43
                    have KY43 := Aside0.mk hy43
                    have KA43 := Aside0.mk hA43
                    clear hy43 hA43
                    have KL43 := Aside0.mk (show (t291 : Int).toNat ≤ t281.length from by omega)
                    replace q43 := eq_true q43
                    go_wp2_with (first | ((with_reducible refine gate_callee (f := 29) rfl ?_); refine goesL_ (some 46) rfl rfl Try.func29 (by kernel_rfl) rfl #[.slice A43 y293.length c43] rfl (by (try simp only [List.map_toArray, List.map_cons, List.map_nil]); first | done | rfl | (simp only [List.length_drop, List.length_take]; rfl)) ?_; (with_reducible refine (dragnetref01_Copy.calls _ _ y293 t297 _ ?side1 ?side2 A25.out).mono ?_); (case side1 => repeat (first | exact (by repeat (first | (with_reducible exact HR296.out) | (with_reducible refine Kd.C_alloc ?_ _) | (with_reducible refine Kd.C_drewN ?_ _) | (with_reducible refine Kd.C_drew ?_) | exact HR296.out)) | (with_reducible refine Kd.C_alloc ?_ _) | (with_reducible refine Kd.C_drewN ?_ _) | (with_reducible refine Kd.C_drew ?_))); (case side2 => exact HC296.out); rintro e w44 ⟨v298, rfl, ho0, hb⟩; refine ⟨_, rfl, ?_⟩; have n0_ := Aside0.mk (Kd.R_elder' (by (with_reducible repeat (first | apply Kd.R_alloc | apply Kd.R_drewN | apply Kd.R_drew)); exact HO_7.out) (Kd.R_base ho0) hb); have n1_ := Aside0.mk (Kd.R_lower (Kd.R_new' ho0 (Kd.R_lt (by (with_reducible repeat (first | apply Kd.R_alloc | apply Kd.R_drewN | apply Kd.R_drew)); exact HO_7.out))) (below_size (by repeat (first | (with_reducible first | exact HB.out | apply below_alloc | apply pw_below_drewN | apply below_drew1) | exact HB.out)))); have n2_ := Aside0.mk (Kd.C_below (by repeat (first | (with_reducible exact HR296.out) | (with_reducible refine Kd.C_alloc ?_ _) | (with_reducible refine Kd.C_drewN ?_ _) | (with_reducible refine Kd.C_drew ?_) | exact HR296.out)) hb); have n3_ := Aside0.mk (below_step (by repeat (first | (with_reducible first | exact HB.out | apply below_alloc | apply pw_below_drewN | apply below_drew1) | exact HB.out)) hb); clear HO_7; clear HR296; clear HB; have HO_7 := n0_; have HO299 := n1_; have HR296 := n2_; have HB := n3_; clear n0_ n1_ n2_ n3_; (try clear hb); (try clear hb2); (try clear hk); (try clear hi); (try clear ho0)) | ((with_reducible refine gate_builtin (b := .append) (xs := #[.tmp 46, .tmp 47]) rfl ?_); (try (refine gate_guard (by rfl) ?_; dsimp only)); at_builtin; refine Kd.R_append_rows (Kd.int .u8) (w0 := w) w.heap.size rfl (.tmp 46) (.tmp 47) 22 5 (.int .u8 0) 1 rfl Try.underlying22 info5 rfl (by decide) (by omega) v298 t297 l2 _ _ _ (fun k_ => some k_ ≠ (.slice Ao16 t281.length co16 : Value).ownBlock) (fun _ => False) rfl rfl ?aO ?aR (fun _ _ h => h) (fun _ h => h.elim) ?aF ?aB ?aS ?aL ?_; (case aR => repeat (first | exact (Kd.C_below HR2.out HB.out) | (with_reducible refine Kd.C_alloc ?_ _) | (with_reducible refine Kd.C_drewN ?_ _) | (with_reducible refine Kd.C_drew ?_))); (case aB => exact (by repeat (first | (with_reducible first | exact HB.out | apply below_alloc | apply pw_below_drewN | apply below_drew1) | exact HB.out))); (case aF => exact (fun k_ hk => Kd.fresh' (Kd.R_lt (by (with_reducible repeat (first | apply Kd.R_alloc | apply Kd.R_drewN | apply Kd.R_drew)); exact HO_7.out)) k_ hk)); (case aO => exact (by (with_reducible repeat (first | apply Kd.R_alloc | apply Kd.R_drewN | apply Kd.R_drew)); exact Kd.R_mono HO299.out (fun _ hk => hk.2))); (case aS => exact (below_size (by repeat (first | (with_reducible first | exact HB.out | apply below_alloc | apply pw_below_drewN | apply below_drew1) | exact HB.out)))); (case aL => have := LMc26.out; omega); intro v301 w45 ho hb hg hat; rw [← Ny300.out] at ho; have n0_ := Aside0.mk (Kd.R_after (ok := (fun _ => True)) (by (with_reducible repeat (first | apply Kd.R_alloc | apply Kd.R_drewN | apply Kd.R_drew)); exact HO_7.out) hg hat); have n1_ := Aside0.mk (hb); have n2_ := Aside0.mk ((show Kd.C (Kd.int .u8) w45 A43 y293.length y293 from by rw [Ny293.out, KA43.out]; exact Kd.C_drop (m := (t291 : Int).toNat) (c := co16) ((Kd.R_reads' (Kd.R_after (ok := (fun _ => True)) (by (with_reducible repeat (first | apply Kd.R_alloc | apply Kd.R_drewN | apply Kd.R_drew)); exact HO_7.out) hg hat)).2.2) KL43.out ((Kd.R_reads' (Kd.R_after (ok := (fun _ => True)) (by (with_reducible repeat (first | apply Kd.R_alloc | apply Kd.R_drewN | apply Kd.R_drew)); exact HO_7.out) hg hat)).2.1))); have n3_ := Aside0.mk (ho); clear HO_7; clear HB; clear HR296; clear HO299; have HO_7 := n0_; have HB := n1_; have HR296 := n2_; have HO302 := n3_; clear n0_ n1_ n2_ n3_; clear ho hb hg hat; obtain ⟨Ao46, co46, eo46⟩ := Kd.R_slice HO302.out; subst eo46) | ((with_reducible refine gate_callee (f := 25) rfl ?_); refine goesL_ (some 51) rfl rfl Try.func25 (by kernel_rfl) rfl #[.slice Ao46 y300.length co46, .int .i64 (l1.length : Int)] rfl (by (try simp only [List.map_toArray, List.map_cons, List.map_nil]); first | done | rfl | (simp only [List.length_drop, List.length_take]; rfl)) ?_; (with_reducible refine (num_TakeRow.calls kj10 _ _ y300 (l1.length : Int) t303 t304 t305 _ ?side1 ?side2 A27.out).mono ?_); (case side1 => repeat (first | exact (Kd.R_reads' HO302.out).2.2 | (with_reducible refine Kd.C_alloc ?_ _) | (with_reducible refine Kd.C_drewN ?_ _) | (with_reducible refine Kd.C_drew ?_))); (case side2 => exact (Kd.R_reads' HO302.out).2.1); rintro e w47 ⟨v306, rfl, ho0, hb⟩; refine ⟨_, rfl, ?_⟩; have n0_ := Aside0.mk (Kd.R_elder' (by (with_reducible repeat (first | apply Kd.R_alloc | apply Kd.R_drewN | apply Kd.R_drew)); exact HO_7.out) (Kd.R_base ho0) hb); have n1_ := Aside0.mk (Kd.R_elder' (by (with_reducible repeat (first | apply Kd.R_alloc | apply Kd.R_drewN | apply Kd.R_drew)); exact HO302.out) (Kd.R_base ho0) hb); have n2_ := Aside0.mk (Kd.R_lower (Kd.R_new' (Kd.R_new' ho0 (Kd.R_lt (by (with_reducible repeat (first | apply Kd.R_alloc | apply Kd.R_drewN | apply Kd.R_drew)); exact HO_7.out))) (Kd.R_lt (by (with_reducible repeat (first | apply Kd.R_alloc | apply Kd.R_drewN | apply Kd.R_drew)); exact HO302.out))) (below_size (by repeat (first | (with_reducible first | exact HB.out | apply below_alloc | apply pw_below_drewN | apply below_drew1) | exact HB.out)))); have n3_ := Aside0.mk (Kd.C_below (by repeat (first | (with_reducible exact HR296.out) | (with_reducible refine Kd.C_alloc ?_ _) | (with_reducible refine Kd.C_drewN ?_ _) | (with_reducible refine Kd.C_drew ?_) | exact HR296.out)) hb); have n4_ := Aside0.mk (below_step (by repeat (first | (with_reducible first | exact HB.out | apply below_alloc | apply pw_below_drewN | apply below_drew1) | exact HB.out)) hb); clear HO_7; clear HO302; clear HR296; clear HB; have HO_7 := n0_; have HO302 := n1_; have HO307 := n2_; have HR296 := n3_; have HB := n4_; clear n0_ n1_ n2_ n3_ n4_; (try clear hb); (try clear hb2); (try clear hk); (try clear hi); (try clear ho0)))
                    go_ret
                    exact ⟨by first | rfl | (simp [errW_none, errW_some] <;> rfl) | (simp [*, errW_none, errW_some] <;> rfl), by repeat (first | (with_reducible first | exact HB.out | apply below_alloc | apply pw_below_drewN | apply below_drew1) | exact HB.out)⟩
                · rw [if_neg c26] at H
                  exact absurd H (by simp)
              · rw [if_neg c24] at H
                exact absurd H (by simp)
            · rw [if_neg c23] at H
              exact absurd H (by simp)
    · rw [if_neg c9] at H
      exact absurd H (by simp)
  · replace c5 := Bool.eq_false_iff.mpr c5
    subst c5
    have H1 : (some false) = some r := by rw [if_neg (show ¬ (false = true) by decide)] at H; exact H
    clear H
    have H := H1
    clear H1
    obtain rfl := Option.some.inj H
    go_enter Try.func7, Try.ntmps7
    go_wp2_with (first | ((with_reducible refine gate_callee (f := 9) rfl ?_); refine goesL_ (some 14) rfl rfl Try.func9 (by kernel_rfl) rfl #[] rfl (by (try simp only [List.map_toArray, List.map_cons, List.map_nil]); first | done | rfl | (simp only [List.length_drop, List.length_take]; rfl)) ?_; (with_reducible refine (dragnetlaw02_alive.calls k  false _ A4.out).mono ?_); rintro e w48 ⟨rfl, hb⟩; refine ⟨_, rfl, ?_⟩; have n0_ := Aside0.mk (below_step (by repeat (first | (with_reducible first | exact HB.out | apply below_alloc | apply pw_below_drewN | apply below_drew1) | exact HB.out)) hb); clear HB; have HB := n0_; clear n0_; (try clear hb); (try clear hb2); (try clear hk); (try clear hi)))
    go_ret
    exact ⟨by first | rfl | (simp [errW_none, errW_some] <;> rfl) | (simp [*, errW_none, errW_some] <;> rfl), by repeat (first | (with_reducible first | exact HB.out | apply below_alloc | apply pw_below_drewN | apply below_drew1) | exact HB.out)⟩

/-- THE ONE PURE STATEMENT of dragnetlaw02_NumBack: yours. -/
def dragnetlaw02_NumBack.Pure : Prop := ∀ (a0 : Int) (l1 : List Int) (l2 : List Int), (Lit.int .u64 a0).wf = true → l1.length ≤ maxLen → l1.length * 1 ≤ 140737488351232 → (∀ x ∈ l1, (Lit.int .u8 x).wf = true) → l2.length ≤ maxLen → l2.length * 1 ≤ 140737488351232 → (∀ x ∈ l2, (Lit.int .u8 x).wf = true) → ∃ k, dragnetlaw02_NumBack.f k a0 l1 l2 = some true
theorem dragnetlaw02_NumBack.walk (P : dragnetlaw02_NumBack.Pure) (a0 : Int) (a1 : Option Addr) (len1 cap1 : Nat) (z1 : List Int) (a2 : Option Addr) (len2 cap2 : Nat) (z2 : List Int) (w : World) (w0 : (Lit.int .u64 a0).wf = true) (w1 : (a1 = none ∧ len1 = 0 ∧ cap1 = 0 ∧ z1 = []) ∨ ∃ x, a1 = some x ∧ len1 ≤ cap1 ∧ cap1 ≤ maxLen ∧ z1.length = cap1 ∧ (∀ i, i < z1.length → w.cell? (x.add i) = some (.int .u8 (z1.getD i 0))) ∧ ∀ n ∈ z1, (Lit.int .u8 n).wf = true) (y1 : len1 * 1 ≤ 140737488351232) (w2 : (a2 = none ∧ len2 = 0 ∧ cap2 = 0 ∧ z2 = []) ∨ ∃ x, a2 = some x ∧ len2 ≤ cap2 ∧ cap2 ≤ maxLen ∧ z2.length = cap2 ∧ (∀ i, i < z2.length → w.cell? (x.add i) = some (.int .u8 (z2.getD i 0))) ∧ ∀ n ∈ z2, (Lit.int .u8 n).wf = true) (y2 : len2 * 1 ≤ 140737488351232) :
    Calls Try.prog 7 #[.int .u64 a0, .slice a1 len1 cap1, .slice a2 len2 cap2] w fun e w' => e = .returned (.bool true) ∧ Below w.heap.size w w' := by
  obtain ⟨l1, rfl, hr1, hm1, hw1, hc1⟩ := ReadsInt.ofRowC w1
  obtain ⟨l2, rfl, hr2, hm2, hw2, hc2⟩ := ReadsInt.ofRowC w2
  obtain ⟨k, h⟩ := P a0 l1 l2 w0 hm1 y1 hw1 hm2 y2 hw2
  refine (dragnetlaw02_NumBack.calls k a0 _ _ l1 _ _ l2 true w (Kd.C_of_reads (d := (0 : Int)) (h1 := fun _ => rfl) hr1) hc1 (Kd.C_of_reads (d := (0 : Int)) (h1 := fun _ => rfl) hr2) hc2 h).mono ?_
  rintro e w' ⟨rfl, hd⟩
  exact ⟨rfl, hd⟩

end Go.Proofs.Ytblgakliffiiiaa.P
