/- PostSkips: of postings that were put the first post that isn't below is told, unpacking one block; of up to 300 posts and places. Condition: the arguments' bulk is at most 1048576 ('Upto'). -/
import Derived.Test.YtooeclfeallkkaaZUpPostSkips16
import Derived.Test.YtooeclfeallkkaaZUpPostSkips19
import Derived.Test.YtooeclfeallkkaaZUpPostSkips20
import Derived.Test.YtooeclfeallkkaaZUpPostSkips21
import Derived.ChangeOld
import Derived.Deep.CondSized
import Derived.JoinedCond
import Derived.OpenShut
import Derived.ProofKit
import Derived.ShutString
section
namespace Go.Proofs.Ytooeclfeallkkaa.postSkipsUp
open Go.ChangeShapes Go.WideShapes Go.ChangeAt Go.RowKit Go.Proofs.YtooeclfeallkkaaW.PrintWords Go.Proofs.YtooeclfeallkkaaW.PrintLast Go.Proofs.YtooeclfeallkkaaO
open Go.ChangeMaps (open_string shut_string)
set_option linter.unusedVariables false
theorem own : ownKnob Try.prog.godebug = none := by kernel_rfl
theorem laidOut : laidOutB Try.prog = true := by kernel_rfl
theorem sized {H : Type} {enc : TypeId × Value → H} {P : Program} {W : World} {base : Nat} {spare : Nat → Bool} {held : Bool} {t e : TypeId} {a : Option Addr} {len cap : Nat} {d : DataW H} {ps : List MemPlace} {ts : List TypeId} {ds : List (DataW H)} {j : Nat}
  (hsz : (DataW.weightsEach P ts ds).all (· ≤ reachBytes) = true) (ht : ts[j]? = some t) (hd : ds[j]? = some d) (hu : P.underlying t = some (.slice e)) {B : Nat} (hB : P.bytesOf e = B)
  (h : DataW.Trod enc P W base spare held t (.slice a len cap) d ps) : len * B ≤ 140737488351232 := by
 obtain ⟨fuel, hf⟩ := h
 rcases Go.Deep.open_slice hu hf with ⟨hcs, _⟩ | ⟨x, l, c, m, n, D, Pl, hcs, _, hl, _, hmm, hx, _⟩
 ·simp [Value.cells] at hcs
  obtain ⟨rfl, rfl, rfl⟩ := hcs
  simp
 ·simp [Value.cells] at hcs
  obtain ⟨rfl, rfl, rfl⟩ := hcs
  obtain ⟨hx, _⟩ := Prod.mk.inj hx
  subst hx
  have z := sized_slice hsz ht hd hu
  rw [hB] at z
  refine Nat.le_trans (Nat.mul_le_mul_right _ ?_) z
  simp
theorem bulk {H : Type} {enc : TypeId × Value → H} {P : Program} {W : World} {base : Nat} {spare : Nat → Bool} {held : Bool} {t e : TypeId} {a : Option Addr} {len cap : Nat} {d : DataW H} {ps : List MemPlace}
  (hu : P.underlying t = some (.slice e)) (h : DataW.Trod enc P W base spare held t (.slice a len cap) d ps) : len ≤ Rows.uptoBulk d := by
 obtain ⟨fuel, hf⟩ := h
 rcases Go.Deep.open_slice hu hf with ⟨hcs, _⟩ | ⟨x, l, c, m, n, D, Pl, hcs, _, hl, _, hmm, hx, _⟩
 ·simp [Value.cells] at hcs
  obtain ⟨rfl, rfl, rfl⟩ := hcs
  exact Nat.zero_le _
 ·simp [Value.cells] at hcs
  obtain ⟨rfl, rfl, rfl⟩ := hcs
  obtain ⟨hx, _⟩ := Prod.mk.inj hx
  subst hx
  refine Nat.le_trans ?_ (Bulk.slice_le _ _)
  simp
  omega
theorem walk (b0 : Option Addr) (l0 : (List P.S37)) (cap0 : Nat) (a1 : Int) (b2 : Option Addr) (l2 : (List Int)) (cap2 : Nat) (w : World) (hc0 : l0.length ≤ cap0) (hC0 : Kd.C P.k37 w b0 l0.length l0) (hc2 : l2.length ≤ cap2) (hC2 : Kd.C (Kd.int .u8) w b2 l2.length l2) (y0 : l0.length * 32 ≤ 140737488351232) (y1 : (∀ y ∈ l0, ((Lit.int .i64 y.f0).wf = true ∧ (y.f1.length * 8 ≤ 140737488351232 ∧ ((y.f1.length ≤ maxLen ∧ ∀ y0 ∈ y.f1, (Lit.int .i64 y0).wf = true)))))) (y2 : (Lit.int .i64 a1).wf = true) (y3 : l2.length * 1 ≤ 140737488351232) (y4 : (∀ y ∈ l2, (Lit.int .u8 y).wf = true)) (y5 : l0.length + 0 + l2.length ≤ 1048576) :
  Calls Try.prog 5 #[.slice b0 l0.length cap0, .int .i64 a1, .slice b2 l2.length cap2] w fun e w' => e = .returned (.bool true) ∧ Below w.heap.size w w' := by
 obtain ⟨k, h⟩ := Pure.PostSkipsUp l0 a1 l2 y0 y1 y2 y3 y4 y5
 exact (P.dragnetlaw13_PostSkips.calls k _ _ l0 a1 _ _ l2 true w hC0 hc0 hC2 hc2 h ⟨rfl⟩).mono fun e w' ⟨he, hd⟩ => ⟨he, by first | exact hd | exact hd.below⟩
set_option maxHeartbeats 2000000 in
set_option maxRecDepth 100000 in
theorem lifted (os : Os) (started : os.Started) (H : Type) (enc : TypeId × Value → H) (F : Stop.Interp) :
    ReturnsInHanded {} Try.checked os 5 .any ((Rows.OpenSpec.upto Rows.postSkipsSpec).pre6 enc Try.prog Try.f5 Rows.postSkipsUptoRow.domain false) (((Rows.OpenSpec.upto Rows.postSkipsSpec).at F).post enc Try.prog Try.f5 false true false false) := by
  refine returnsInHanded_of_cond_sized (C := Try.checked) (s := Rows.OpenSpec.upto Rows.postSkipsSpec) (k := Rows.uptoSmall) rfl own started (by kernel_rfl) Try.func5
    (OpenSpec.witness (enc := enc) (C := Try.checked) (s := Rows.OpenSpec.upto Rows.postSkipsSpec) (k := Rows.uptoSmall) rfl false ⟨#[], #[.slice none 0 0, .int .i64 0, .slice none 0 0], []⟩ 8 (by kernel_rfl) (by kernel_rfl) (by kernel_rfl)
      (x := ([.nil, .lit (.int .i64 0), .nil], [], [])) (by kernel_rfl) rfl (by kernel_rfl)) ?_
  intro W base args ds gs before hval0 hW hcnd hk0 hsz0 _
  have hsz : (DataW.weightsEach Try.prog (Try.f5.params.toList ++ Rows.postSkipsSpec.plain.varTypes Try.prog) (ds ++ gs)).all (· ≤ reachBytes) = true := hsz0
  have hval : ∀ (j : Nat) t v, Try.f5.params[j]? = some t → args[j]? = some v → Value.okWide Try.prog W .any base t v := hval0
  have hW' : DataW.Whole enc Try.prog Try.f5.params.toList Rows.postSkipsSpec.vars false W args.toList ds gs before := hW
  obtain ⟨p, q, hA0, hV, rfl, hfz, hnd⟩ := hW
  have hA : DataW.TrodAll enc Try.prog W 0 (fun _ => true) true Try.f5.params.toList args.toList ds p := hA0
  rw [Try.params5] at hA hval hsz
  obtain ⟨v0, vs0, d0, ds0, p0, q0, hargs, rfl, rfl, h0, r0⟩ := trodAll_cons hA
  obtain ⟨v1, vs1, d1, ds1, p1, q1, rfl, rfl, rfl, h1, r1⟩ := trodAll_cons r0
  obtain ⟨v2, vs2, d2, ds2, p2, q2, rfl, rfl, rfl, h2, r2⟩ := trodAll_cons r1
  obtain ⟨rfl, rfl, rfl⟩ := trodAll_nil r2
  obtain rfl : args = #[v0, v1, v2] := by cases args; simp_all
  obtain ⟨rfl, rfl⟩ := trodVars_none hV
  obtain ⟨b0, len0, cap0, rfl⟩ := okWide_slice Try.underlying23 (hval 0 23 v0 rfl rfl)
  have k0 := h0
  have lt0 : ∀ x ∈ p0, x.block < W.heap.size := by obtain ⟨m, hm⟩ := k0; exact DataW.trod_lt m _ _ _ hm
  obtain ⟨l0, hlen0, hc0, hC0, hp0⟩ : ∃ l : (List P.S37), l.length = len0 ∧ l.length ≤ cap0 ∧ Kd.C P.k37 W b0 l.length l ∧ ∀ y ∈ l, ((Lit.int .i64 y.f0).wf = true ∧ (y.f1.length * 8 ≤ 140737488351232 ∧ ((y.f1.length ≤ maxLen ∧ ∀ y0 ∈ y.f1, (Lit.int .i64 y0).wf = true)))) := by
    obtain ⟨fuel, hf⟩ := h0
    obtain ⟨l, ⟨A, c, hcs, hl, hC⟩, _, hp⟩ : ∃ l : (List P.S37), (Kd.slice 37 P.k37).K W l (Value.slice b0 len0 cap0).cells.toList ∧ (l.length * 32 ≤ 140737488351232 ∧ (l.length ≤ maxLen ∧ ∀ y ∈ l, ((Lit.int .i64 y.f0).wf = true ∧ (y.f1.length * 8 ≤ 140737488351232 ∧ ((y.f1.length ≤ maxLen ∧ ∀ y0 ∈ y.f1, (Lit.int .i64 y0).wf = true)))))) := (opensZ_slice (d := P.k37) (B := 32) (by kernel_rfl) Try.underlying23 (by kernel_rfl) (opensZ_iso (opensZ_pair (d := (Kd.int .i64)) (d' := (Kd.slice 3 (Kd.int .i64))) Try.underlying37 (by kernel_rfl) (by kernel_rfl) (by kernel_rfl) (by kernel_rfl) (by kernel_rfl) (Opens.z (opens_int Try.underlying3)) (opensZ_slice (d := (Kd.int .i64)) (B := 8) (by kernel_rfl) Try.underlying35 (by kernel_rfl) (Opens.z (opens_int Try.underlying3)) ⟨0⟩)) (fun x : P.S37 => (x.f0, x.f1)) (fun x => ⟨x.1, x.2⟩) (fun _ => rfl)) ⟨⟨0, []⟩⟩) hf (weighs hsz (j := 0) rfl rfl)
    simp [Value.cells] at hcs
    obtain ⟨rfl, rfl, rfl⟩ := hcs
    exact ⟨l, rfl, hl, hC, hp.2⟩
  have y0 : len0 * 32 ≤ 140737488351232 := sized hsz (j := 0) (t := 23) rfl rfl Try.underlying23 (by kernel_rfl) h0
  have x0 := bulk Try.underlying23 k0
  obtain ⟨a1, rfl, rfl, rfl, y1⟩ := open_int Try.underlying3 (hval 1 3 v1 rfl rfl) h1
  obtain ⟨b2, len2, cap2, rfl⟩ := okWide_slice Try.underlying22 (hval 2 22 v2 rfl rfl)
  have k2 := h2
  have lt2 : ∀ x ∈ p2, x.block < W.heap.size := by obtain ⟨m, hm⟩ := k2; exact DataW.trod_lt m _ _ _ hm
  obtain ⟨l2, hlen2, hc2, hC2, hp2⟩ : ∃ l : (List Int), l.length = len2 ∧ l.length ≤ cap2 ∧ Kd.C (Kd.int .u8) W b2 l.length l ∧ ∀ y ∈ l, (Lit.int .u8 y).wf = true := by
    obtain ⟨fuel, hf⟩ := h2
    obtain ⟨l, ⟨A, c, hcs, hl, hC⟩, _, hp⟩ : ∃ l : (List Int), (Kd.slice 5 (Kd.int .u8)).K W l (Value.slice b2 len2 cap2).cells.toList ∧ (l.length * 1 ≤ 140737488351232 ∧ (l.length ≤ maxLen ∧ ∀ y ∈ l, (Lit.int .u8 y).wf = true)) := (opensZ_slice (d := (Kd.int .u8)) (B := 1) (by kernel_rfl) Try.underlying22 (by kernel_rfl) (Opens.z (opens_int Try.underlying5)) ⟨0⟩) hf (weighs hsz (j := 2) rfl rfl)
    simp [Value.cells] at hcs
    obtain ⟨rfl, rfl, rfl⟩ := hcs
    exact ⟨l, rfl, hl, hC, hp.2⟩
  have y2 : len2 * 1 ≤ 140737488351232 := sized hsz (j := 2) (t := 22) rfl rfl Try.underlying22 (by kernel_rfl) h2
  have x2 := bulk Try.underlying22 k2
  have hk1 := of_decide_eq_true hk0
  simp only [List.cons_append, List.nil_append, Rows.uptoBulkAll] at hk1
  clear hk0
  clear hA0 hval0 hsz0 hsz
  subst hlen0
  subst hlen2
  refine (walk b0 l0 cap0 a1 b2 l2 cap2 W hc0 hC0 hc2 hC2 y0 hp0 y1 y2 hp2 (by omega)).mono fun e W' ⟨he, bel⟩ => ?_
  subst he
  exact ⟨_, rfl, _, _, _, [], _, [], hW', trodAll_mk1 (shut_bool Try.underlying4 _), (trodAll_cons_mk (Below.trod laidOut (by kernel_rfl) (of_decide_eq_true (by kernel_rfl)) k0 bel lt0) (trodAll_cons_mk (shut_int Try.underlying3 y1) (trodAll_cons_mk (Below.trod laidOut (by kernel_rfl) (of_decide_eq_true (by kernel_rfl)) k2 bel lt2) trodAll_mk0))), rfl, bel.frame _, fun h => by cases h⟩
theorem over : Rows.postSkipsUptoRow.holds Try.pinned (Rows.OpenSpec.upto Rows.postSkipsSpec) :=
 OpenClaim.holds_of_cond 5 Try.f5 rfl rfl rfl rfl rfl rfl rfl ⟨rfl, rfl, rfl, rfl, rfl⟩ rfl rfl rfl rfl rfl (by kernel_rfl) Try.func5 (by kernel_rfl)
  (of_decide_eq_true (by kernel_rfl)) (by unfold Func.isWrapper; first | (rw [if_pos (by decide +kernel)]; kernel_rfl) | (rw [if_neg (by decide +kernel)]; exact ⟨rfl, rfl⟩))
  (fun os started H enc _ F => lifted os started H enc F)
theorem proved : Rows.PostSkipsUptoSaid := over
#print axioms proved
end Go.Proofs.Ytooeclfeallkkaa.postSkipsUp
namespace Go.Proofs.Ytooeclfeallkkaa
theorem postSkipsUp_holds : Rows.PostSkipsUptoSaid := postSkipsUp.proved
end Go.Proofs.Ytooeclfeallkkaa
end
