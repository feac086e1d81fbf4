-- The row of TokenJoined: an argument that is a slice of texts (by hand, after the printed rows of this seat).
import Derived.Test.YtlmegmjdjdmmgaaRows
import Derived.Test.YtlmegmjdjdmmgaaPx5
import Derived.Test.YtlmegmjdjdmmgaaPureTokenJoined
import Derived.WalkKit
import Derived.ProofKit
import Derived.OpenShut
import Derived.ShutString
import Derived.ChangeOld
import Derived.Below
import Derived.SizedLaws
import Derived.SliceStrings
import Derived.Test.YtlmegmjdjdmmgaaWSized
namespace Go.Proofs.Ytlmegmjdjdmmgaa.tokenJoined
open Go.ChangeShapes Go.WideShapes Go.ChangeAt Go.RowKit Go.Proofs.YtlmegmjdjdmmgaaW.PrintWords Go.Proofs.YtlmegmjdjdmmgaaW.PrintLast
open Go.ChangeMaps (open_string shut_string)
set_option linter.unusedVariables false
theorem own : ownKnob Try.prog.godebug = none := by kernel_rfl
theorem laidOut : laidOutB Try.prog = true := by kernel_rfl
def IsRow (w : World) (a : Option Addr) (len cap : Nat) (ss : List ByteArray) : Prop :=
  (a = none ∧ len = 0 ∧ cap = 0 ∧ ss = []) ∨
  ∃ x, a = some x ∧ len ≤ cap ∧ cap ≤ maxLen ∧ ss.length = cap ∧ ∀ i, i < ss.length → w.cell? (x.add i) = some (.string (ss.getD i ByteArray.empty))
theorem walk (HP_ : ∀ l : List ByteArray, ∃ k, P.dragnetlaw07_TokenJoined.f k l = some true) (a0 : Option Addr) (len0 cap0 : Nat) (ss : List ByteArray) (w : World) (w0 : IsRow w a0 len0 cap0 ss) :
    Calls Try.prog 5 #[.slice a0 len0 cap0] w fun e w' => e = .returned (.bool true) ∧ Below w.heap.size w w' := by
  obtain ⟨k, h⟩ := HP_ (ss.take len0)
  have hr : ReadsOf Value.string ByteArray.empty w a0 len0 (ss.take len0) ∧ len0 ≤ cap0 ∧ (ss.take len0).length = len0 := by
    rcases w0 with ⟨rfl, rfl, rfl, rfl⟩ | ⟨x, rfl, hl, hm, hz, hc⟩
    · exact ⟨⟨rfl, by decide, fun h => absurd h (by decide)⟩, Nat.le_refl _, rfl⟩
    · have hlen : (ss.take len0).length = len0 := by rw [List.length_take]; omega
      refine ⟨⟨hlen, by unfold maxLen at hm; omega, fun _ => ⟨x, rfl, fun j hj => ?_⟩⟩, hl, hlen⟩
      rw [hc j (by omega)]
      simp only [List.getD_eq_getElem?_getD, List.getElem?_take, if_pos hj]
  obtain ⟨hr, hc, hlen⟩ := hr
  obtain ⟨l0, hl0⟩ : ∃ l0, l0 = ss.take len0 := ⟨_, rfl⟩
  rw [← hl0] at h hr hlen
  subst hlen
  refine (P.dragnetlaw07_TokenJoined.calls k _ _ l0 true w (Kd.C_of_reads (d := ByteArray.empty) (h1 := fun _ => rfl) hr) hc h).mono ?_
  rintro e w' ⟨rfl, hd⟩
  exact ⟨rfl, hd⟩
set_option maxRecDepth 100000 in
theorem lifted (os : Os) (started : os.Started) (H : Type) (enc : TypeId × Value → H) :
    ReturnsInHanded {} Try.checked os 5 .any (Rows.tokenJoinedSpec.pre6 enc Try.prog Try.f5 Rows.tokenJoinedRow.domain false) (Rows.tokenJoinedSpec.post enc Try.prog Try.f5 false true false false) := by
  refine returnsInHanded_of_change_sized (C := Try.checked) own started (by kernel_rfl) Try.func5
    (ChangeSpec.witness6 (enc := enc) (C := Try.checked) false ⟨#[], #[.slice none 0 0], []⟩ 8 (by kernel_rfl) (by kernel_rfl) (by kernel_rfl) (by kernel_rfl)) ?_
  intro W base args ds gs before hval0 hW hcnd hsz0 _
  have hsz : (DataW.weightsEach Try.prog (Try.f5.params.toList ++ Rows.tokenJoinedSpec.plain.varTypes Try.prog) (ds ++ gs)).all (· ≤ reachBytes) = true := hsz0
  have hval : ∀ (j : Nat) t v, Try.f5.params[j]? = some t → args[j]? = some v → Value.okWide Try.prog W .any base t v := hval0
  have hW' := hW
  obtain ⟨p, q, hA0, hV, rfl, hfz, hnd⟩ := hW
  have hA : DataW.TrodAll enc Try.prog W 0 (fun _ => true) true Try.f5.params.toList args.toList ds p := hA0
  rw [Try.params5] at hA hval hsz
  obtain ⟨v0, vs0, d0, ds0, p0, q0, hargs, rfl, rfl, h0, r0⟩ := trodAll_cons hA
  obtain ⟨rfl, rfl, rfl⟩ := trodAll_nil r0
  obtain rfl : args = #[v0] := by cases args; simp_all
  obtain ⟨rfl, rfl⟩ := trodVars_none hV
  obtain ⟨a0, len0, cap0, rfl⟩ := okWide_slice Try.underlying32 (hval 0 32 v0 rfl rfl)
  have k0 := h0
  have lt0 : ∀ x ∈ p0, x.block < W.heap.size := by obtain ⟨m, hm⟩ := k0; exact DataW.trod_lt m _ _ _ hm
  obtain ⟨z0, w0⟩ : ∃ ss, IsRow W a0 len0 cap0 ss := by
    obtain ⟨fuel, hf⟩ := h0
    rcases open_strings Try.underlying32 Try.underlying9 (by kernel_rfl) hf with ⟨hcs, _⟩ | ⟨x, l, c, ss, hcs, _, hl, hm, hz, _, hcell, _⟩
    · simp [Value.cells] at hcs
      obtain ⟨rfl, rfl, rfl⟩ := hcs
      exact ⟨[], .inl ⟨rfl, rfl, rfl, rfl⟩⟩
    · simp [Value.cells] at hcs
      obtain ⟨rfl, rfl, rfl⟩ := hcs
      exact ⟨ss, .inr ⟨_, rfl, hl, hm, by simpa using hz, hcell⟩⟩
  clear hA0 hval0 hsz0 hsz
  refine (walk Pure.TokenJoined a0 len0 cap0 z0 W w0).mono fun e W' ⟨he, bel⟩ => ?_
  subst he
  exact ⟨_, rfl, _, _, _, [], _, [], hW', trodAll_mk1 (shut_bool Try.underlying4 _), (trodAll_cons_mk (Below.trod laidOut (by kernel_rfl) (of_decide_eq_true (by kernel_rfl)) k0 bel lt0) trodAll_mk0), rfl, bel.frame _, fun h => by cases h⟩
theorem over : Rows.tokenJoinedRow.holds Try.pinned (OpenSpec.ofChange Rows.tokenJoinedSpec) :=
  OpenClaim.holds_of_wide 5 Try.f5 rfl rfl rfl rfl rfl rfl rfl ⟨rfl, rfl, rfl, rfl, rfl⟩ rfl rfl rfl rfl rfl (by kernel_rfl) Try.func5 (by kernel_rfl)
    (of_decide_eq_true (by kernel_rfl)) (by unfold Func.isWrapper; first | (rw [if_pos (by decide +kernel)]; kernel_rfl) | (rw [if_neg (by decide +kernel)]; exact ⟨rfl, rfl⟩))
    (fun os started H enc _ => lifted os started H enc)
theorem proved : Rows.TokenJoinedSaid := over
#print axioms proved
end Go.Proofs.Ytlmegmjdjdmmgaa.tokenJoined
namespace Go.Proofs.Ytlmegmjdjdmmgaa
/-- The row, under a short name, for the claim. -/
theorem tokenJoined_holds : Rows.TokenJoinedSaid := tokenJoined.proved
end Go.Proofs.Ytlmegmjdjdmmgaa
