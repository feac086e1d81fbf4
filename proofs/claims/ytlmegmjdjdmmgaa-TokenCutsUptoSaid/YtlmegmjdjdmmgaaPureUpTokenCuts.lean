/- TokenCuts: any line is cut as the document says, and stays. Condition: the arguments' bulk is at most 1048576 ('Upto'). -/
import Derived.Test.YtlmegmjdjdmmgaaTok
namespace Go.Proofs.Ytlmegmjdjdmmgaa.Pure
open Go.RowKit Go.Proofs.Ytlmegmjdjdmmgaa.P Go.Proofs.YtlmegmjdjdmmgaaW.PrintWords Go.Proofs.YtlmegmjdjdmmgaaW.PrintLast Go.Proofs.YtlmegmjdjdmmgaaQ

theorem TokenCutsUp : ∀ (l0 : List Int), l0.length ≤ maxLen → (∀ x ∈ l0, (Lit.int .u8 x).wf = true) → l0.length ≤ 1048576 → ∃ k, dragnetlaw07_TokenCuts.f k l0 = some true := by
  intro l _ hw hb
  have hB : B8 l := fun x hx => wf_u8 (hw x hx)
  have hc := cutOf_length l
  refine Ev.rounds (r := true) ?_
  unfold dragnetlaw07_TokenCuts.f
  refine Ev.bind alive07 (Ev.if_t rfl (Ev.obind (copy8 l (by omega)) (Ev.obind (cut_eq hB (by omega)) (Ev.bind (refCut_ev hB (by omega)) (Ev.bind (tsame_ev _ (by omega)) (Ev.if_t rfl (Ev.obind (same8 hB hB) ?_)))))))
  rw [decide_eq_true rfl]
  exact Ev.now _
end Go.Proofs.Ytlmegmjdjdmmgaa.Pure
