/- TokenCases: a line and the line made lower have the same tokens. Condition: the arguments' bulk is at most 1048576 ('Upto'). -/
import Derived.Test.YtlmegmjdjdmmgaaTok
namespace Go.Proofs.Ytlmegmjdjdmmgaa.Pure
open Go.RowKit Go.Proofs.Ytlmegmjdjdmmgaa.P Go.Proofs.YtlmegmjdjdmmgaaW.PrintWords Go.Proofs.YtlmegmjdjdmmgaaW.PrintLast Go.Proofs.YtlmegmjdjdmmgaaQ

theorem TokenCasesUp : ∀ (l0 : List Int), l0.length ≤ maxLen → (∀ x ∈ l0, (Lit.int .u8 x).wf = true) → l0.length ≤ 1048576 → ∃ k, dragnetlaw07_TokenCases.f k l0 = some true := by
  intro l _ hw hb
  have hB : B8 l := fun x hx => wf_u8 (hw x hx)
  have hc := cutOf_length l
  have hlow : token_Lower.f (strOfNums l) = some (strOfNums (l.map lowB)) := by
    unfold token_Lower.f; rw [if_pos (by rw [size_nums]; omega), bytesOf_nums hB]
  have hcut : token_Cut.f (bytesOf (strOfNums (l.map lowB))) = some (cutOf l) := by
    rw [bytesOf_nums (B8_low hB), cut_eq (B8_low hB) (by rw [List.length_map]; omega)]
    unfold cutOf
    rw [cutGo_low]
  refine Ev.rounds (r := true) ?_
  unfold dragnetlaw07_TokenCases.f
  refine Ev.bind alive07 (Ev.if_t rfl (Ev.obind (cut_eq hB (by omega)) (Ev.obind hlow (Ev.if_t (by rw [size_nums, List.length_map]; omega) (Ev.obind hcut ?_)))))
  exact Ev.bind (tsame_ev _ (by omega)) (Ev.now _)
end Go.Proofs.Ytlmegmjdjdmmgaa.Pure
