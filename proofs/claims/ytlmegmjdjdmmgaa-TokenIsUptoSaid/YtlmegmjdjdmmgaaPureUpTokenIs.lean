/- TokenIs: whether a text is a term is the document's; a term is the one token of itself. Condition: the arguments' bulk is at most 1048576 ('Upto'). -/
import Derived.Test.YtlmegmjdjdmmgaaTok
namespace Go.Proofs.Ytlmegmjdjdmmgaa.Pure
open Go.RowKit Go.Proofs.Ytlmegmjdjdmmgaa.P Go.Proofs.YtlmegmjdjdmmgaaW.PrintWords Go.Proofs.YtlmegmjdjdmmgaaW.PrintLast Go.Proofs.YtlmegmjdjdmmgaaQ

theorem TokenIsUp : ∀ (a0 : ByteArray), a0.size ≤ 1048576 → ∃ k, dragnetlaw07_TokenIs.f k a0 = some true := by
  intro s hs
  have hn := bytesOf_length s
  refine Ev.rounds (r := true) ?_
  unfold dragnetlaw07_TokenIs.f
  refine Ev.bind alive07 (Ev.if_t rfl (Ev.if_t (by omega) (Ev.obind (cut_eq (B8_bytes s) (by omega)) (Ev.bind (is_ev s) (Ev.bind (refIs_ev s) (Ev.if_t (by simp) ?_))))))
  have hlow : token_Lower.f s = some (strOfNums ((bytesOf s).map lowB)) := by unfold token_Lower.f; rw [if_pos (by omega)]
  refine Ev.obind hlow (Ev.obind (refLower_eq s (by omega)) (Ev.if_t rfl ?_))
  by_cases ht : IsTok (bytesOf s)
  · rw [decide_eq_true ht, cutOf_tok ht, nums_bytes]
    refine Ev.if_t rfl (Ev.if_t (by simp) (Ev.if_t (by simp) ?_))
    have e : rd_T31 [⟨0, s⟩] 0 = ⟨0, s⟩ := rfl
    rw [e]
    simp only [beq_self_eq_true, Bool.and_self]
    exact Ev.now _
  · rw [decide_eq_false ht]
    exact Ev.if_f (by decide) (Ev.now _)
end Go.Proofs.Ytlmegmjdjdmmgaa.Pure
