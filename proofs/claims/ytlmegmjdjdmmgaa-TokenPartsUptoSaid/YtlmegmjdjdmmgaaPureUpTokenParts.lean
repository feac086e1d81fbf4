/- TokenParts: the tokens of two lines with a blank between are those of the first, then those of the second, moved. Condition: the arguments' bulk is at most 1048576 ('Upto'). -/
import Derived.Test.YtlmegmjdjdmmgaaTok
namespace Go.Proofs.Ytlmegmjdjdmmgaa.Pure
open Go.RowKit Go.Proofs.Ytlmegmjdjdmmgaa.P Go.Proofs.YtlmegmjdjdmmgaaW.PrintWords Go.Proofs.YtlmegmjdjdmmgaaW.PrintLast Go.Proofs.YtlmegmjdjdmmgaaQ

theorem parts_loop (x y : List S31) (hc : Counted y) (hl : x.length + y.length ≤ 9223372036854775800) : ∀ (d i : Nat), i + d = y.length → Ev (fun k => dragnetlaw07_TokenParts.l0 k x y (x ++ y.map (shift x.length)) (i : Int)) true
  | 0, i, hi => by
    apply Ev.succ
    simp only [dragnetlaw07_TokenParts.l0]
    exact Ev.if_f (by omega) (Ev.now _)
  | d + 1, i, hi => by
    have hlt : i < y.length := by omega
    have h1 : rd_T31 (x ++ y.map (shift x.length)) ((x.length + i : Nat) : Int) = shift x.length y[i] := by
      rw [rdT_nat _ _ (by simp; omega), List.getElem_append_right (by omega)]
      simp
    have h2 := rdT_nat y i hlt
    have h3 := hc i hlt
    apply Ev.succ
    simp only [dragnetlaw07_TokenParts.l0]
    rw [add64 _ _ (by omega), h1, h2]
    refine Ev.if_t (by omega) (Ev.if_t (by omega) (Ev.if_t (by simp; omega) (Ev.if_t (by omega) (Ev.if_t rfl (Ev.if_t ?_ ?_)))))
    · unfold shift
      dsimp only
      rw [h3, add64 _ _ (by omega)]
      omega
    · rw [inc _ (by omega)]
      exact parts_loop x y hc hl d (i + 1) (by omega)
theorem TokenPartsUp : ∀ (l0 : List Int) (l1 : List Int), l0.length ≤ maxLen → (∀ x ∈ l0, (Lit.int .u8 x).wf = true) → l1.length ≤ maxLen → (∀ x ∈ l1, (Lit.int .u8 x).wf = true) → l0.length + l1.length ≤ 1048576 → ∃ k, dragnetlaw07_TokenParts.f k l0 l1 = some true := by
  intro a b _ hwa _ hwb hb
  have hA : B8 a := fun x hx => wf_u8 (hwa x hx)
  have hB : B8 b := fun x hx => wf_u8 (hwb x hx)
  have la := cutOf_length a
  have lb := cutOf_length b
  have hz : a ++ [32] ++ b = a ++ 32 :: b := by simp
  have hZ : B8 (a ++ 32 :: b) := hA.append (In.mk_cons (by omega) hB)
  refine Ev.rounds (r := true) ?_
  unfold dragnetlaw07_TokenParts.f
  refine Ev.bind alive07 (Ev.if_t rfl (Ev.obind (cut_eq hA (by omega)) (Ev.obind (cut_eq hB (by omega)) (Ev.obind (copy8 a (by omega)) (Ev.if_t (by omega) (Ev.obind rfl (Ev.if_t (by simp; omega) ?_)))))))
  rw [hz]
  refine Ev.obind (cut_eq hZ (by simp; omega)) ?_
  rw [cutOf_blank, add64 _ _ (by omega)]
  refine Ev.if_t (by simp) (Ev.if_t (by omega) (Ev.if_t (by simp; omega) ?_))
  rw [Int.toNat_natCast, List.take_left' rfl]
  refine Ev.bind (tsame_ev _ (by omega)) ?_
  apply Ev.succ
  simp only [dragnetlaw07_TokenParts.j0]
  exact Ev.if_f (by decide) (parts_loop _ _ (cutOf_counted b) (by omega) (cutOf b).length 0 (by omega))
end Go.Proofs.Ytlmegmjdjdmmgaa.Pure
