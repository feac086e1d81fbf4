/- TokenTerms: the terms of any line of up to 2000 bytes are the document's, rising, and terms. No condition. -/
import Derived.Test.YtlmegmjdjdmmgaaTokTerms
namespace Go.Proofs.Ytlmegmjdjdmmgaa.Pure
open Go.RowKit Go.Proofs.Ytlmegmjdjdmmgaa.P Go.Proofs.YtlmegmjdjdmmgaaW.PrintWords Go.Proofs.YtlmegmjdjdmmgaaW.PrintLast Go.Proofs.YtlmegmjdjdmmgaaQ

theorem termsOf_length : ∀ t : List S31, (termsOf t).length ≤ t.length
  | [] => Nat.le_refl _
  | x :: r => by
    have := termsOf_length r
    simp only [termsOf, List.length_cons]
    split <;> simp <;> omega
theorem compactS_length (l : List ByteArray) : (compactS (sortS l)).length ≤ l.length := by
  have h1 : (sortS l).length = l.length := by unfold sortS; rw [List.length_map, List.length_mergeSort, List.length_map]
  unfold compactS
  rw [List.length_map]
  have := Lib.compact_length_le ((sortS l).map bytesList)
  rw [List.length_map, h1] at this
  exact this
theorem terms_check (l : List Int) (c : List ByteArray) (hc : c.length ≤ 1000000) (hr : Rising (c.map bytesList)) (ht : ∀ s ∈ c, IsTok (bytesOf s))
    (hend : Ev (fun k => (dragnetref07_Terms.f k l).bind fun t279 => ((dragnetref06_Same.f k c t279).bind fun t282 => (some t282))) true) : ∀ (d i : Nat), i + d = c.length → Ev (fun k => dragnetlaw07_TokenTerms.l0 k l c (i : Int)) true
  | 0, i, hi => by
    apply Ev.succ
    simp only [dragnetlaw07_TokenTerms.l0]
    exact Ev.if_f (by omega) hend
  | d + 1, i, hi => by
    have hlt : i < c.length := by omega
    have hk := ht _ (List.getElem_mem hlt)
    have ih := terms_check l c hc hr ht hend d (i + 1) (by omega)
    have h1 := is_ev c[i]
    rw [decide_eq_true hk] at h1
    apply Ev.succ
    simp only [dragnetlaw07_TokenTerms.l0]
    rw [rdB_nat c i hlt, inc _ (by omega)]
    refine Ev.if_t (by omega) (Ev.if_t (by omega) (Ev.bind h1 (Ev.if_t rfl ?_)))
    by_cases h0 : 0 < i
    · obtain ⟨j, rfl⟩ : ∃ j, i = j + 1 := ⟨i - 1, by omega⟩
      have hs : wrap64 (((j + 1 : Nat) : Int) - 1) = (j : Int) := by rw [w64 (by omega) (by omega)]; omega
      rw [hs, rdB_nat c j (by omega), less_eq]
      have hlt2 : bytesList c[j] < bytesList c[j + 1] := by
        have := List.pairwise_iff_getElem.1 hr j (j + 1) (by rw [List.length_map]; omega) (by rw [List.length_map]; omega) (by omega)
        simpa using this
      exact Ev.if_t (by omega) (Ev.if_t (by omega) (Ev.if_t (by omega) (Ev.if_t (decide_eq_true hlt2) ih)))
    · exact Ev.if_f (by omega) ih
theorem TokenTerms : dragnetlaw07_TokenTerms.Pure := by
  intro l _ _ hw
  have hB : B8 l := fun x hx => wf_u8 (hw x hx)
  refine Ev.rounds (r := true) ?_
  unfold dragnetlaw07_TokenTerms.f
  refine Ev.bind alive07 (Ev.if_t rfl ?_)
  by_cases hl : l.length ≤ 2000
  · refine Ev.if_f (by omega) ?_
    have hcl := cutOf_length l
    have htl := termsOf_length (cutOf l)
    have hC := compactS_length (termsOf (cutOf l))
    have h1 : Ev (fun k => token_Terms.f k l) (compactS (sortS (termsOf (cutOf l)))) := by
      unfold token_Terms.f
      refine Ev.obind (cut_eq hB (by omega)) ?_
      have := toks_loop (cutOf l) (by omega) (cutOf l).length 0 (by omega) [] (by simp)
      rw [List.nil_append, List.drop_zero] at this
      exact this
    have h2 : Ev (fun k => dragnetref07_Terms.f k l) (refTerms [] (termsOf (cutOf l))) := by
      unfold dragnetref07_Terms.f
      refine Ev.bind (refCut_ev hB (by omega)) ?_
      have := refTerms_loop (cutOf l) (by omega) (cutOf l).length 0 (by omega) [] (by simp)
      rw [List.drop_zero] at this
      exact this
    refine Ev.bind h1 ?_
    have hp := progTerms (termsOf (cutOf l))
    have hgood : ∀ t ∈ cutOf l, Go.Proofs.YtlmegmjdjdmmgaaQ.Good t := cutGo_good l none [] hB (fun run e => by cases e) (fun t ht => by simp at ht)
    refine terms_check l _ (by omega) hp.1 (fun s hs => ?_) ?_ (compactS (sortS (termsOf (cutOf l)))).length 0 (by omega)
    · have hm := (hp.2 (bytesList s)).1 (List.mem_map_of_mem hs)
      obtain ⟨s', hs', e⟩ := List.mem_map.1 hm
      have : s' = s := by rw [← lb s', e, lb]
      rw [← this]
      exact termsOf_tok _ hgood s' hs'
    · refine Ev.bind h2 ?_
      rw [← terms_same]
      exact Ev.bind (bsame_ev _ (by omega)) (Ev.now _)
  · exact Ev.if_t (by omega) (Ev.now _)
end Go.Proofs.Ytlmegmjdjdmmgaa.Pure
