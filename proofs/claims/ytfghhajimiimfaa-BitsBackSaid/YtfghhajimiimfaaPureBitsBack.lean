/- BitsBack: what bits.Pack packs of up to 4096 numbers bits.Unpack unpacks as it was; it is refused only where a number is too great. No condition. -/
import Derived.Test.YtfghhajimiimfaaBitsD
namespace Go.Proofs.Ytfghhajimiimfaa.Pure
open Go.RowKit Go.Proofs.Ytfghhajimiimfaa.P Go.Proofs.YtfghhajimiimfaaW.PrintWords Go.Proofs.YtfghhajimiimfaaW.PrintLast Go.Proofs.YtfghhajimiimfaaQ

theorem rem65 (a : Int) (h : 0 ≤ a ∧ a ≤ 255) : ∃ n : Nat, n ≤ 64 ∧ Int.tmod (wrap64 a) 65 = (n : Int) := by
  obtain ⟨m, rfl⟩ := Int.eq_ofNat_of_zero_le h.1
  refine ⟨m % 65, by omega, ?_⟩
  rw [w64 (by omega) (by omega), Int.tmod_eq_emod_of_nonneg (by omega)]; omega
theorem BitsBack : dragnetlaw03_BitsBack.Pure := by
  intro l a hm hn hu ha
  have hU : U64 l := fun x hx => wf_u64 (hu x hx)
  obtain ⟨w, hw, ew⟩ := rem65 a (wf_u8 ha)
  refine Ev.rounds (r := true) ?_
  unfold dragnetlaw03_BitsBack.f
  refine Ev.bind alive03 (Ev.if_t rfl ?_)
  by_cases h : (l.length : Int) > 4096
  · exact Ev.if_t h (Ev.now _)
  · refine Ev.if_f h ?_
    rw [ew]
    clear ew
    have hl : l.length ≤ 4096 := by omega
    by_cases hf : Fit w l
    · refine Ev.bind (pack_ok hU hn hw hf) (Ev.if_t rfl ?_)
      have hlw : l.length * w ≤ 4096 * 64 := Nat.mul_le_mul hl hw
      have hpl : (packOf w l).length = (l.length * w + 7) / 8 := by rw [length_packOf, Nat.mul_comm]
      have hv : val (packOf w l) = pval w l := by
        have := pval_lt w hf
        rw [packOf, val_digits, p256]
        exact Nat.mod_eq_of_lt (Nat.lt_of_lt_of_le this (Nat.pow_le_pow_right (by decide) (by omega)))
      have hun : unpackOf (packOf w l) (l.length : Int) (w : Int) = (l, 0) := by
        have := pval_lt w hf
        rw [Nat.mul_comm] at this
        unfold unpackOf
        simp only [Int.toNat_natCast]
        rw [if_neg (by omega), if_neg (by omega), if_neg (by omega), if_neg (by rw [hv]; omega), hv, unOf_pval w hf (fun x hx => (hU x hx).1)]
      have := unpack_ev (packOf w l) (in_packOf w l) (by rw [hpl]; omega) (l.length : Int) (w : Int)
      rw [hun] at this
      refine Ev.bind this (Ev.if_t rfl (Ev.bind (same64 l l (by omega)) (Ev.if_t (decide_eq_true rfl) ?_)))
      rw [wrap_size l.length w hw hl, hpl, show (((l.length * w + 7) / 8 : Nat) : Int) == (((l.length * w + 7) / 8 : Nat) : Int) from beq_self_eq_true _]
      exact Ev.now _
    · refine Ev.bind (pack_range hU hn hw hf) (Ev.if_f (by show ¬ (7 : Int) = 0; decide) (Ev.bind (width_ev hU (by omega)) ?_))
      have := mt (widthOf_le hU hw).1 hf
      exact Ev.if_t (by omega) (Ev.now _)
end Go.Proofs.Ytfghhajimiimfaa.Pure
