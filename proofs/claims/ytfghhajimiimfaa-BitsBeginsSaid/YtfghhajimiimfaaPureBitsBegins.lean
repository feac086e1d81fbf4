/- BitsBegins: what a list (of up to 4096 numbers) begins with, packed, is what the packed list begins with, where it ends with a byte. No condition. -/
import Derived.Test.YtfghhajimiimfaaBitsD
namespace Go.Proofs.Ytfghhajimiimfaa.Pure
open Go.RowKit Go.Proofs.Ytfghhajimiimfaa.P Go.Proofs.YtfghhajimiimfaaW.PrintWords Go.Proofs.YtfghhajimiimfaaW.PrintLast Go.Proofs.YtfghhajimiimfaaQ

theorem rem65 (a : Int) (h : 0 ≤ a ∧ a ≤ 255) : ∃ n : Nat, n ≤ 64 ∧ Int.tmod (wrap64 a) 65 = (n : Int) := by
  obtain ⟨m, rfl⟩ := Int.eq_ofNat_of_zero_le h.1
  refine ⟨m % 65, by omega, ?_⟩
  rw [w64 (by omega) (by omega), Int.tmod_eq_emod_of_nonneg (by omega)]; omega
theorem remlen (a : Int) (n : Nat) (h : 0 ≤ a ∧ a ≤ 65535) : ∃ i : Nat, i ≤ n ∧ Int.tmod (wrap64 a) ((n + 1 : Nat) : Int) = (i : Int) := by
  obtain ⟨m, rfl⟩ := Int.eq_ofNat_of_zero_le h.1
  have := Nat.mod_lt m (show n + 1 > 0 by omega)
  refine ⟨m % (n + 1), by omega, ?_⟩
  rw [w64 (by omega) (by omega), Int.tmod_eq_emod_of_nonneg (by omega)]; rfl
theorem BitsBegins : dragnetlaw03_BitsBegins.Pure := by
  intro l a1 a2 hm hn hu h1 h2
  have hU : U64 l := fun x hx => wf_u64 (hu x hx)
  obtain ⟨w, hw, ew⟩ := rem65 a2 (wf_u8 h2)
  obtain ⟨i, hi, ei⟩ := remlen a1 l.length (wf_u16 h1)
  refine Ev.rounds (r := true) ?_
  unfold dragnetlaw03_BitsBegins.f
  refine Ev.bind alive03 (Ev.if_t rfl ?_)
  by_cases h : (l.length : Int) > 4096
  · exact Ev.if_t h (Ev.now _)
  · refine Ev.if_f h ?_
    rw [ew, inc l.length (by clear ew ei; omega), ei]
    clear ew ei
    have hiw : w * i ≤ 64 * 4096 := Nat.mul_le_mul hw (by omega)
    refine Ev.if_f (by omega) ?_
    have hU' : U64 (l.take i) := hU.take i
    have hl' : (l.take i).length = i := by rw [List.length_take]; omega
    refine Ev.bind (pack_ev hU hn hw) (Ev.if_t (by omega) (Ev.if_t (by omega) ?_))
    rw [Int.toNat_natCast]
    refine Ev.bind (pack_ev hU' (by omega) hw) ?_
    by_cases hf : Fit w l
    · rw [if_pos hf, if_pos (hf.take i)]
      refine Ev.if_t rfl ?_
      rw [show wrap64 ((w : Int) * (i : Int)) = ((w * i : Nat) : Int) by rw [← Int.natCast_mul, w64 (by omega) (by omega)], mod8]
      by_cases h8 : w * i % 8 = 0
      · have hpl : (packOf w (l.take i)).length = w * i / 8 := by rw [length_packOf, hl']; omega
        have hwl : w * i ≤ w * l.length := Nat.mul_le_mul_left _ hi
        have hal : (packOf w l).length = (w * l.length + 7) / 8 := length_packOf w l
        have e : (packOf w l).take (w * i / 8) = packOf w (l.take i) := by
          unfold packOf
          rw [take_digits _ _ _ (by omega), hl', show (w * i + 7) / 8 = w * i / 8 by omega, pval_take_mod w l i hf hi]
          have h256 : 2 ^ (w * i) = 256 ^ (w * i / 8) := by rw [p256, show 8 * (w * i / 8) = w * i by omega]
          rw [h256, digits_mod _ _ _ (Nat.le_refl _)]
        refine Ev.if_t (by rw [h8]; rfl) (Ev.if_t rfl (Ev.if_t (by rw [hpl, hal]; omega) (Ev.if_t (by omega) ?_)))
        rw [hpl, Int.toNat_natCast, e]
        refine Ev.obind (same8 (in_packOf _ _) (in_packOf _ _)) ?_
        rw [decide_eq_true rfl]; exact Ev.now _
      · exact Ev.if_f (by omega) (Ev.now _)
    · rw [if_neg hf]
      exact Ev.if_f (by show ¬ (7 : Int) = 0; decide) (Ev.now _)
end Go.Proofs.Ytfghhajimiimfaa.Pure
