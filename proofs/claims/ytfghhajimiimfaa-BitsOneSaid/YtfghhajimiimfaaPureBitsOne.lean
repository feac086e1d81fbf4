/- BitsOne: what bits.Unpack unpacks, bits.Pack packs to the same bytes, and it is as many numbers as were asked for. No condition. -/
import Derived.Test.YtfghhajimiimfaaBitsD
namespace Go.Proofs.Ytfghhajimiimfaa.Pure
open Go.RowKit Go.Proofs.Ytfghhajimiimfaa.P Go.Proofs.YtfghhajimiimfaaW.PrintWords Go.Proofs.YtfghhajimiimfaaW.PrintLast Go.Proofs.YtfghhajimiimfaaQ

theorem BitsOne : dragnetlaw03_BitsOne.Pure := by
  intro b n w hm hn hu hwn hww
  have hB : B8 b := fun x hx => wf_u8 (hu x hx)
  refine Ev.rounds (r := true) ?_
  unfold dragnetlaw03_BitsOne.f
  refine Ev.bind alive03 (Ev.if_t rfl (Ev.bind (unpack_ev b hB (by omega) n w) ?_))
  unfold unpackOf
  have hne : ∀ c : Int, c ≠ 0 → Ev (fun k => if (([] : List Int), c).2 = 0 then (bits_Pack.f k (([] : List Int), c).1 w).bind fun bt235 => (if bt235.2 = 0 then ((dragnetref01_Same.f bt235.1 b).bind fun t239 => (if t239 = true then (some (((([] : List Int), c).1.length : Int) == n)) else (some false))) else (some false)) else (some (((([] : List Int), c).1.length : Int) == 0))) true :=
    fun c hc => Ev.if_f hc (Ev.now _)
  by_cases h : w < 0 ∨ 64 < w ∨ n < 0 ∨ 4096 < n
  · rw [if_pos h]; exact hne 1 (by decide)
  rw [if_neg h]
  by_cases h1 : b.length < (n.toNat * w.toNat + 7) / 8
  · rw [if_pos h1]; exact hne 3 (by decide)
  rw [if_neg h1]
  by_cases h2 : (n.toNat * w.toNat + 7) / 8 < b.length
  · rw [if_pos h2]; exact hne 2 (by decide)
  rw [if_neg h2]
  by_cases h3 : 2 ^ (n.toNat * w.toNat) ≤ val b
  · rw [if_pos h3]; exact hne 2 (by decide)
  rw [if_neg h3]
  clear hne
  obtain ⟨n, rfl⟩ := Int.eq_ofNat_of_zero_le (show 0 ≤ n by omega)
  obtain ⟨w, rfl⟩ := Int.eq_ofNat_of_zero_le (show 0 ≤ w by omega)
  simp only [Int.toNat_natCast] at h1 h2 h3 ⊢
  have hw : w ≤ 64 := by omega
  refine Ev.if_t trivial (Ev.bind (pack_ok (u64_unOf _ _ _ hw) (by rw [length_unOf]; omega) hw (fit_unOf _ _ _)) (Ev.if_t rfl ?_))
  have e : packOf w (unOf (val b) w n) = b := by
    unfold packOf
    rw [length_unOf, pval_unOf, Nat.mul_comm w n, Nat.mod_eq_of_lt (by omega), show (n * w + 7) / 8 = b.length by omega, digits_val hB]
  rw [e]
  refine Ev.obind (same8 hB hB) (Ev.if_t (decide_eq_true rfl) ?_)
  rw [length_unOf, show ((n : Int) == (n : Int)) = true from beq_self_eq_true _]
  exact Ev.now _
end Go.Proofs.Ytfghhajimiimfaa.Pure
