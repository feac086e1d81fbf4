/- BitsUnpacks: for all bytes, every count and every width bits.Unpack answers as the document's Unpack, and leaves the bytes as they were. No condition. -/
import Derived.Test.YtfghhajimiimfaaBitsD
namespace Go.Proofs.Ytfghhajimiimfaa.Pure
open Go.RowKit Go.Proofs.Ytfghhajimiimfaa.P Go.Proofs.YtfghhajimiimfaaW.PrintWords Go.Proofs.YtfghhajimiimfaaW.PrintLast Go.Proofs.YtfghhajimiimfaaQ

theorem in_unpackOf (b : List Int) (n w : Int) : U64 (unpackOf b n w).1 := by
  unfold unpackOf
  split
  · exact In.nil _
  · split
    · exact In.nil _
    · split
      · exact In.nil _
      · split
        · exact In.nil _
        · exact u64_unOf _ _ _ (by omega)
theorem length_unpackOf (b : List Int) (n w : Int) : (unpackOf b n w).1.length ≤ 4096 := by
  unfold unpackOf
  split
  · simp
  · split
    · simp
    · split
      · simp
      · split
        · simp
        · rw [length_unOf]; omega
theorem BitsUnpacks : dragnetlaw03_BitsUnpacks.Pure := by
  intro b n w hm hn hu hwn hww
  have hB : B8 b := fun x hx => wf_u8 (hu x hx)
  have h1 := wf_i64 hwn
  have h3 := length_unpackOf b n w
  refine Ev.rounds (r := true) ?_
  unfold dragnetlaw03_BitsUnpacks.f
  refine Ev.bind alive03 (Ev.if_t rfl (Ev.obind (copy8 b (by omega)) (Ev.bind (unpack_ev b hB (by omega) n w) (Ev.bind (ref_unpack b hB (by omega) n w h1.1 h1.2) ?_))))
  refine Ev.bind (same64 _ _ (by omega)) (Ev.if_t (decide_eq_true rfl) (Ev.if_t rfl (Ev.obind (same8 hB hB) ?_)))
  rw [decide_eq_true rfl]; exact Ev.now _
end Go.Proofs.Ytfghhajimiimfaa.Pure
