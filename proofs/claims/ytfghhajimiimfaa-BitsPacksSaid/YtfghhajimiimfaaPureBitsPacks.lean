/- BitsPacks: bits.Pack answers for every list of numbers (up to 65,536 of them) and every width as the document's Pack, and leaves the list as it was. No condition. -/
import Derived.Test.YtfghhajimiimfaaBitsB
namespace Go.Proofs.Ytfghhajimiimfaa.Pure
open Go.RowKit Go.Proofs.Ytfghhajimiimfaa.P Go.Proofs.YtfghhajimiimfaaW.PrintWords Go.Proofs.YtfghhajimiimfaaW.PrintLast Go.Proofs.YtfghhajimiimfaaQ

theorem BitsPacks : dragnetlaw03_BitsPacks.Pure := by
  intro l w hm hn hu hw
  have hU : U64 l := fun x hx => wf_u64 (hu x hx)
  refine Ev.rounds (r := true) ?_
  unfold dragnetlaw03_BitsPacks.f
  refine Ev.bind alive03 (Ev.if_t rfl ?_)
  by_cases h : (l.length : Int) > 65536
  · exact Ev.if_t h (Ev.now _)
  · refine Ev.if_f h (Ev.obind (copy64 l (by omega)) ?_)
    by_cases hb : w < 0 ∨ 64 < w
    · refine Ev.bind (pack_bad hb) (Ev.bind (ref_pack_bad hb) (Ev.obind (same8 (In.nil _) (In.nil _)) ?_))
      refine Ev.if_t (by decide) (Ev.if_t rfl (Ev.bind (same64 l l (by omega)) ?_))
      rw [decide_eq_true rfl]; exact Ev.now _
    · obtain ⟨n, rfl⟩ := Int.eq_ofNat_of_zero_le (show 0 ≤ w by omega)
      have hB : B8 (if Fit n l then (packOf n l, (0 : Int)) else ([], 7)).1 := by split; exact in_packOf _ _; exact In.nil _
      refine Ev.bind (pack_ev hU hn (w := n) (by omega)) (Ev.bind (ref_pack hU hn (w := n) (by omega)) (Ev.obind (same8 hB hB) ?_))
      rw [decide_eq_true rfl]
      refine Ev.if_t rfl (Ev.if_t rfl (Ev.bind (same64 l l (by omega)) ?_))
      rw [decide_eq_true rfl]; exact Ev.now _
end Go.Proofs.Ytfghhajimiimfaa.Pure
