/- BitsWidths: for every list of up to 65,536 numbers bits.Width is the document's Width; by it the list is packed, by one less it is refused. No condition. -/
import Derived.Test.YtfghhajimiimfaaBitsD
namespace Go.Proofs.Ytfghhajimiimfaa.Pure
open Go.RowKit Go.Proofs.Ytfghhajimiimfaa.P Go.Proofs.YtfghhajimiimfaaW.PrintWords Go.Proofs.YtfghhajimiimfaaW.PrintLast Go.Proofs.YtfghhajimiimfaaQ

theorem BitsWidths : dragnetlaw03_BitsWidths.Pure := by
  intro l hm hn hu
  have hU : U64 l := fun x hx => wf_u64 (hu x hx)
  have h64 := widthOf_le64 hU
  have hF := (widthOf_le hU h64).1 (Nat.le_refl _)
  refine Ev.rounds (r := true) ?_
  unfold dragnetlaw03_BitsWidths.f
  refine Ev.bind alive03 (Ev.if_t rfl ?_)
  by_cases h : (l.length : Int) > 65536
  · exact Ev.if_t h (Ev.now _)
  · refine Ev.if_f h (Ev.bind (width_ev hU (by omega)) (Ev.bind (pack_ok hU hn h64 hF) ?_))
    by_cases h0 : widthOf l = 0
    · rw [h0, show wrap64 (((0 : Nat) : Int) - 1) = -1 by rw [w64 (by omega) (by omega)]; rfl]
      refine Ev.bind (pack_bad (by decide)) (Ev.bind (ref_width hU hn) ?_)
      rw [h0]
      exact Ev.if_t rfl (Ev.if_t rfl (Ev.if_t rfl (Ev.if_t rfl (Ev.now _))))
    · rw [show (1 : Int) = ((1 : Nat) : Int) from rfl, sub64 (widthOf l) 1 (by omega) (by omega)]
      have hnF : ¬ Fit (widthOf l - 1) l := fun hf => by
        have := (widthOf_le hU (w := widthOf l - 1) (by omega)).2 hf
        omega
      refine Ev.bind (pack_range hU hn (by omega) hnF) (Ev.bind (ref_width hU hn) ?_)
      exact Ev.if_t rfl (Ev.if_t rfl (Ev.if_f (by omega) (Ev.if_t (by omega) (Ev.now _))))
end Go.Proofs.Ytfghhajimiimfaa.Pure
