/- NumTakes: the number, folded or not, that any bytes begin with is the document's, or its error. No condition. -/
import Derived.Test.YtblgakliffiiiaaNumB
namespace Go.Proofs.Ytblgakliffiiiaa.Pure
open Go.RowKit Go.Proofs.Ytblgakliffiiiaa.P Go.Proofs.YtblgakliffiiiaaW.PrintWords Go.Proofs.YtblgakliffiiiaaW.PrintLast Go.Proofs.YtblgakliffiiiaaQ

theorem takeInt_ev (b : List Int) (hb : B8 b) (hl : b.length ≤ 9223372036854775000) : Ev (fun k => num_TakeInt.f k b) (if (takeOf b).2.2 = 0 then (unfoldOf (takeOf b).1, (takeOf b).2.1, 0) else (0, 0, (takeOf b).2.2)) := by
  unfold num_TakeInt.f
  refine Ev.bind (take_ev b hb hl) ?_
  rcases takeOf_spec b hb with e | e | ⟨v, k, e, hv, _⟩
  · rw [e]; exact Ev.if_f (by decide) (Ev.now _)
  · rw [e]; exact Ev.if_f (by decide) (Ev.now _)
  · rw [e]; exact Ev.if_t rfl (Ev.obind (unfold_eq _ (by omega) (by omega)) (Ev.now _))
theorem NumTakes : dragnetlaw02_NumTakes.Pure := by
  intro b hm hn hu
  have hB : B8 b := fun x hx => wf_u8 (hu x hx)
  refine Ev.rounds (r := true) ?_
  unfold dragnetlaw02_NumTakes.f
  refine Ev.bind alive02 (Ev.if_t rfl (Ev.bind (take_ev b hB (by omega)) (Ev.bind (ref_take_ev b hB (by omega)) (Ev.bind (takeInt_ev b hB (by omega)) ?_))))
  rcases takeOf_spec b hB with e | e | ⟨v, k, e, hv, _⟩
  · rw [e]; exact Ev.if_f (by decide) (Ev.if_t rfl (Ev.if_t rfl (Ev.if_t rfl (Ev.if_t rfl (Ev.if_t rfl (Ev.now _))))))
  · rw [e]; exact Ev.if_f (by decide) (Ev.if_t rfl (Ev.if_t rfl (Ev.if_t rfl (Ev.if_t rfl (Ev.if_t rfl (Ev.now _))))))
  · rw [e]
    refine Ev.if_t rfl (Ev.obind (ref_unfold_eq _ (by omega) (by omega)) ?_)
    exact Ev.if_t rfl (Ev.if_t rfl (Ev.if_t rfl (Ev.if_t rfl (Ev.if_t rfl (Ev.now _)))))
end Go.Proofs.Ytblgakliffiiiaa.Pure
