/- NumFolds: every whole number is folded, and every number unfolded, as the document says, and each is the other's inverse. No condition. -/
import Derived.Test.YtblgakliffiiiaaNumB
namespace Go.Proofs.Ytblgakliffiiiaa.Pure
open Go.RowKit Go.Proofs.Ytblgakliffiiiaa.P Go.Proofs.YtblgakliffiiiaaW.PrintWords Go.Proofs.YtblgakliffiiiaaW.PrintLast Go.Proofs.YtblgakliffiiiaaQ

theorem NumFolds : dragnetlaw02_NumFolds.Pure := by
  intro n v hn hv
  have h1 := wf_i64 hn
  have h2 := wf_u64 hv
  have h3 := foldOf_range n h1.1 h1.2
  have h4 := unfoldOf_range v h2.1 h2.2
  refine Ev.rounds (r := true) ?_
  unfold dragnetlaw02_NumFolds.f
  refine Ev.bind alive02 (Ev.if_t rfl ?_)
  refine Ev.obind (fold_eq n h1.1 h1.2) (Ev.obind (ref_fold_eq n h1.1 h1.2) (Ev.if_t rfl ?_))
  refine Ev.obind (unfold_eq v h2.1 h2.2) (Ev.obind (ref_unfold_eq v h2.1 h2.2) (Ev.if_t rfl ?_))
  refine Ev.obind (unfold_eq _ h3.1 h3.2) (Ev.if_t (unfold_fold n) (Ev.obind (fold_eq _ h4.1 h4.2) ?_))
  rw [fold_unfold v h2.1, show (v == v) = true from beq_self_eq_true _]
  exact Ev.now _
end Go.Proofs.Ytblgakliffiiiaa.Pure
