/- NumPuts: any number, folded or not, is put behind any bytes as the document says, and what stood in their spare room stays. No condition. -/
import Derived.Test.YtblgakliffiiiaaNumC
namespace Go.Proofs.Ytblgakliffiiiaa.Pure
open Go.RowKit Go.Proofs.Ytblgakliffiiiaa.P Go.Proofs.YtblgakliffiiiaaW.PrintWords Go.Proofs.YtblgakliffiiiaaW.PrintLast Go.Proofs.YtblgakliffiiiaaQ

theorem NumPuts : dragnetlaw02_NumPuts.Pure := by
  intro l a n hm hn hw ha hi
  have hB : B8 l := fun x hx => wf_u8 (hw x hx)
  have h0 := wf_u64 ha
  have h1 := wf_i64 hi
  obtain ⟨v, rfl⟩ := Int.eq_ofNat_of_zero_le h0.1
  have hv : v < 2 ^ 64 := by omega
  have hf := foldOf_range n h1.1 h1.2
  have hfe := fold_eq n h1.1 h1.2
  have hre := ref_fold_eq n h1.1 h1.2
  obtain ⟨u, hu⟩ := Int.eq_ofNat_of_zero_le hf.1
  rw [hu] at hfe hre hf
  have hu64 : u < 2 ^ 64 := by omega
  have l1 := length_numEnc_le hv
  have l2 := length_numEnc_le hu64
  refine Ev.rounds (r := true) ?_
  unfold dragnetlaw02_NumPuts.f
  refine Ev.bind alive02 (Ev.if_t rfl (Ev.obind (spare_eq l (by omega)) (Ev.bind (put_ev l (by omega) hv) ?_)))
  have hpi : Ev (fun k => num_PutInt.f k l n) (l ++ numEnc u) := by
    unfold num_PutInt.f
    exact Ev.obind hfe (Ev.bind (put_ev l (by omega) hu64) (Ev.now _))
  have hri : Ev (fun k => dragnetref02_Int.f k n) (numEnc u) := by
    unfold dragnetref02_Int.f
    exact Ev.obind hre (Ev.bind (bytes_ev hu64) (Ev.now _))
  refine Ev.bind hpi (Ev.obind (kept_eq l (by omega) hB) (Ev.if_t rfl (Ev.bind (bytes_ev hv) (Ev.obind (behind_eq l _ (by omega) hB (in_numEnc hv)) (Ev.if_t rfl (Ev.bind hri (Ev.obind (behind_eq l _ (by omega) hB (in_numEnc hu64)) (Ev.now _))))))))
end Go.Proofs.Ytblgakliffiiiaa.Pure
