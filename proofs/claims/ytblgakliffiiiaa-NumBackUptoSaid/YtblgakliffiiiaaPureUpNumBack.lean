/- NumBack: a number and a row that are put are taken as they were, whatever stands behind. Condition: the arguments' bulk is at most 1048576 ('Upto'). -/
import Derived.Test.YtblgakliffiiiaaNumB
namespace Go.Proofs.Ytblgakliffiiiaa.Pure
open Go.RowKit Go.Proofs.Ytblgakliffiiiaa.P Go.Proofs.YtblgakliffiiiaaW.PrintWords Go.Proofs.YtblgakliffiiiaaW.PrintLast Go.Proofs.YtblgakliffiiiaaQ

theorem NumBackUp : ∀ (a0 : Int) (l1 : List Int) (l2 : List Int), (Lit.int .u64 a0).wf = true → l1.length ≤ maxLen → (∀ x ∈ l1, (Lit.int .u8 x).wf = true) → l2.length ≤ maxLen → (∀ x ∈ l2, (Lit.int .u8 x).wf = true) → l1.length + l2.length ≤ 1048576 → ∃ k, dragnetlaw02_NumBack.f k a0 l1 l2 = some true := by
  intro a row more ha _ hrw _ hmw hb
  have hR : B8 row := fun x hx => wf_u8 (hrw x hx)
  have hM : B8 more := fun x hx => wf_u8 (hmw x hx)
  have h0 := wf_u64 ha
  obtain ⟨v, rfl⟩ := Int.eq_ofNat_of_zero_le h0.1
  have hv : v < 2 ^ 64 := by omega
  have hr : row.length < 2 ^ 64 := by omega
  have h9 := length_numEnc_le hv
  have h9r := length_numEnc_le hr
  have hE := in_numEnc hv
  have hEr := in_numEnc hr
  obtain ⟨x, hx⟩ : ∃ x, x = numEnc v ++ numEnc row.length ++ row := ⟨_, rfl⟩
  have hX : B8 x := by rw [hx]; exact (hE.append hEr).append hR
  have hxl : x.length = (numEnc v).length + (numEnc row.length).length + row.length := by rw [hx]; simp [Nat.add_assoc]
  have hdrop : x.drop (numEnc v).length = numEnc row.length ++ row := by
    rw [hx, List.append_assoc, List.drop_left' rfl]
  refine Ev.rounds (r := true) ?_
  unfold dragnetlaw02_NumBack.f
  refine Ev.bind alive02 (Ev.if_t rfl (Ev.bind (put_ev [] (by simp) hv) ?_))
  have hp := putRow_ev ([] ++ numEnc v) row (by simp; omega)
  rw [List.nil_append, ← hx] at hp
  rw [List.nil_append]
  refine Ev.bind hp (Ev.obind (copy8 x (by omega)) (Ev.if_t (by omega) ?_))
  have ht := take_ev (x ++ more) (hX.append hM) (by simp; omega)
  have he : takeOf (x ++ more) = ((v : Int), ((numEnc v).length : Int), 0) := by
    rw [hx, List.append_assoc, List.append_assoc]
    exact takeOf_enc hv _
  rw [he] at ht
  refine Ev.bind ht (Ev.if_t rfl (Ev.if_t rfl ?_))
  dsimp only
  rw [decide_eq_false (by omega)]
  apply Ev.succ
  simp only [dragnetlaw02_NumBack.j0]
  refine Ev.if_f (by decide) (Ev.if_t (by omega) (Ev.if_t (by omega) ?_))
  rw [Int.toNat_natCast, hdrop]
  refine Ev.obind (copy8 _ (by simp; omega)) (Ev.if_t (by simp; omega) ?_)
  have hrow := takeRow_ev (numEnc row.length ++ row ++ more) ((hEr.append hR).append hM) (by simp; omega) (row.length : Int) (by omega)
  have he2 : takeRowOf (numEnc row.length ++ row ++ more) (row.length : Int) = (row, (((numEnc row.length).length + row.length : Nat) : Int), 0) := by
    have e1 := takeOf_enc hr (row ++ more)
    rw [← List.append_assoc] at e1
    rw [takeRowOf_vk (by omega) e1, takeRowVK_ok (by omega) (by simp; omega)]
    rw [Int.toNat_natCast, show (((numEnc row.length).length : Int) + (row.length : Int)).toNat = (numEnc row.length ++ row).length by simp; omega, List.take_left' rfl, List.drop_left' rfl]
    rfl
  rw [he2] at hrow
  refine Ev.bind hrow (Ev.if_t rfl (Ev.obind (same8 hR hR) (Ev.if_t (decide_eq_true rfl) ?_)))
  dsimp only
  rw [add64 _ _ (by omega), hxl, Nat.add_assoc, show ∀ y : Nat, ((y : Int) == (y : Int)) = true from fun y => beq_self_eq_true _]
  exact Ev.now _
end Go.Proofs.Ytblgakliffiiiaa.Pure
