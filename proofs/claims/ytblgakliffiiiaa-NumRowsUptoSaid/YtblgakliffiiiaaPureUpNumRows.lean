/- NumRows: any row is put and taken as the document says, or refused, and what is taken is new memory. Condition: the arguments' bulk is at most 1048576 ('Upto'). -/
import Derived.Test.YtblgakliffiiiaaNumC
namespace Go.Proofs.Ytblgakliffiiiaa.Pure
open Go.RowKit Go.Proofs.Ytblgakliffiiiaa.P Go.Proofs.YtblgakliffiiiaaW.PrintWords Go.Proofs.YtblgakliffiiiaaW.PrintLast Go.Proofs.YtblgakliffiiiaaQ

theorem takeRow_fine (b : List Int) (hb : B8 b) (most : Int) : B8 (takeRowOf b most).1 ∧ (takeRowOf b most).1.length ≤ b.length := by
  unfold takeRowOf takeRowVK
  split
  · exact ⟨In.nil _, by simp⟩
  · split
    · split
      · exact ⟨In.nil _, by simp⟩
      · split
        · exact ⟨In.nil _, by simp⟩
        · exact ⟨(hb.take _).drop _, by simp only [List.length_drop, List.length_take]; omega⟩
    · exact ⟨In.nil _, by simp⟩
theorem rows_loop (b : List Int) (hB : B8 b) (hb : b.length ≤ 1048576) : ∀ (d i : Nat) (p : List Int), i + d = p.length → p.length ≤ 1048576 → Ev (fun k => dragnetlaw02_NumRows.l0 k b b p true (i : Int)) true
  | 0, i, p, hi, hp => by
    apply Ev.succ
    simp only [dragnetlaw02_NumRows.l0]
    exact Ev.if_f (by omega) (Ev.if_t (by trivial) (Ev.obind (kept_eq b (by omega) hB) (Ev.now _)))
  | d + 1, i, p, hi, hp => by
    apply Ev.succ
    simp only [dragnetlaw02_NumRows.l0]
    refine Ev.if_t (by omega) (Ev.if_t (by omega) ?_)
    rw [inc _ (by omega)]
    exact rows_loop b hB hb d (i + 1) _ (by rw [List.length_set]; omega) (by rw [List.length_set]; exact hp)
theorem NumRowsUp : ∀ (l0 : List Int) (l1 : List Int) (a2 : Int), l0.length ≤ maxLen → (∀ x ∈ l0, (Lit.int .u8 x).wf = true) → l1.length ≤ maxLen → (∀ x ∈ l1, (Lit.int .u8 x).wf = true) → (Lit.int .i64 a2).wf = true → l0.length + l1.length ≤ 1048576 → ∃ k, dragnetlaw02_NumRows.f k l0 l1 a2 = some true := by
  intro b row most _ hw _ hrw hm hb
  have hB : B8 b := fun x hx => wf_u8 (hw x hx)
  have hR : B8 row := fun x hx => wf_u8 (hrw x hx)
  have hM := wf_i64 hm
  have hr : row.length < 2 ^ 64 := by omega
  have h9 := length_numEnc_le hr
  obtain ⟨hp8, hpl⟩ := takeRow_fine b hB most
  obtain ⟨t, ht⟩ : ∃ t, t = takeRowOf b most := ⟨_, rfl⟩
  have h1 := takeRow_ev b hB (by omega) most hM.2
  have h2 := ref_takeRow_ev b hB (by omega) most hM.2
  rw [← ht] at h1 h2 hp8 hpl
  have hrow : Ev (fun k => dragnetref02_Row.f k row) (numEnc row.length ++ row) := by
    unfold dragnetref02_Row.f
    rw [wu64 (by omega) (by omega)]
    exact Ev.bind (bytes_ev hr) (Ev.if_t (by omega) (Ev.now _))
  have hW : B8 (numEnc row.length ++ row) := (in_numEnc hr).append hR
  refine Ev.rounds (r := true) ?_
  unfold dragnetlaw02_NumRows.f
  refine Ev.bind alive02 (Ev.if_t rfl (Ev.obind (spare_eq b (by omega)) (Ev.bind (putRow_ev b row (by omega)) (Ev.bind h1 (Ev.bind h2 (Ev.obind (same8 hp8 hp8) (Ev.if_t (decide_eq_true rfl) (Ev.if_t rfl (Ev.if_t rfl (Ev.bind hrow ?_))))))))))
  rw [List.append_assoc]
  refine Ev.obind (behind_eq b _ (by simp; omega) hB hW) ?_
  apply Ev.succ
  simp only [dragnetlaw02_NumRows.j0]
  exact rows_loop b hB (by omega) t.1.length 0 t.1 (by omega) (by omega)
end Go.Proofs.Ytblgakliffiiiaa.Pure
