/- NumOne: what is taken of any bytes, put again, are the same bytes. No condition. -/
import Derived.Test.YtblgakliffiiiaaNumB
namespace Go.Proofs.Ytblgakliffiiiaa.Pure
open Go.RowKit Go.Proofs.Ytblgakliffiiiaa.P Go.Proofs.YtblgakliffiiiaaW.PrintWords Go.Proofs.YtblgakliffiiiaaW.PrintLast Go.Proofs.YtblgakliffiiiaaQ

theorem NumOne : dragnetlaw02_NumOne.Pure := by
  intro b hm hn hu
  have hB : B8 b := fun x hx => wf_u8 (hu x hx)
  have hj : Ev (fun k => dragnetlaw02_NumOne.j0 k b false) true := by
    apply Ev.succ
    simp only [dragnetlaw02_NumOne.j0]
    refine Ev.if_f (by decide) (Ev.bind (takeRow_ev b hB (by omega) (b.length : Int) (by omega)) ?_)
    rcases takeOf_spec b hB with e | e | ⟨v, k, e, hv, hk1, hk9, hkb, henc⟩
    · rw [takeRowOf_err (by omega) e (by decide)]; exact Ev.if_f (by decide) (Ev.if_t rfl (Ev.now _))
    · rw [takeRowOf_err (by omega) e (by decide)]; exact Ev.if_f (by decide) (Ev.if_t rfl (Ev.now _))
    · rw [takeRowOf_vk (by omega) e]
      by_cases h1 : (v : Int) > (b.length : Int)
      · rw [takeRowVK_long h1]; exact Ev.if_f (by decide) (Ev.if_t rfl (Ev.now _))
      by_cases h2 : (v : Int) > (b.length : Int) - (k : Int)
      · rw [takeRowVK_short h1 h2]; exact Ev.if_f (by decide) (Ev.if_t rfl (Ev.now _))
      rw [takeRowVK_ok h1 h2]
      refine Ev.if_t rfl ?_
      dsimp only
      rw [show ((k : Int) + (v : Int)).toNat = k + v by omega, Int.toNat_natCast]
      have hrl : ((b.take (k + v)).drop k).length = v := by simp only [List.length_drop, List.length_take]; omega
      have hput := putRow_ev [] ((b.take (k + v)).drop k) (by rw [hrl]; simp; omega)
      rw [hrl, henc] at hput
      have hcat : [] ++ b.take k ++ (b.take (k + v)).drop k = b.take (k + v) := by
        rw [List.nil_append]
        have h5 := List.take_append_drop k (b.take (k + v))
        rw [List.take_take, Nat.min_eq_left (by omega)] at h5
        exact h5
      rw [hcat] at hput
      refine Ev.if_t (by omega) (Ev.bind hput (Ev.if_t (by omega) (Ev.obind (same8 (hB.take _) (hB.take _)) ?_)))
      rw [decide_eq_true rfl]; exact Ev.now _
  refine Ev.rounds (r := true) ?_
  unfold dragnetlaw02_NumOne.f
  refine Ev.bind alive02 (Ev.if_t rfl (Ev.bind (take_ev b hB (by omega)) ?_))
  rcases takeOf_spec b hB with e | e | ⟨v, k, e, hv, hk1, hk9, hkb, henc⟩
  · rw [e]; exact Ev.if_f (by decide) hj
  · rw [e]; exact Ev.if_f (by decide) hj
  · rw [e]
    refine Ev.if_t rfl ?_
    dsimp only
    refine Ev.if_f (by omega) (Ev.if_f (by omega) (Ev.if_f (by omega) (Ev.bind (put_ev [] (by simp) hv) (Ev.if_t (by omega) (Ev.if_t (by omega) ?_)))))
    rw [Int.toNat_natCast, List.nil_append, henc]
    refine Ev.obind (same8 (hB.take _) (hB.take _)) ?_
    rw [decide_eq_true rfl]
    exact hj
end Go.Proofs.Ytblgakliffiiiaa.Pure
