-- Layer 2 (num), second part: rows; what is taken and put.
import Derived.Test.YtblgakliffiiiaaNum
namespace Go.Proofs.YtblgakliffiiiaaQ
open Go.RowKit Go.Proofs.YtblgakliffiiiaaW.PrintWords Go.Proofs.YtblgakliffiiiaaW.PrintMore Go.Proofs.YtblgakliffiiiaaW.PrintLast Go.Proofs.Ytblgakliffiiiaa.P

theorem takeOf_spec (b : List Int) (hb : B8 b) : takeOf b = (0, 0, 3) ∨ takeOf b = (0, 0, 2) ∨
    ∃ v k : Nat, takeOf b = ((v : Int), (k : Int), 0) ∧ v < 2 ^ 64 ∧ 1 ≤ k ∧ k ≤ 9 ∧ k ≤ b.length ∧ numEnc v = b.take k := by
  cases b with
  | nil => exact .inl rfl
  | cons x rest =>
    obtain ⟨hx, hr⟩ := hb.cons
    by_cases h : x ≤ 247
    · obtain ⟨v, rfl⟩ := Int.eq_ofNat_of_zero_le hx.1
      refine .inr (.inr ⟨v, 1, takeOf_small h, by omega, by omega, by omega, by simp, ?_⟩)
      unfold numEnc
      rw [if_pos (by omega)]
      rfl
    · obtain ⟨k, hk⟩ := Int.eq_ofNat_of_zero_le (show 0 ≤ x - 247 by omega)
      by_cases h2 : rest.length < k
      · exact .inl (takeOf_short h hk h2)
      · have hy := hr.take k
        have hlen : (rest.take k).length = k := by rw [List.length_take]; omega
        have hlt := val_lt hy
        rw [hlen] at hlt
        have hv : val (rest.take k) < 2 ^ 64 := by
          rw [p256] at hlt
          exact Nat.lt_of_lt_of_le hlt (Nat.pow_le_pow_right (by decide) (by omega))
        have hnk : nb (val (rest.take k)) ≤ k := (nb_le_iff hv (by omega)).2 hlt
        rw [takeOf_long h hk h2]
        by_cases hs : val (rest.take k) ≤ 247
        · exact .inr (.inl (takeRes_bad (.inl hs)))
        by_cases hn : nb (val (rest.take k)) < k
        · exact .inr (.inl (takeRes_bad (.inr hn)))
        refine .inr (.inr ⟨val (rest.take k), 1 + k, ?_, hv, by omega, by omega, by simp; omega, ?_⟩)
        · rw [takeRes_ok hs hn]; rfl
        · unfold numEnc
          rw [if_neg hs, show nb (val (rest.take k)) = k by omega, Nat.add_comm 1 k, List.take_succ_cons]
          have := digits_val hy
          rw [hlen] at this
          rw [this, show x = ((247 + k : Nat) : Int) by omega]
theorem takeOf_enc {v : Nat} (hv : v < 2 ^ 64) (more : List Int) : takeOf (numEnc v ++ more) = ((v : Int), ((numEnc v).length : Int), 0) := by
  rw [length_numEnc]
  unfold numEnc
  by_cases h : v ≤ 247
  · rw [if_pos h, if_pos h]
    exact takeOf_small (by omega)
  · rw [if_neg h, if_neg h, List.cons_append]
    have h1 := nb_pos hv (by omega)
    have h8 := nb_le8 hv
    have hl := lt_nb hv
    rw [takeOf_long (k := nb v) (by omega) (by omega) (by simp [length_digits])]
    rw [List.take_left' (length_digits _ _), val_digits, Nat.mod_eq_of_lt hl, takeRes_ok h (by omega)]
    rfl
theorem numEnc_inj {a b : Nat} (ha : a < 2 ^ 64) (hb : b < 2 ^ 64) (h : numEnc a = numEnc b) : a = b := by
  have h1 := takeOf_enc ha []
  rw [h, takeOf_enc hb []] at h1
  have := congrArg Prod.fst h1
  simp at this; omega

theorem putRow_ev (b row : List Int) (hb : b.length + row.length ≤ 140737488355000) : Ev (fun k => num_PutRow.f k b row) (b ++ numEnc row.length ++ row) := by
  have h9 := length_numEnc_le (v := row.length) (by omega)
  unfold num_PutRow.f
  rw [wu64 (by omega) (by omega)]
  refine Ev.bind (put_ev b (by omega) (v := row.length) (by omega)) (Ev.if_t ?_ (Ev.now _))
  rw [List.length_append]; omega
def takeRowVK (b : List Int) (most v k : Int) : List Int × Int × Int :=
  if v > most then ([], 0, 5) else if v > (b.length : Int) - k then ([], 0, 3) else ((b.take (k + v).toNat).drop k.toNat, k + v, 0)
def takeRowOf (b : List Int) (most : Int) : List Int × Int × Int :=
  if most < 0 then ([], 0, 1) else if (takeOf b).2.2 = 0 then takeRowVK b most (takeOf b).1 (takeOf b).2.1 else ([], 0, (takeOf b).2.2)
theorem takeRowVK_long {b : List Int} {most v k : Int} (h : v > most) : takeRowVK b most v k = ([], 0, 5) := if_pos h
theorem takeRowVK_short {b : List Int} {most v k : Int} (h : ¬ v > most) (h2 : v > (b.length : Int) - k) : takeRowVK b most v k = ([], 0, 3) := by
  unfold takeRowVK; rw [if_neg h, if_pos h2]
theorem takeRowVK_ok {b : List Int} {most v k : Int} (h : ¬ v > most) (h2 : ¬ v > (b.length : Int) - k) : takeRowVK b most v k = ((b.take (k + v).toNat).drop k.toNat, k + v, 0) := by
  unfold takeRowVK; rw [if_neg h, if_neg h2]
theorem takeRowOf_neg {b : List Int} {most : Int} (h : most < 0) : takeRowOf b most = ([], 0, 1) := if_pos h
theorem takeRowOf_err {b : List Int} {most c : Int} (h : ¬ most < 0) (e : takeOf b = (0, 0, c)) (hc : c ≠ 0) : takeRowOf b most = ([], 0, c) := by
  unfold takeRowOf; rw [if_neg h, e]; exact if_neg hc
theorem takeRowOf_vk {b : List Int} {most v k : Int} (h : ¬ most < 0) (e : takeOf b = (v, k, 0)) : takeRowOf b most = takeRowVK b most v k := by
  unfold takeRowOf; rw [if_neg h, e]; exact if_pos rfl
theorem clone8 {b : List Int} (h : b.length < 140737488355328) : slices_Clone_byte_byte.f b = some b := if_pos h
theorem takeRow_ev (b : List Int) (hb : B8 b) (hl : b.length < 140737488355328) (most : Int) (hm : most ≤ 9223372036854775807) : Ev (fun k => num_TakeRow.f k b most) (takeRowOf b most) := by
  unfold num_TakeRow.f
  by_cases h : most < 0
  · rw [takeRowOf_neg h]; exact Ev.if_t h (Ev.now _)
  refine Ev.if_f h (Ev.bind (take_ev b hb (by omega)) ?_)
  rcases takeOf_spec b hb with e | e | ⟨v, k, e, hv, hk1, hk9, hkb, henc⟩
  · rw [takeRowOf_err h e (by decide), e]; exact Ev.if_f (by decide) (Ev.now _)
  · rw [takeRowOf_err h e (by decide), e]; exact Ev.if_f (by decide) (Ev.now _)
  · rw [takeRowOf_vk h e, e]
    refine Ev.if_t rfl ?_
    dsimp only
    rw [wu64 (x := most) (by omega) (by omega)]
    by_cases h1 : (v : Int) > most
    · rw [takeRowVK_long h1]; exact Ev.if_t h1 (Ev.now _)
    refine Ev.if_f h1 ?_
    rw [w64 (x := (v : Int)) (by omega) (by omega), w64 (x := (b.length : Int) - (k : Int)) (by omega) (by omega)]
    by_cases h2 : (v : Int) > (b.length : Int) - (k : Int)
    · rw [takeRowVK_short h1 h2]; exact Ev.if_t h2 (Ev.now _)
    refine Ev.if_f h2 ?_
    rw [takeRowVK_ok h1 h2, w64 (x := (k : Int) + (v : Int)) (by omega) (by omega)]
    refine Ev.if_t (by omega) (Ev.if_t (by omega) (Ev.if_t (by omega) (Ev.obind (clone8 ?_) (Ev.now _))))
    simp only [List.length_drop, List.length_take]; omega
theorem ref_takeRow_ev (b : List Int) (hb : B8 b) (hl : b.length < 140737488355328) (most : Int) (hm : most ≤ 9223372036854775807) : Ev (fun k => dragnetref02_TakeRow.f k b most) (takeRowOf b most) := by
  unfold dragnetref02_TakeRow.f
  by_cases h : most < 0
  · rw [takeRowOf_neg h]; exact Ev.if_t h (Ev.now _)
  refine Ev.if_f h (Ev.bind (ref_take_ev b hb (by omega)) ?_)
  rcases takeOf_spec b hb with e | e | ⟨v, k, e, hv, hk1, hk9, hkb, henc⟩
  · rw [takeRowOf_err h e (by decide), e]; exact Ev.if_f (by decide) (Ev.now _)
  · rw [takeRowOf_err h e (by decide), e]; exact Ev.if_f (by decide) (Ev.now _)
  · rw [takeRowOf_vk h e, e]
    refine Ev.if_t rfl ?_
    dsimp only
    rw [wu64 (x := most) (by omega) (by omega)]
    by_cases h1 : (v : Int) > most
    · rw [takeRowVK_long h1]; exact Ev.if_t h1 (Ev.now _)
    refine Ev.if_f h1 ?_
    rw [w64 (x := (v : Int)) (by omega) (by omega), w64 (x := (b.length : Int) - (k : Int)) (by omega) (by omega)]
    by_cases h2 : (v : Int) > (b.length : Int) - (k : Int)
    · rw [takeRowVK_short h1 h2]; exact Ev.if_t h2 (Ev.now _)
    refine Ev.if_f h2 ?_
    rw [takeRowVK_ok h1 h2, w64 (x := (k : Int) + (v : Int)) (by omega) (by omega)]
    refine Ev.if_t (by omega) (Ev.if_t (by omega) (Ev.if_t (by omega) (Ev.obind (copy8 _ ?_) (Ev.now _))))
    simp only [List.length_drop, List.length_take]; omega
theorem alive02 : Ev (fun k => dragnetlaw02_alive.f k) true := Ev.of (fun k => dragnetlaw02_alive.mono k) (k := 40) (by decide +kernel)
end Go.Proofs.YtblgakliffiiiaaQ
