/- TokenJoined: terms with blanks between are cut into just these terms. No condition. -/
import Derived.Test.YtlmegmjdjdmmgaaTok
namespace Go.Proofs.Ytlmegmjdjdmmgaa.Pure
open Go.RowKit Go.Proofs.Ytlmegmjdjdmmgaa.P Go.Proofs.YtlmegmjdjdmmgaaW.PrintWords Go.Proofs.YtlmegmjdjdmmgaaW.PrintLast Go.Proofs.YtlmegmjdjdmmgaaQ

theorem bytesOf_append (a b : ByteArray) : bytesOf (a ++ b) = bytesOf a ++ bytesOf b := by
  unfold bytesOf
  rw [ByteArray.data_append, Array.toList_append, List.map_append]
def joinOf : List ByteArray → List Int
  | [] => []
  | s :: r => bytesOf s ++ 32 :: joinOf r
theorem joinOf_append : ∀ (a b : List ByteArray), joinOf (a ++ b) = joinOf a ++ joinOf b
  | [], b => rfl
  | s :: r, b => by simp only [List.cons_append, joinOf, joinOf_append r b, List.append_assoc]
def toks (n : Nat) : List ByteArray → List S31
  | [] => []
  | s :: r => ⟨(n : Int), s⟩ :: toks (n + 1) r
theorem length_toks : ∀ (l : List ByteArray) (n : Nat), (toks n l).length = l.length
  | [], _ => rfl
  | s :: r, n => by simp only [toks, List.length_cons, length_toks r]
theorem toks_get : ∀ (l : List ByteArray) (n i : Nat) (h : i < l.length), (toks n l)[i]'(by rw [length_toks]; exact h) = ⟨((n + i : Nat) : Int), l[i]⟩
  | s :: r, n, 0, _ => rfl
  | s :: r, n, i + 1, h => by
    have := toks_get r (n + 1) i (by simpa using h)
    simp only [toks, List.getElem_cons_succ, this, S31.mk.injEq, and_true]
    omega
theorem cut_join : ∀ (l : List ByteArray) (acc : List S31), (∀ s ∈ l, IsTok (bytesOf s)) → cutGo (joinOf l) none acc = acc ++ toks acc.length l
  | [], acc, _ => by simp [joinOf, toks, cutGo]
  | s :: r, acc, h => by
    have hs := h s List.mem_cons_self
    have h1 : cutGo (bytesOf s) none acc = acc ++ [⟨(acc.length : Int), s⟩] := by
      have := cutGo_tok hs [] acc
      rw [List.append_nil] at this
      rw [this]
      simp only [cutGo, tokOf_tok hs, nums_bytes]
    simp only [joinOf]
    rw [cutGo_blank, h1, cut_join r _ (fun x hx => h x (List.mem_cons_of_mem _ hx))]
    simp [toks]
theorem rdOf_nat (l : List ByteArray) (i : Nat) (h : i < l.length) : rdOf ByteArray.empty l (i : Int) = l[i] := by
  unfold rdOf; simp [h]
theorem joined_l1 (l : List ByteArray) (hl : l.length ≤ 200) : ∀ (d i : Nat), i + d = l.length → Ev (fun k => dragnetlaw07_TokenJoined.l1 k l (toks 0 l) (i : Int)) true
  | 0, i, hi => by
    apply Ev.succ
    simp only [dragnetlaw07_TokenJoined.l1, length_toks]
    exact Ev.if_f (by omega) (Ev.now _)
  | d + 1, i, hi => by
    have hlt : i < l.length := by omega
    apply Ev.succ
    simp only [dragnetlaw07_TokenJoined.l1, length_toks]
    rw [rdT_nat _ _ (by rw [length_toks]; exact hlt), toks_get l 0 i hlt, rdOf_nat l i hlt]
    refine Ev.if_t (by omega) (Ev.if_t (by omega) (Ev.if_t (by omega) (Ev.if_t rfl (Ev.if_t (by simp) ?_))))
    rw [inc _ (by omega)]
    exact joined_l1 l hl d (i + 1) (by omega)
theorem joined_l0 (l : List ByteArray) (hl : l.length ≤ 200) : ∀ (d i : Nat), i + d = l.length → ∀ x : ByteArray, bytesOf x = joinOf (l.take i) → (∀ s ∈ l.take i, IsTok (bytesOf s)) → x.size ≤ 65 * i →
    Ev (fun k => dragnetlaw07_TokenJoined.l0 k l x (i : Int)) true
  | 0, i, hi, x, hx, ht, hs => by
    have e : l.take i = l := List.take_of_length_le (by omega)
    rw [e] at hx ht
    have hcut : token_Cut.f (bytesOf x) = some (toks 0 l) := by
      rw [cut_eq (B8_bytes x) (by rw [bytesOf_length]; omega)]
      unfold cutOf
      rw [hx, cut_join l [] ht]
      rfl
    apply Ev.succ
    simp only [dragnetlaw07_TokenJoined.l0]
    refine Ev.if_f (by omega) (Ev.if_t (by omega) (Ev.obind hcut (Ev.if_t (by rw [length_toks]) ?_)))
    exact joined_l1 l hl l.length 0 (by omega)
  | d + 1, i, hi, x, hx, ht, hs => by
    have hlt : i < l.length := by omega
    apply Ev.succ
    simp only [dragnetlaw07_TokenJoined.l0]
    rw [rdOf_nat l i hlt]
    refine Ev.if_t (by omega) (Ev.if_t (by omega) (Ev.bind (refIs_ev _) ?_))
    by_cases hk : IsTok (bytesOf l[i])
    · rw [decide_eq_true hk]
      have hz : (l[i]).size ≤ 64 := by rw [← bytesOf_length]; exact hk.2.1
      have hxz : (x ++ l[i]).size = x.size + (l[i]).size := ByteArray.size_append ..
      refine Ev.if_t rfl (Ev.if_t (by omega) (Ev.if_t (by omega) ?_))
      rw [inc _ (by omega)]
      refine joined_l0 l hl d (i + 1) (by omega) _ ?_ ?_ ?_
      · rw [bytesOf_append, bytesOf_append, hx, List.take_succ_eq_append_getElem hlt, joinOf_append, List.append_assoc]
        rfl
      · intro s hs2
        rw [List.take_succ_eq_append_getElem hlt] at hs2
        rcases List.mem_append.1 hs2 with h | h
        · exact ht s h
        · rw [List.mem_singleton] at h
          rw [h]; exact hk
      · rw [ByteArray.size_append, hxz]
        have : (⟨#[32]⟩ : ByteArray).size = 1 := rfl
        omega
    · rw [decide_eq_false hk]
      exact Ev.if_f (by decide) (Ev.now _)
theorem TokenJoined : ∀ l : List ByteArray, ∃ k, dragnetlaw07_TokenJoined.f k l = some true := by
  intro l
  refine Ev.rounds (r := true) ?_
  unfold dragnetlaw07_TokenJoined.f
  refine Ev.bind alive07 (Ev.if_t rfl ?_)
  by_cases hl : l.length ≤ 200
  · refine Ev.if_f (by omega) ?_
    exact joined_l0 l hl l.length 0 (by omega) _ rfl (fun s hs => by simp at hs) (show (0 : Nat) ≤ 65 * 0 from Nat.le_refl _)
  · exact Ev.if_t (by omega) (Ev.now _)
end Go.Proofs.Ytlmegmjdjdmmgaa.Pure
