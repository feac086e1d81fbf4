-- Tokens in plain words: what the cutting answers, and its laws.
import Derived.Test.YtlmegmjdjdmmgaaRef01
namespace Go.Proofs.YtlmegmjdjdmmgaaQ
open Go.RowKit Go.Proofs.YtlmegmjdjdmmgaaW.PrintWords Go.Proofs.YtlmegmjdjdmmgaaW.PrintMore Go.Proofs.YtlmegmjdjdmmgaaW.PrintLast Go.Proofs.Ytlmegmjdjdmmgaa.P

/-! ### bytes and texts -/
theorem bytesOf_nums {l : List Int} (h : B8 l) : bytesOf (strOfNums l) = l := by
  unfold bytesOf strOfNums
  simp only [List.map_map]
  rw [show l = l.map id from (List.map_id _).symm, List.map_map]
  refine List.map_congr_left fun x hx => ?_
  have := h x hx
  simp only [Function.comp, id, UInt8.toNat_ofNat']
  omega
theorem nums_bytes (s : ByteArray) : strOfNums (bytesOf s) = s := by
  unfold bytesOf strOfNums
  rw [List.map_map]
  have e : ((fun n : Int => UInt8.ofNat n.toNat) ∘ fun b : UInt8 => (b.toNat : Int)) = id := by funext b; simp
  rw [e, List.map_id]
theorem B8_bytes (s : ByteArray) : B8 (bytesOf s) := fun x hx => by
  unfold bytesOf at hx
  obtain ⟨b, _, rfl⟩ := List.mem_map.1 hx
  have : b.toNat < 256 := b.toNat_lt
  omega
theorem size_nums (l : List Int) : (strOfNums l).size = l.length := by
  unfold strOfNums; show (List.toArray _).size = _; simp
theorem toList_bytes (s : ByteArray) : s.toList = (bytesOf s).map (fun n => UInt8.ofNat n.toNat) := by
  rw [ByteArray.toList_eq]
  unfold bytesOf
  rw [List.map_map]
  have e : ((fun n : Int => UInt8.ofNat n.toNat) ∘ fun b : UInt8 => (b.toNat : Int)) = id := by funext b; simp
  rw [e, List.map_id]
theorem bytes_inj {s t : ByteArray} (h : bytesOf s = bytesOf t) : s = t := by rw [← nums_bytes s, ← nums_bytes t, h]
theorem toList_inj {s t : ByteArray} (h : s.toList = t.toList) : s = t := by
  rw [ByteArray.toList_eq, ByteArray.toList_eq] at h
  cases s; cases t
  simp only at h
  rw [Array.toList_inj.1 h]
theorem toList_ne {s t : ByteArray} : (s.toList != t.toList) = !decide (bytesOf s = bytesOf t) := by
  by_cases h : bytesOf s = bytesOf t
  · rw [bytes_inj h]; simp
  · rw [decide_eq_false h, Bool.not_false, bne_iff_ne]
    exact fun e => h (by rw [toList_inj e])

/-! ### letters -/
theorem lowB_range {c : Int} (h : 0 ≤ c ∧ c ≤ 255) : 0 ≤ lowB c ∧ lowB c ≤ 255 := by unfold lowB; split <;> omega
theorem B8_low {l : List Int} (h : B8 l) : B8 (l.map lowB) := fun x hx => by
  obtain ⟨c, hc, rfl⟩ := List.mem_map.1 hx
  exact lowB_range (h c hc)
theorem lowB_lowB (c : Int) : lowB (lowB c) = lowB c := by unfold lowB; split <;> (try split) <;> omega
theorem inB_lowB (c : Int) : inB (lowB c) = inB c := by
  unfold inB lowB
  rw [decide_eq_decide]
  split <;> omega
theorem inB_blank : inB 32 = false := by decide
theorem refIn_eq (c : Int) : dragnetref07_In.f c = some (inB c) := by
  unfold dragnetref07_In.f inB
  by_cases h1 : 97 ≤ c <;> by_cases h2 : c ≤ 122 <;> by_cases h3 : 65 ≤ c <;> by_cases h4 : c ≤ 90 <;> by_cases h5 : 48 ≤ c <;> by_cases h6 : c ≤ 57 <;> by_cases h7 : 128 ≤ c <;> simp [h1, h2, h3, h4, h5, h6, h7] <;> omega
theorem in_ev (c : Int) : Ev (fun k => token_in.f k c) (inB c) := by
  refine ⟨3, fun k hk => ?_⟩
  obtain ⟨k, rfl⟩ : ∃ j, k = j + 3 := ⟨k - 3, by omega⟩
  unfold token_in.f inB
  simp only [token_in.j0, token_in.j1]
  by_cases h1 : 97 ≤ c <;> by_cases h2 : c ≤ 122 <;> by_cases h3 : 65 ≤ c <;> by_cases h4 : c ≤ 90 <;> by_cases h5 : 48 ≤ c <;> by_cases h6 : c ≤ 57 <;> by_cases h7 : 128 ≤ c <;> simp [h1, h2, h3, h4, h5, h6, h7] <;> omega
theorem refLower_eq (s : ByteArray) (h : s.size ≤ 140737488355328) : dragnetref07_Lower.f s = some (strOfNums ((bytesOf s).map lowB)) := by
  unfold dragnetref07_Lower.f; rw [if_pos h]

/-! ### the cutting's laws -/
def shift (n : Nat) (t : S31) : S31 := ⟨t.f0 + n, t.f1⟩
theorem shift_shift (a b : Nat) (t : S31) : shift a (shift b t) = shift (a + b) t := by unfold shift; simp only [S31.mk.injEq, and_true]; omega
theorem tok_shift (acc : List S31) (run : List Int) : tokOf acc run = shift acc.length (tokOf [] run) := by unfold tokOf shift; simp
theorem cutGo_acc : ∀ (l : List Int) (st : Option (List Int)) (acc : List S31), cutGo l st acc = acc ++ (cutGo l st []).map (shift acc.length)
  | [], none, acc => by simp [cutGo]
  | [], some run, acc => by simp [cutGo, ← tok_shift]
  | c :: cs, none, acc => by
    simp only [cutGo]
    split
    · exact cutGo_acc cs _ acc
    · exact cutGo_acc cs _ acc
  | c :: cs, some run, acc => by
    simp only [cutGo]
    split
    · exact cutGo_acc cs _ acc
    · rw [cutGo_acc cs none (acc ++ [tokOf acc run]), cutGo_acc cs none ([] ++ [tokOf [] run])]
      simp only [List.nil_append, List.length_append, List.length_singleton, List.append_assoc, List.map_append, List.map_cons, List.map_nil, List.map_map, ← tok_shift]
      congr 3
      funext t
      simp only [Function.comp, shift_shift]
theorem cutGo_blank : ∀ (a : List Int) (b : List Int) (st : Option (List Int)) (acc : List S31), cutGo (a ++ 32 :: b) st acc = cutGo b none (cutGo a st acc)
  | [], b, none, acc => by simp [cutGo, inB_blank]
  | [], b, some run, acc => by simp [cutGo, inB_blank]
  | c :: cs, b, none, acc => by
    simp only [List.cons_append, cutGo]
    split <;> exact cutGo_blank cs b _ _
  | c :: cs, b, some run, acc => by
    simp only [List.cons_append, cutGo]
    split <;> exact cutGo_blank cs b _ _
theorem cutOf_blank (a b : List Int) : cutOf (a ++ 32 :: b) = cutOf a ++ (cutOf b).map (shift (cutOf a).length) := by
  unfold cutOf
  rw [cutGo_blank, cutGo_acc]
theorem cutGo_low : ∀ (l : List Int) (st : Option (List Int)) (acc : List S31), cutGo (l.map lowB) st acc = cutGo l st acc
  | [], none, acc => rfl
  | [], some run, acc => rfl
  | c :: cs, none, acc => by
    simp only [List.map_cons, cutGo, inB_lowB, lowB_lowB, cutGo_low cs]
  | c :: cs, some run, acc => by
    simp only [List.map_cons, cutGo, inB_lowB, lowB_lowB, cutGo_low cs]
theorem cutGo_length : ∀ (l : List Int) (st : Option (List Int)) (acc : List S31), (cutGo l st acc).length ≤ acc.length + l.length + 1
  | [], none, acc => by simp [cutGo]
  | [], some run, acc => by simp [cutGo]
  | c :: cs, none, acc => by
    simp only [cutGo, List.length_cons]
    split
    · have := cutGo_length cs (some [lowB c]) acc; omega
    · have := cutGo_length cs none acc; omega
  | c :: cs, some run, acc => by
    simp only [cutGo, List.length_cons]
    split
    · have := cutGo_length cs (some (run ++ [lowB c])) acc; omega
    · have := cutGo_length cs none (acc ++ [tokOf acc run]); simp only [List.length_append, List.length_singleton] at this; omega
theorem cutOf_length (l : List Int) : (cutOf l).length ≤ l.length + 1 := by have := cutGo_length l none []; simpa [cutOf] using this
/-- Places are counted. -/
def Counted (l : List S31) : Prop := ∀ i (h : i < l.length), (l[i]).f0 = (i : Int)
theorem Counted.snoc {acc : List S31} (h : Counted acc) (run : List Int) : Counted (acc ++ [tokOf acc run]) := by
  intro i hi
  rw [List.length_append, List.length_singleton] at hi
  by_cases h1 : i < acc.length
  · rw [List.getElem_append_left h1]; exact h i h1
  · obtain rfl : i = acc.length := by omega
    rw [List.getElem_append_right (by omega)]
    simp [tokOf]
theorem cutGo_counted : ∀ (l : List Int) (st : Option (List Int)) (acc : List S31), Counted acc → Counted (cutGo l st acc)
  | [], none, acc, h => h
  | [], some run, acc, h => h.snoc run
  | c :: cs, none, acc, h => by
    simp only [cutGo]
    split <;> exact cutGo_counted cs _ _ h
  | c :: cs, some run, acc, h => by
    simp only [cutGo]
    split
    · exact cutGo_counted cs _ _ h
    · exact cutGo_counted cs _ _ (h.snoc run)
theorem cutOf_counted (l : List Int) : Counted (cutOf l) := cutGo_counted l none [] (fun i h => by simp at h)
/-- A text that is a term. -/
def IsTok (l : List Int) : Prop := 1 ≤ l.length ∧ l.length ≤ 64 ∧ ∀ c ∈ l, inB c = true ∧ lowB c = c
instance (l : List Int) : Decidable (IsTok l) := by unfold IsTok; infer_instance
theorem cutGo_run : ∀ (l rest run : List Int) (acc : List S31), (∀ c ∈ l, inB c = true ∧ lowB c = c) → cutGo (l ++ rest) (some run) acc = cutGo rest (some (run ++ l)) acc
  | [], rest, run, acc, _ => by simp
  | c :: cs, rest, run, acc, h => by
    have hc := h c List.mem_cons_self
    simp only [List.cons_append, cutGo, hc.1, if_true, hc.2]
    rw [cutGo_run cs rest _ acc (fun x hx => h x (List.mem_cons_of_mem _ hx)), List.append_assoc]
    rfl
theorem cutGo_tok {l : List Int} (h : IsTok l) (rest : List Int) (acc : List S31) : cutGo (l ++ rest) none acc = cutGo rest (some l) acc := by
  obtain ⟨h1, _, h3⟩ := h
  cases l with
  | nil => simp at h1
  | cons c cs =>
    have hc := h3 c List.mem_cons_self
    simp only [List.cons_append, cutGo, hc.1, if_true, hc.2]
    exact cutGo_run cs rest [c] acc (fun x hx => h3 x (List.mem_cons_of_mem _ hx))
theorem tokOf_tok {l : List Int} (h : IsTok l) (acc : List S31) : tokOf acc l = ⟨(acc.length : Int), strOfNums l⟩ := by
  unfold tokOf; rw [if_neg (by have := h.2.1; omega)]
theorem cutOf_tok {l : List Int} (h : IsTok l) : cutOf l = [⟨0, strOfNums l⟩] := by
  unfold cutOf
  have := cutGo_tok h [] []
  rw [List.append_nil] at this
  rw [this]
  simp only [cutGo, List.nil_append, tokOf_tok h]
  rfl

/-! ### the program's cutting and the document's -/
theorem cut_eq {l : List Int} (h : B8 l) (hl : l.length ≤ 1099511627776) : token_Cut.f l = some (cutOf l) := by
  unfold token_Cut.f; rw [if_pos hl, if_pos (show ∀ x ∈ l, 0 ≤ x ∧ x ≤ 255 from h)]
theorem cutGo_done {l : List Int} {i : Nat} (hi : l.length ≤ i) (acc : List S31) : cutGo (l.drop i) none acc = acc := by
  rw [List.drop_of_length_le hi]; rfl
theorem rd_drop {l : List Int} {i : Nat} (h : i < l.length) : l.drop i = rd l (i : Int) :: l.drop (i + 1) := by
  rw [rd_nat l i h, List.drop_eq_getElem_cons h]
theorem ref_out (l : List Int) (acc : List S31) (i : Nat) (hi : l.length ≤ i) : Ev (fun k => dragnetref07_Cut.l0 k l acc (i : Int)) acc := by
  apply Ev.succ
  simp only [dragnetref07_Cut.l0]
  exact Ev.if_f (by omega) (Ev.now _)
theorem nums_nil : strOfNums [] = (⟨#[]⟩ : ByteArray) := rfl
theorem ref_loop {l : List Int} (hB : B8 l) (hl : l.length ≤ 1099511627776) : ∀ (d i : Nat), i + d = l.length → ∀ (acc : List S31), acc.length ≤ i →
    Ev (fun k => dragnetref07_Cut.l0 k l acc (i : Int)) (cutGo (l.drop i) none acc) ∧
    ∀ f : Nat, f ≤ i → Ev (fun k => dragnetref07_Cut.l1 k l acc (i : Int) (f : Int)) (cutGo (l.drop i) (some (((l.take i).drop f).map lowB)) acc) := by
  intro d
  induction d with
  | zero =>
    intro i hi acc ha
    refine ⟨?_, fun f hf => ?_⟩
    · rw [cutGo_done (by omega)]; exact ref_out l acc i (by omega)
    · have hrun : ((l.take i).drop f).length = i - f := by rw [List.length_drop, List.length_take]; omega
      rw [List.drop_of_length_le (by omega)]
      simp only [cutGo]
      apply Ev.succ
      simp only [dragnetref07_Cut.l1]
      refine Ev.if_f (by omega) ?_
      rw [sub64 _ _ hf (by omega), inc _ (by omega)]
      by_cases h64 : i - f ≤ 64
      · refine Ev.if_t (by omega) (Ev.if_t (by omega) (Ev.if_t (by omega) (Ev.if_t (by omega) ?_)))
        rw [Int.toNat_natCast, Int.toNat_natCast]
        refine Ev.obind (refLower_eq _ (by rw [size_nums, hrun]; omega)) (Ev.if_t (by omega) ?_)
        rw [bytesOf_nums ((hB.take _).drop _)]
        have e : tokOf acc (((l.take i).drop f).map lowB) = ⟨(acc.length : Int), strOfNums (((l.take i).drop f).map lowB)⟩ := by
          unfold tokOf; rw [if_neg (by rw [List.length_map, hrun]; omega)]
        rw [e]
        exact ref_out l _ (i + 1) (by omega)
      · refine Ev.if_f (by omega) (Ev.if_t (by omega) ?_)
        have e : tokOf acc (((l.take i).drop f).map lowB) = ⟨(acc.length : Int), (⟨#[]⟩ : ByteArray)⟩ := by
          unfold tokOf; rw [if_pos (by rw [List.length_map, hrun]; omega)]; rfl
        rw [e]
        exact ref_out l _ (i + 1) (by omega)
  | succ d ih =>
    intro i hi acc ha
    have hlt : i < l.length := by omega
    obtain ⟨x, hx⟩ : ∃ x, x = rd l (i : Int) := ⟨_, rfl⟩
    have hdr := rd_drop hlt
    rw [← hx] at hdr
    have hB1 : ∀ f : Nat, f ≤ i → Ev (fun k => dragnetref07_Cut.l1 k l acc (i : Int) (f : Int)) (cutGo (l.drop i) (some (((l.take i).drop f).map lowB)) acc) := by
      intro f hf
      have hrun : ((l.take i).drop f).length = i - f := by rw [List.length_drop, List.length_take]; omega
      rw [hdr]
      simp only [cutGo]
      apply Ev.succ
      simp only [dragnetref07_Cut.l1]
      refine Ev.if_t (by omega) (Ev.if_t (by omega) (Ev.obind (refIn_eq _) ?_))
      rw [← hx]
      rw [sub64 _ _ hf (by omega), inc _ (by omega)]
      cases hb : inB x with
      | true =>
        refine Ev.if_t rfl ?_
        rw [if_pos rfl]
        have h := (ih (i + 1) (by omega) acc (by omega)).2 f (by omega)
        have e : ((l.take (i + 1)).drop f).map lowB = ((l.take i).drop f).map lowB ++ [lowB x] := by
          rw [List.take_succ_eq_append_getElem hlt, List.drop_append_of_le_length (by rw [List.length_take]; omega), List.map_append, hx, rd_nat l i hlt]
          rfl
        rw [e] at h
        exact h
      | false =>
        refine Ev.if_f (by decide) ?_
        rw [if_neg (by decide)]
        by_cases h64 : i - f ≤ 64
        · refine Ev.if_t (by omega) (Ev.if_t (by omega) (Ev.if_t (by omega) (Ev.if_t (by omega) ?_)))
          rw [Int.toNat_natCast, Int.toNat_natCast]
          refine Ev.obind (refLower_eq _ (by rw [size_nums, hrun]; omega)) (Ev.if_t (by omega) ?_)
          rw [bytesOf_nums ((hB.take _).drop _)]
          have e : tokOf acc (((l.take i).drop f).map lowB) = ⟨(acc.length : Int), strOfNums (((l.take i).drop f).map lowB)⟩ := by
            unfold tokOf; rw [if_neg (by rw [List.length_map, hrun]; omega)]
          rw [e]
          exact (ih (i + 1) (by omega) _ (by simp; omega)).1
        · refine Ev.if_f (by omega) (Ev.if_t (by omega) ?_)
          have e : tokOf acc (((l.take i).drop f).map lowB) = ⟨(acc.length : Int), (⟨#[]⟩ : ByteArray)⟩ := by
            unfold tokOf; rw [if_pos (by rw [List.length_map, hrun]; omega)]; rfl
          rw [e]
          exact (ih (i + 1) (by omega) _ (by simp; omega)).1
    refine ⟨?_, hB1⟩
    have h1 := hB1 i (Nat.le_refl _)
    have e0 : ((l.take i).drop i).map lowB = [] := by rw [List.drop_of_length_le (by rw [List.length_take]; omega)]; rfl
    rw [e0] at h1
    rw [hdr] at h1 ⊢
    simp only [cutGo, List.nil_append] at h1 ⊢
    apply Ev.succ
    simp only [dragnetref07_Cut.l0]
    refine Ev.if_t (by omega) (Ev.if_t (by omega) (Ev.obind (refIn_eq _) ?_))
    rw [← hx]
    cases hb : inB x with
    | true =>
      refine Ev.if_t rfl ?_
      rw [hb, if_pos rfl] at h1
      rw [if_pos rfl]
      exact h1
    | false =>
      refine Ev.if_f (by decide) ?_
      rw [if_neg (by decide), inc _ (by omega)]
      exact (ih (i + 1) (by omega) acc (by omega)).1
theorem refCut_ev {l : List Int} (hB : B8 l) (hl : l.length ≤ 1099511627776) : Ev (fun k => dragnetref07_Cut.f k l) (cutOf l) :=
  (ref_loop hB hl l.length 0 (by omega) [] (by simp)).1
theorem rdT_nat (l : List S31) (i : Nat) (h : i < l.length) : rd_T31 l (i : Int) = l[i] := by
  unfold rd_T31; simp [h]
theorem same_loop (a : List S31) (h : a.length ≤ 9223372036854775800) : ∀ (d i : Nat), i + d = a.length → Ev (fun k => dragnetref07_Same.l0 k a a (i : Int)) true
  | 0, i, hi => by
    apply Ev.succ
    simp only [dragnetref07_Same.l0]
    exact Ev.if_f (by omega) (Ev.now _)
  | d + 1, i, hi => by
    apply Ev.succ
    simp only [dragnetref07_Same.l0]
    refine Ev.if_t (by omega) (Ev.if_t (by omega) (Ev.if_t (by omega) (Ev.if_f (by simp) ?_)))
    rw [inc _ (by omega)]
    exact same_loop a h d (i + 1) (by omega)
theorem tsame_ev (a : List S31) (h : a.length ≤ 9223372036854775800) : Ev (fun k => dragnetref07_Same.f k a a) true := by
  unfold dragnetref07_Same.f
  exact Ev.if_t rfl (same_loop a h a.length 0 (by omega))

/-! ### is it a term -/
theorem bt_get (s : ByteArray) (i : Nat) (h : i < (bytesOf s).length) : bt s (i : Int) = (bytesOf s)[i] := by
  rw [← rd_bytesOf, rd_nat _ _ h]
def okFrom (l : List Int) (i : Nat) : Bool := (l.drop i).all (fun c => inB c && decide (lowB c = c))
theorem is_loop (s : ByteArray) (h : s.size ≤ 64) : ∀ (d i : Nat), i + d = s.size → Ev (fun k => token_Is.l0 k s (s.size : Int) (i : Int)) (okFrom (bytesOf s) i)
  | 0, i, hi => by
    apply Ev.succ
    simp only [token_Is.l0]
    unfold okFrom
    rw [List.drop_of_length_le (by rw [bytesOf_length]; omega)]
    exact Ev.if_f (by omega) (Ev.now _)
  | d + 1, i, hi => by
    have hlt : i < (bytesOf s).length := by rw [bytesOf_length]; omega
    have hr := B8_bytes s _ (List.getElem_mem hlt)
    have hd : okFrom (bytesOf s) i = ((inB (bytesOf s)[i] && decide (lowB (bytesOf s)[i] = (bytesOf s)[i])) && okFrom (bytesOf s) (i + 1)) := by
      unfold okFrom; rw [List.drop_eq_getElem_cons hlt, List.all_cons]
    rw [hd]
    apply Ev.succ
    simp only [token_Is.l0]
    rw [bt_get s i hlt]
    refine Ev.if_t (by omega) (Ev.if_t (by omega) (Ev.if_t (by omega) (Ev.bind (in_ev _) ?_)))
    cases inB (bytesOf s)[i] with
    | false => exact Ev.if_f (by decide) (Ev.now _)
    | true =>
      refine Ev.if_t rfl (Ev.obind (token_Cut.low hr.1 hr.2) ?_)
      by_cases he : lowB (bytesOf s)[i] = (bytesOf s)[i]
      · rw [decide_eq_true he]
        refine Ev.if_t he ?_
        rw [inc _ (by omega)]
        exact is_loop s h d (i + 1) (by omega)
      · rw [decide_eq_false he]
        exact Ev.if_f he (Ev.now _)
theorem okFrom_zero (l : List Int) (h1 : 1 ≤ l.length) (h2 : l.length ≤ 64) : okFrom l 0 = decide (IsTok l) := by
  unfold okFrom
  rw [List.drop_zero, Bool.eq_iff_iff, decide_eq_true_iff, List.all_eq_true]
  simp only [Bool.and_eq_true, decide_eq_true_eq]
  exact ⟨fun h => ⟨h1, h2, h⟩, fun h => h.2.2⟩
theorem is_ev (s : ByteArray) : Ev (fun k => token_Is.f k s) (decide (IsTok (bytesOf s))) := by
  have hn := bytesOf_length s
  unfold token_Is.f
  by_cases h1 : s.size < 1
  · rw [show decide (IsTok (bytesOf s)) = false from decide_eq_false (fun h => by have := h.1; omega)]
    refine Ev.if_t (by omega) ?_
    apply Ev.succ
    simp only [token_Is.j0]
    exact Ev.if_t (by trivial) (Ev.now _)
  · refine Ev.if_f (by omega) ?_
    by_cases h2 : s.size > 64
    · rw [show decide (IsTok (bytesOf s)) = false from decide_eq_false (fun h => by have := h.2.1; omega), show decide ((s.size : Int) > 64) = true from decide_eq_true (by omega)]
      apply Ev.succ
      simp only [token_Is.j0]
      exact Ev.if_t (by trivial) (Ev.now _)
    · rw [← okFrom_zero _ (by omega) (by omega), show decide ((s.size : Int) > 64) = false from decide_eq_false (by omega)]
      apply Ev.succ
      simp only [token_Is.j0]
      exact Ev.if_f (by decide) (is_loop s (by omega) s.size 0 (by omega))
def inFrom (l : List Int) (i : Nat) : Bool := (l.drop i).all inB
theorem refIs_loop (s : ByteArray) (h : s.size ≤ 64) : ∀ (d i : Nat), i + d = s.size → Ev (fun k => dragnetref07_Is.l0 k s (i : Int)) (inFrom (bytesOf s) i)
  | 0, i, hi => by
    apply Ev.succ
    simp only [dragnetref07_Is.l0]
    unfold inFrom
    rw [List.drop_of_length_le (by rw [bytesOf_length]; omega)]
    exact Ev.if_f (by omega) (Ev.now _)
  | d + 1, i, hi => by
    have hlt : i < (bytesOf s).length := by rw [bytesOf_length]; omega
    have hd : inFrom (bytesOf s) i = (inB (bytesOf s)[i] && inFrom (bytesOf s) (i + 1)) := by
      unfold inFrom; rw [List.drop_eq_getElem_cons hlt, List.all_cons]
    rw [hd]
    apply Ev.succ
    simp only [dragnetref07_Is.l0]
    rw [bt_get s i hlt]
    refine Ev.if_t (by omega) (Ev.if_t (by omega) (Ev.obind (refIn_eq _) ?_))
    cases inB (bytesOf s)[i] with
    | false => exact Ev.if_f (by decide) (Ev.now _)
    | true =>
      refine Ev.if_t rfl ?_
      rw [inc _ (by omega)]
      exact refIs_loop s h d (i + 1) (by omega)
theorem map_fix {l : List Int} : l.map lowB = l ↔ ∀ c ∈ l, lowB c = c := by
  constructor
  · intro h c hc
    obtain ⟨i, hi, rfl⟩ := List.getElem_of_mem hc
    have := List.getElem_map lowB (l := l) (i := i) (h := by rw [List.length_map]; exact hi)
    rw [← this]
    simp only [h]
  · intro h
    rw [List.map_congr_left h, List.map_id']
theorem refIs_ev (s : ByteArray) : Ev (fun k => dragnetref07_Is.f k s) (decide (IsTok (bytesOf s))) := by
  have hn := bytesOf_length s
  unfold dragnetref07_Is.f
  have hj : Ev (fun k => dragnetref07_Is.j0 k s true) false := by
    apply Ev.succ
    simp only [dragnetref07_Is.j0]
    exact Ev.if_t (by trivial) (Ev.now _)
  by_cases h1 : s.size < 1
  · rw [decide_eq_false (fun h => by have := h.1; omega)]
    exact Ev.if_t (by omega) hj
  · refine Ev.if_f (by omega) ?_
    by_cases h2 : s.size > 64
    · rw [decide_eq_false (fun h => by have := h.2.1; omega)]
      exact Ev.if_t (by omega) hj
    · refine Ev.if_f (by omega) (Ev.obind (refLower_eq s (by omega)) ?_)
      rw [toList_ne, bytesOf_nums (B8_low (B8_bytes s))]
      by_cases hm : (bytesOf s).map lowB = bytesOf s
      · rw [decide_eq_true hm]
        apply Ev.succ
        simp only [dragnetref07_Is.j0]
        refine Ev.if_f (by decide) ?_
        have e : decide (IsTok (bytesOf s)) = inFrom (bytesOf s) 0 := by
          unfold inFrom
          rw [List.drop_zero, Bool.eq_iff_iff, decide_eq_true_iff, List.all_eq_true]
          exact ⟨fun h c hc => (h.2.2 c hc).1, fun h => ⟨by omega, by omega, fun c hc => ⟨h c hc, map_fix.1 hm c hc⟩⟩⟩
        rw [e]
        exact refIs_loop s (by omega) s.size 0 (by omega)
      · rw [decide_eq_false hm, decide_eq_false (fun h => hm (map_fix.2 fun c hc => (h.2.2 c hc).2))]
        exact hj

/-! ### the fixed fact -/
theorem alive_cut : cutOf [71, 69, 84, 32, 47, 97] = [⟨0, strOfNums [103, 101, 116]⟩, ⟨1, strOfNums [97]⟩] := by
  simp [cutOf, cutGo, inB, lowB, tokOf]
theorem alive07 : Ev (fun k => dragnetlaw07_alive.f k) true := by
  unfold dragnetlaw07_alive.f
  refine Ev.obind (cut_eq (l := [71, 69, 84, 32, 47, 97]) (show ∀ x ∈ _, _ by decide) (by decide)) ?_
  rw [alive_cut]
  have h0 : rd_T31 [⟨0, strOfNums [103, 101, 116]⟩, ⟨1, strOfNums [97]⟩] 0 = ⟨0, strOfNums [103, 101, 116]⟩ := rfl
  have h1 : rd_T31 [⟨0, strOfNums [103, 101, 116]⟩, ⟨1, strOfNums [97]⟩] 1 = ⟨1, strOfNums [97]⟩ := rfl
  have e0 : (strOfNums [103, 101, 116]).toList = [103, 101, 116] := by rw [ByteArray.toList_eq]; rfl
  have e1 : (strOfNums [97]).toList = [97] := by rw [ByteArray.toList_eq]; rfl
  rw [h0, h1]
  dsimp only
  rw [e0, e1]
  refine Ev.if_t (by simp) (Ev.if_t (by simp) (Ev.if_t rfl (Ev.if_t (by simp) (Ev.if_t (by decide) ?_))))
  have g1 : decide (IsTok (bytesOf (⟨#[103, 101, 116]⟩ : ByteArray))) = true := by decide
  have g2 : decide (IsTok (bytesOf (⟨#[71, 101, 116]⟩ : ByteArray))) = false := by decide
  have i1 := is_ev (⟨#[103, 101, 116]⟩ : ByteArray)
  have i2 := is_ev (⟨#[71, 101, 116]⟩ : ByteArray)
  rw [g1] at i1
  rw [g2] at i2
  exact Ev.bind i1 (Ev.if_t rfl (Ev.bind i2 (Ev.now _)))
end Go.Proofs.YtlmegmjdjdmmgaaQ
