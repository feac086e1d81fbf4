-- Terms in plain words: sorted and each once, both ways.
import Derived.Test.YtlmegmjdjdmmgaaTok
import Derived.Sort.Walk0
import Derived.Sort.KeysCollected
namespace Go.Proofs.YtlmegmjdjdmmgaaQ
open Go.RowKit Go.Proofs.YtlmegmjdjdmmgaaW.PrintWords Go.Proofs.YtlmegmjdjdmmgaaW.PrintMore Go.Proofs.YtlmegmjdjdmmgaaW.PrintLast Go.Proofs.Ytlmegmjdjdmmgaa.P

abbrev Bs := List UInt8
theorem lt_of_le_ne {a b : Bs} (h : a ≤ b) (k : a ≠ b) : a < b := by
  rcases List.le_total a b with _ | h2
  · exact Std.lt_of_le_of_ne h k
  · exact absurd (List.le_antisymm h h2) k
abbrev Rising (l : List Bs) : Prop := l.Pairwise (· < ·)
theorem rising_ext : ∀ {a b : List Bs}, Rising a → Rising b → (∀ x, x ∈ a ↔ x ∈ b) → a = b
  | [], [], _, _, _ => rfl
  | [], y :: b, _, _, h => by have := (h y).2 List.mem_cons_self; simp at this
  | x :: a, [], _, _, h => by have := (h x).1 List.mem_cons_self; simp at this
  | x :: a, y :: b, ha, hb, h => by
    have ha' := List.pairwise_cons.1 ha
    have hb' := List.pairwise_cons.1 hb
    have hxy : x = y := by
      rcases List.mem_cons.1 ((h x).1 List.mem_cons_self) with e | hx
      · exact e
      · rcases List.mem_cons.1 ((h y).2 List.mem_cons_self) with e | hy
        · exact e.symm
        · exact absurd (List.lt_trans (ha'.1 y hy) (hb'.1 x hx)) (List.lt_irrefl x)
    subst hxy
    rw [rising_ext ha'.2 hb'.2 (fun z => ?_)]
    constructor
    · intro hz
      rcases List.mem_cons.1 ((h z).1 (List.mem_cons_of_mem _ hz)) with e | hz2
      · rw [e] at hz; exact absurd (ha'.1 x hz) (List.lt_irrefl x)
      · exact hz2
    · intro hz
      rcases List.mem_cons.1 ((h z).2 (List.mem_cons_of_mem _ hz)) with e | hz2
      · rw [e] at hz; exact absurd (hb'.1 x hz) (List.lt_irrefl x)
      · exact hz2

/-! ### slices.Compact of what is in order -/
theorem compactTo {zs : List Bs} (hs : zs.Pairwise (· ≤ ·)) : ∀ m, m ≤ zs.length → Rising (Lib.compactUpTo zs.toArray m) ∧ (∀ x, x ∈ Lib.compactUpTo zs.toArray m ↔ x ∈ zs.take m) := by
  intro m
  induction m with
  | zero => intro _; exact ⟨by simp [Lib.compactUpTo], fun x => by simp [Lib.compactUpTo]⟩
  | succ m ih =>
    intro hm
    have hlt : m < zs.length := by omega
    obtain ⟨h1, h2⟩ := ih (by omega)
    have hget : ∀ (j : Nat) (hj : j < zs.length), zs.toArray[j]! = zs[j] := fun j hj => by
      rw [getElem!_pos zs.toArray j (by simpa using hj)]; simp
    have htk : zs.take (m + 1) = zs.take m ++ [zs[m]] := List.take_succ_eq_append_getElem hlt
    have hle : ∀ x ∈ zs.take m, x ≤ zs[m] := by
      intro x hx
      have hp : (zs.take (m + 1)).Pairwise (· ≤ ·) := hs.sublist (List.take_sublist _ _)
      rw [htk, List.pairwise_append] at hp
      exact hp.2.2 x hx _ (List.mem_singleton.2 rfl)
    rw [Lib.compactUpTo_succ, hget m hlt, htk]
    by_cases hk : Lib.keeps zs.toArray m = true
    · rw [if_pos hk]
      have hnot : zs[m] ∉ zs.take m := by
        intro hin
        have hm0 : m ≠ 0 := by intro e; subst e; simp at hin
        unfold Lib.keeps at hk
        rw [decide_eq_true_iff] at hk
        rcases hk with h0 | hne
        · exact hm0 h0
        · rw [hget m hlt, hget (m - 1) (by omega)] at hne
          obtain ⟨i, hi, he⟩ := List.getElem_of_mem hin
          rw [List.length_take] at hi
          rw [List.getElem_take] at he
          have hp := List.pairwise_iff_getElem.1 hs
          have hl1 : zs[m - 1] ≤ zs[m] := hp (m - 1) m (by omega) hlt (by omega)
          have hl2 : zs[m] ≤ zs[m - 1] := by
            rw [← he]
            by_cases e : i = m - 1
            · subst e; exact List.le_refl _
            · exact hp i (m - 1) (by omega) (by omega) (by omega)
          exact hne (List.le_antisymm hl2 hl1)
      refine ⟨?_, fun x => by rw [List.mem_append, List.mem_append, h2]⟩
      unfold Rising
      rw [List.pairwise_append]
      refine ⟨h1, List.pairwise_singleton _ _, fun x hx y hy => ?_⟩
      rw [List.mem_singleton] at hy
      subst hy
      have hx' := (h2 x).1 hx
      exact lt_of_le_ne (hle x hx') (fun e => hnot (e ▸ hx'))
    · rw [if_neg hk, List.append_nil]
      refine ⟨h1, fun x => ?_⟩
      rw [h2, List.mem_append, List.mem_singleton]
      refine ⟨.inl, fun h => h.elim id fun e => ?_⟩
      have hm0 : 0 < m := by
        rcases Nat.eq_zero_or_pos m with e0 | h0
        · exact absurd (by rw [e0]; simp [Lib.keeps]) hk
        · exact h0
      have he : zs[m] = zs[m - 1] := by
        by_cases e0 : zs[m] = zs[m - 1]
        · exact e0
        · exact absurd (Lib.keeps_pos (by rw [hget m hlt, hget (m - 1) (by omega)]; exact e0)) hk
      rw [e, he]
      have : (zs.take m)[m - 1]'(by rw [List.length_take]; omega) = zs[m - 1] := List.getElem_take
      rw [← this]
      exact List.getElem_mem _
theorem compact_rising {zs : List Bs} (hs : zs.Pairwise (· ≤ ·)) : Rising (Lib.compact zs) ∧ ∀ x, x ∈ Lib.compact zs ↔ x ∈ zs := by
  have := compactTo hs zs.length (Nat.le_refl _)
  rw [List.take_length] at this
  exact this
theorem sort_le (zs : List Bs) : (zs.mergeSort fun x y => decide (x ≤ y)).Pairwise (· ≤ ·) := by
  have := List.pairwise_mergeSort (le := fun x y : Bs => decide (x ≤ y)) (fun a b c h k => decide_eq_true (List.le_trans (of_decide_eq_true h) (of_decide_eq_true k))) (fun a b => by
    rcases List.le_total a b with h | h
    · simp [h]
    · simp [h]) zs
  exact this.imp (fun h => of_decide_eq_true h)
theorem list_list (z : List Bs) : (z.map listBytes).map bytesList = z := by
  rw [List.map_map]
  have : bytesList ∘ listBytes = id := by funext b; rfl
  rw [this, List.map_id]
theorem bytes_bytes (l : List ByteArray) : (l.map bytesList).map listBytes = l := by
  rw [List.map_map]
  have : listBytes ∘ bytesList = id := by funext b; cases b; rfl
  rw [this, List.map_id]
theorem progTerms (ts : List ByteArray) : Rising ((compactS (sortS ts)).map bytesList) ∧ ∀ x, x ∈ (compactS (sortS ts)).map bytesList ↔ x ∈ ts.map bytesList := by
  unfold compactS sortS
  rw [list_list, list_list]
  obtain ⟨h1, h2⟩ := compact_rising (sort_le (ts.map bytesList))
  exact ⟨h1, fun x => by rw [h2, List.mem_mergeSort]⟩

/-! ### the reference's adding -/
def withGo (s : Bs) : List Bs → Bool → List Bs
  | [], put => if put = true then [] else [s]
  | x :: xs, put => (if put = true ∨ x < s then [] else [s]) ++ (if x = s then [] else [x]) ++ withGo s xs (put || !decide (x < s))
theorem withGo_put (s : Bs) : ∀ (xs : List Bs), (∀ x ∈ xs, s < x) → withGo s xs true = xs
  | [], _ => rfl
  | x :: xs, h => by
    have hx := h x List.mem_cons_self
    have hne : ¬ x = s := fun e => List.lt_irrefl s (by rw [e] at hx; exact hx)
    simp only [withGo, true_or, if_true, if_neg hne, Bool.true_or, List.nil_append]
    rw [withGo_put s xs (fun y hy => h y (List.mem_cons_of_mem _ hy))]
    rfl
theorem withGo_rising (s : Bs) : ∀ (xs : List Bs), Rising xs → Rising (withGo s xs false) ∧ ∀ x, x ∈ withGo s xs false ↔ x ∈ xs ∨ x = s
  | [], _ => by simp [withGo]
  | x :: xs, h => by
    have h' := List.pairwise_cons.1 h
    by_cases hlt : x < s
    · have hne : ¬ x = s := fun e => List.lt_irrefl s (by rw [e] at hlt; exact hlt)
      obtain ⟨i1, i2⟩ := withGo_rising s xs h'.2
      have e : withGo s (x :: xs) false = x :: withGo s xs false := by simp [withGo, hlt, hne]
      rw [e]
      refine ⟨List.pairwise_cons.2 ⟨fun y hy => ?_, i1⟩, fun y => ?_⟩
      · rcases (i2 y).1 hy with hy | hy
        · exact h'.1 y hy
        · rw [hy]; exact hlt
      · rw [List.mem_cons, i2, List.mem_cons]; exact or_assoc.symm
    · have hle : s ≤ x := List.not_lt.1 hlt
      by_cases he : x = s
      · have e : withGo s (x :: xs) false = s :: xs := by
          subst he
          have hg : withGo x (x :: xs) false = [x] ++ [] ++ withGo x xs true := by simp [withGo, hlt]
          rw [hg, withGo_put x xs h'.1]
          rfl
        rw [e]
        subst he
        exact ⟨h, fun y => ⟨.inl, fun k => k.elim id (fun e => by rw [e]; exact List.mem_cons_self)⟩⟩
      · have hsx : s < x := lt_of_le_ne hle (fun e => he e.symm)
        have e : withGo s (x :: xs) false = s :: x :: xs := by
          have hg : withGo s (x :: xs) false = [s] ++ [x] ++ withGo s xs true := by simp [withGo, hlt, he]
          rw [hg, withGo_put s xs (fun y hy => List.lt_trans hsx (h'.1 y hy))]
          rfl
        rw [e]
        refine ⟨List.pairwise_cons.2 ⟨fun y hy => ?_, h⟩, fun y => ?_⟩
        · rcases List.mem_cons.1 hy with rfl | hy
          · exact hsx
          · exact List.lt_trans hsx (h'.1 y hy)
        · rw [List.mem_cons]
          exact ⟨fun k => k.elim .inr .inl, fun k => k.elim .inr .inl⟩
def withS (l : List ByteArray) (s : ByteArray) : List ByteArray := (withGo (bytesList s) (l.map bytesList) false).map listBytes
def refTerms (acc : List ByteArray) (ts : List ByteArray) : List ByteArray := ts.foldl withS acc
theorem refTerms_rising : ∀ (ts acc : List ByteArray), Rising (acc.map bytesList) → Rising ((refTerms acc ts).map bytesList) ∧ ∀ x, x ∈ (refTerms acc ts).map bytesList ↔ x ∈ acc.map bytesList ∨ x ∈ ts.map bytesList
  | [], acc, h => ⟨h, fun x => by simp [refTerms]⟩
  | t :: ts, acc, h => by
    obtain ⟨h1, h2⟩ := withGo_rising (bytesList t) _ h
    have e : (withS acc t).map bytesList = withGo (bytesList t) (acc.map bytesList) false := by unfold withS; rw [list_list]
    obtain ⟨h3, h4⟩ := refTerms_rising ts (withS acc t) (by rw [e]; exact h1)
    refine ⟨h3, fun x => ?_⟩
    show x ∈ (refTerms (withS acc t) ts).map bytesList ↔ _
    rw [h4, e, h2, List.map_cons, List.mem_cons]
    exact or_assoc
theorem terms_same (ts : List ByteArray) : compactS (sortS ts) = refTerms [] ts := by
  obtain ⟨h1, h2⟩ := progTerms ts
  obtain ⟨h3, h4⟩ := refTerms_rising ts [] List.Pairwise.nil
  have e := rising_ext h1 h3 (fun x => by rw [h2, h4]; simp)
  rw [← bytes_bytes (compactS (sortS ts)), e, bytes_bytes]

/-! ### the loops -/
def termsOf : List S31 → List ByteArray
  | [] => []
  | t :: r => if t.f1.toList = [] then termsOf r else t.f1 :: termsOf r
theorem termsOf_drop (t : List S31) (i : Nat) (h : i < t.length) : termsOf (t.drop i) = if t[i].f1.toList = [] then termsOf (t.drop (i + 1)) else t[i].f1 :: termsOf (t.drop (i + 1)) := by
  rw [List.drop_eq_getElem_cons h]; rfl
theorem toks_loop (t : List S31) (ht : t.length ≤ 1000000) : ∀ (d i : Nat), i + d = t.length → ∀ x : List ByteArray, x.length ≤ i →
    Ev (fun k => token_Terms.l0 k x t (t.length : Int) (i : Int)) (compactS (sortS (x ++ termsOf (t.drop i))))
  | 0, i, hi, x, hx => by
    rw [List.drop_of_length_le (by omega)]
    apply Ev.succ
    simp only [token_Terms.l0, termsOf, List.append_nil]
    have h1 : slices_Sort_string_string.f x = some (sortS x) := by unfold slices_Sort_string_string.f; rw [if_pos (by omega)]
    have hl : (sortS x).length = x.length := by unfold sortS; rw [List.length_map, List.length_mergeSort, List.length_map]
    have h2 : slices_Compact_string_string.f (sortS x) = some (compactS (sortS x)) := by unfold slices_Compact_string_string.f; rw [if_pos (by omega)]
    exact Ev.if_f (by omega) (Ev.obind h1 (Ev.obind h2 (Ev.now _)))
  | d + 1, i, hi, x, hx => by
    have hlt : i < t.length := by omega
    rw [termsOf_drop t i hlt]
    apply Ev.succ
    simp only [token_Terms.l0]
    rw [rdT_nat t i hlt]
    refine Ev.if_t (by omega) (Ev.if_t (by omega) (Ev.if_t (by omega) ?_))
    rw [inc _ (by omega)]
    by_cases he : t[i].f1.toList = []
    · rw [if_pos he]
      exact Ev.if_t he (toks_loop t ht d (i + 1) (by omega) x (by omega))
    · rw [if_neg he]
      have := toks_loop t ht d (i + 1) (by omega) (x ++ [t[i].f1]) (by simp; omega)
      rw [List.append_assoc] at this
      exact Ev.if_f he (Ev.if_t (by omega) this)
theorem rdB_nat (l : List ByteArray) (i : Nat) (h : i < l.length) : rdOf ByteArray.empty l (i : Int) = l[i] := by
  unfold rdOf; simp [h]
theorem less_eq (a b : ByteArray) : Op.bytesLess a.toList b.toList = decide (bytesList a < bytesList b) := by
  rw [ByteArray.toList_eq, ByteArray.toList_eq, bytesLess_eq]; rfl
theorem tl_eq (a b : ByteArray) : (a.toList = b.toList) = (bytesList a = bytesList b) := by rw [ByteArray.toList_eq, ByteArray.toList_eq]; rfl
theorem lb (s : ByteArray) : listBytes (bytesList s) = s := by cases s; rfl
theorem bb_true {p d : Bool} (h : true = (!p && !d)) : p = false ∧ d = false := by cases p <;> cases d <;> simp_all
theorem bb_false {p d : Bool} (h : false = (!p && !d)) : (p = true ∨ d = true) ∧ (p || !d) = p := by cases p <;> cases d <;> simp_all
theorem with_loop (l : List ByteArray) (s : ByteArray) (hl : l.length ≤ 1000000) : ∀ (d i : Nat), i + d = l.length → ∀ (x : List ByteArray) (put : Bool), x.length ≤ 2 * i →
    Ev (fun k => dragnetref07_With.l0 k l s x put (i : Int)) (x ++ (withGo (bytesList s) ((l.drop i).map bytesList) put).map listBytes)
  | 0, i, hi, x, put, hx => by
    rw [List.drop_of_length_le (by omega)]
    apply Ev.succ
    simp only [dragnetref07_With.l0, List.map_nil, withGo]
    refine Ev.if_f (by omega) ?_
    cases put with
    | true => simp only [↓reduceIte, List.map_nil, List.append_nil]; exact Ev.now _
    | false => simp only [Bool.false_eq_true, ↓reduceIte, List.map_cons, List.map_nil, lb]; exact Ev.if_t (by omega) (Ev.now _)
  | d + 1, i, hi, x, put, hx => by
    have hlt : i < l.length := by omega
    have hr := rdB_nat l i hlt
    have hdr : (l.drop i).map bytesList = bytesList l[i] :: (l.drop (i + 1)).map bytesList := by rw [List.drop_eq_getElem_cons hlt, List.map_cons]
    rw [hdr]
    simp only [withGo]
    -- behind the test
    have hj : ∀ b : Bool, b = (!put && !decide (bytesList l[i] < bytesList s)) → Ev (fun k => dragnetref07_With.j1 k l s x put (i : Int) b) (x ++ (((if put = true ∨ bytesList l[i] < bytesList s then [] else [bytesList s]) ++ (if bytesList l[i] = bytesList s then [] else [bytesList l[i]]) ++ withGo (bytesList s) ((l.drop (i + 1)).map bytesList) (put || !decide (bytesList l[i] < bytesList s)))).map listBytes) := by
      intro b hb
      apply Ev.succ
      simp only [dragnetref07_With.j1]
      rw [hr, inc _ (by omega)]
      cases hb2 : b with
      | true =>
        rw [hb2] at hb
        obtain ⟨rfl, hd⟩ := bb_true hb
        have hn : ¬ bytesList l[i] < bytesList s := of_decide_eq_false hd
        rw [hd, if_neg (by simp [hn])]
        refine Ev.if_t rfl (Ev.if_t (by omega) (Ev.obind rfl (Ev.if_t (by omega) (Ev.if_t (by omega) ?_))))
        by_cases he : bytesList l[i] = bytesList s
        · rw [if_pos he]
          have := with_loop l s hl d (i + 1) (by omega) (x ++ [s]) true (by simp; omega)
          refine Ev.if_t (by rw [tl_eq]; exact he) ?_
          simpa [lb] using this
        · rw [if_neg he]
          have := with_loop l s hl d (i + 1) (by omega) (x ++ [s] ++ [l[i]]) true (by simp; omega)
          refine Ev.if_f (by rw [tl_eq]; exact he) (Ev.if_t (by simp; omega) ?_)
          simpa [lb] using this
      | false =>
        rw [hb2] at hb
        have hp : put = true ∨ bytesList l[i] < bytesList s := (bb_false hb).1.imp id of_decide_eq_true
        have hq : (put || !decide (bytesList l[i] < bytesList s)) = put := (bb_false hb).2
        rw [if_pos hp, hq]
        refine Ev.if_f (by decide) (Ev.if_t (by omega) (Ev.if_t (by omega) ?_))
        by_cases he : bytesList l[i] = bytesList s
        · rw [if_pos he]
          have := with_loop l s hl d (i + 1) (by omega) x put (by omega)
          refine Ev.if_t (by rw [tl_eq]; exact he) ?_
          simpa [lb] using this
        · rw [if_neg he]
          have := with_loop l s hl d (i + 1) (by omega) (x ++ [l[i]]) put (by simp; omega)
          refine Ev.if_f (by rw [tl_eq]; exact he) (Ev.if_t (by omega) ?_)
          simpa [lb] using this
    apply Ev.succ
    simp only [dragnetref07_With.l0]
    rw [hr]
    refine Ev.if_t (by omega) ?_
    cases put with
    | true => exact Ev.if_t rfl (hj false rfl)
    | false =>
      refine Ev.if_f (by decide) (Ev.if_t (by omega) ?_)
      rw [less_eq]
      exact hj _ (by simp)
theorem with_ev (l : List ByteArray) (s : ByteArray) (hl : l.length ≤ 1000000) : Ev (fun k => dragnetref07_With.f k l s) (withS l s) := by
  have := with_loop l s hl l.length 0 (by omega) [] false (by simp)
  rw [List.nil_append, List.drop_zero] at this
  exact this
theorem withGo_length (s : Bs) : ∀ (xs : List Bs) (put : Bool), (withGo s xs put).length ≤ xs.length + (if put = true then 0 else 1)
  | [], put => by cases put <;> simp [withGo]
  | x :: xs, put => by
    have ih := withGo_length s xs (put || !decide (x < s))
    simp only [withGo, List.length_append, List.length_cons]
    have e2 : (if x = s then [] else [x]).length ≤ 1 := by split <;> simp
    cases put with
    | true => simp at ih ⊢; omega
    | false =>
      by_cases h : x < s
      · simp [h] at ih ⊢; omega
      · simp [h] at ih ⊢; omega
theorem withS_length (l : List ByteArray) (s : ByteArray) : (withS l s).length ≤ l.length + 1 := by
  unfold withS
  have := withGo_length (bytesList s) (l.map bytesList) false
  simpa using this
theorem refTerms_loop (t : List S31) (ht : t.length ≤ 1000000) : ∀ (d i : Nat), i + d = t.length → ∀ x : List ByteArray, x.length ≤ i →
    Ev (fun k => dragnetref07_Terms.l0 k x t (i : Int)) (refTerms x (termsOf (t.drop i)))
  | 0, i, hi, x, hx => by
    rw [List.drop_of_length_le (by omega)]
    apply Ev.succ
    simp only [dragnetref07_Terms.l0, termsOf]
    exact Ev.if_f (by omega) (Ev.now _)
  | d + 1, i, hi, x, hx => by
    have hlt : i < t.length := by omega
    rw [termsOf_drop t i hlt]
    apply Ev.succ
    simp only [dragnetref07_Terms.l0]
    rw [rdT_nat t i hlt]
    refine Ev.if_t (by omega) (Ev.if_t (by omega) ?_)
    rw [inc _ (by omega)]
    by_cases he : t[i].f1.toList = []
    · rw [if_pos he]
      exact Ev.if_t he (refTerms_loop t ht d (i + 1) (by omega) x (by omega))
    · rw [if_neg he]
      have hw := withS_length x t[i].f1
      exact Ev.if_f he (Ev.bind (with_ev x _ (by omega)) (refTerms_loop t ht d (i + 1) (by omega) _ (by omega)))
theorem bsame_loop (a : List ByteArray) (h : a.length ≤ 9223372036854775800) : ∀ (d i : Nat), i + d = a.length → Ev (fun k => dragnetref06_Same.l0 k a a (i : Int)) true
  | 0, i, hi => by
    apply Ev.succ
    simp only [dragnetref06_Same.l0]
    exact Ev.if_f (by omega) (Ev.now _)
  | d + 1, i, hi => by
    apply Ev.succ
    simp only [dragnetref06_Same.l0]
    refine Ev.if_t (by omega) (Ev.if_t (by omega) (Ev.if_t (by omega) (Ev.if_t (by trivial) ?_)))
    rw [inc _ (by omega)]
    exact bsame_loop a h d (i + 1) (by omega)
theorem bsame_ev (a : List ByteArray) (h : a.length ≤ 9223372036854775800) : Ev (fun k => dragnetref06_Same.f k a a) true := by
  unfold dragnetref06_Same.f
  exact Ev.if_t rfl (bsame_loop a h a.length 0 (by omega))

/-! ### every text of a token is a term, or empty -/
def Runs (run : List Int) : Prop := 1 ≤ run.length ∧ ∀ c ∈ run, inB c = true ∧ lowB c = c
def Good (t : S31) : Prop := t.f1 = strOfNums [] ∨ ∃ r : List Int, B8 r ∧ IsTok r ∧ t.f1 = strOfNums r
theorem good_tok (acc : List S31) {run : List Int} (h8 : B8 run) (h : Runs run) : Good (tokOf acc run) := by
  unfold tokOf Good
  by_cases hl : run.length > 64
  · rw [if_pos hl]; exact .inl rfl
  · rw [if_neg hl]; exact .inr ⟨run, h8, ⟨h.1, by omega, h.2⟩, rfl⟩
theorem run_one {c : Int} (hc : 0 ≤ c ∧ c ≤ 255) (h : inB c = true) (run : List Int) (h8 : B8 run) (hr : ∀ x ∈ run, inB x = true ∧ lowB x = x) : B8 (run ++ [lowB c]) ∧ Runs (run ++ [lowB c]) := by
  refine ⟨h8.append (In.single (lowB_range hc).1 (lowB_range hc).2), by simp, fun x hx => ?_⟩
  rcases List.mem_append.1 hx with hx | hx
  · exact hr x hx
  · rw [List.mem_singleton] at hx
    rw [hx, inB_lowB, lowB_lowB]
    exact ⟨h, rfl⟩
theorem cutGo_good : ∀ (l : List Int) (st : Option (List Int)) (acc : List S31), B8 l → (∀ run, st = some run → B8 run ∧ Runs run) → (∀ t ∈ acc, Good t) → ∀ t ∈ cutGo l st acc, Good t
  | [], none, acc, _, _, ha => ha
  | [], some run, acc, _, hs, ha => fun t ht => by
    simp only [cutGo] at ht
    rcases List.mem_append.1 ht with h | h
    · exact ha t h
    · rw [List.mem_singleton] at h; rw [h]; exact good_tok acc (hs run rfl).1 (hs run rfl).2
  | c :: cs, none, acc, hB, hs, ha => by
    simp only [cutGo]
    split
    · rename_i hc
      have h1 := run_one hB.cons.1 hc [] (In.nil _) (fun x hx => by simp at hx)
      exact cutGo_good cs _ acc hB.cons.2 (fun run e => by injection e with e; subst e; exact h1) ha
    · exact cutGo_good cs _ acc hB.cons.2 (fun run e => by cases e) ha
  | c :: cs, some run, acc, hB, hs, ha => by
    simp only [cutGo]
    split
    · rename_i hc
      have h0 := hs run rfl
      have h1 := run_one hB.cons.1 hc run h0.1 h0.2.2
      exact cutGo_good cs _ acc hB.cons.2 (fun run' e => by injection e with e; subst e; exact h1) ha
    · refine cutGo_good cs _ _ hB.cons.2 (fun run' e => by cases e) (fun t ht => ?_)
      rcases List.mem_append.1 ht with h | h
      · exact ha t h
      · rw [List.mem_singleton] at h; rw [h]; exact good_tok acc (hs run rfl).1 (hs run rfl).2
theorem termsOf_tok : ∀ (t : List S31), (∀ x ∈ t, Good x) → ∀ s ∈ termsOf t, IsTok (bytesOf s)
  | [], _, s, hs => by simp [termsOf] at hs
  | x :: r, h, s, hs => by
    simp only [termsOf] at hs
    have hr := termsOf_tok r (fun y hy => h y (List.mem_cons_of_mem _ hy))
    by_cases he : x.f1.toList = []
    · rw [if_pos he] at hs; exact hr s hs
    · rw [if_neg he] at hs
      rcases List.mem_cons.1 hs with e | hs
      · rw [e]
        rcases h x List.mem_cons_self with h0 | ⟨r', h8, hk, e'⟩
        · exact absurd (by rw [h0, ByteArray.toList_eq]; rfl) he
        · rw [e', bytesOf_nums h8]; exact hk
      · exact hr s hs
end Go.Proofs.YtlmegmjdjdmmgaaQ
