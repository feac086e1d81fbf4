/- Words and proofs that BloomNever leans on; put together by wip/tools/shake.py. -/
import Derived.Test.YtiijfpalnbpfkaaZBloomNever7
import Derived.Test.YtiijfpalnbpfkaaZBloomNever8
import Derived.Test.YtiijfpalnbpfkaaZBloomNever9
import Derived.ArgAppend
import Derived.Below
import Derived.BigQuiet
import Derived.Deep.AppendLies
import Derived.Deep.CutBlock
import Derived.Deep.DeepCutAuto
import Derived.Deep.Draws
import Derived.Deep.LoopGhost
import Derived.Deep.OwnRows
import Derived.Deep.QuietTactic
import Derived.Deep.RegionHeld3
import Derived.Ground.NamesProg
import Derived.Handy
import Derived.KernelRfl
import Derived.Laws.BitsLemmas
import Derived.Laws.BytesArg
import Derived.Laws.Cover1
import Derived.Laws.IdiomCopy
import Derived.Laws.MakeOwn
import Derived.Laws.OwnMore
import Derived.Laws.Rows
import Derived.Laws.Slices
import Derived.Laws.StructEq
import Derived.Lib.AppendStr
import Derived.Lib.BitFns
import Derived.Lib.ConvBytes
import Derived.Lib.OwnBridge
import Derived.Lib.RowBridge
import Derived.Lib.Slices
import Derived.Lib.Small
import Derived.Lib.Strings
import Derived.Lib.Walk
import Derived.LoopIn
import Derived.LoopN
import Derived.LoopNIn
import Derived.Maps.AppendAt
import Derived.OrdersHeld
import Derived.OwnWalk
import Derived.OwnWalkIn
import Derived.RangeFuncBound
import Derived.RangeFuncBox
import Derived.RangeFuncCalls
import Derived.RangeFuncFrom
import Derived.RangeFuncLeaves
import Derived.RangeFuncNested
import Derived.RowKit
import Derived.RowKit3
import Derived.ScopeJumps
import Derived.Shelf.Abstract
import Derived.Shelf.Lay
import Derived.Shelf.Slices.CompactS
import Derived.Shelf.Slices.In.SortNone
import Derived.Shelf.Sort.Plain
import Derived.Sort.EveryDepth
import Derived.Sort.KeysCollected
import Derived.Sort.OwnSorted
import Derived.Sort.QuietIn
import Derived.Sort.Walk0
import Derived.Tactics
import Derived.TacticsInMore
import Derived.Test.YtiijfpalnbpfkaaChecked
import Derived.Test.YtiijfpalnbpfkaaProg
import Derived.WalkKit
import Derived.WalkMore
import Derived.WalkSpells
import Derived.WideLaws
section
namespace Go.Proofs.YtiijfpalnbpfkaaQ
open Go.RowKit Go.Proofs.YtiijfpalnbpfkaaW.PrintWords Go.Proofs.YtiijfpalnbpfkaaW.PrintMore Go.Proofs.YtiijfpalnbpfkaaW.PrintLast Go.Proofs.Ytiijfpalnbpfkaa.P
abbrev Bs := List UInt8
theorem lt_of_le_ne {a b : Bs} (h : a ≤ b) (k : a ≠ b) : a < b := by
 rcases List.le_total a b with _ | h2
 ·exact Std.lt_of_le_of_ne h k
 ·exact absurd (List.le_antisymm h h2) k
abbrev Rising (l : List Bs) : Prop := l.Pairwise (· < ·)
theorem rising_ext : ∀ {a b : List Bs}, Rising a → Rising b → (∀ x, x ∈ a ↔ x ∈ b) → a = b
 | [], [], _, _, _ => rfl
 | [], y :: b, _, _, h => by have := (h y).2 List.mem_cons_self; simp at this
 | x :: a, [], _, _, h => by have := (h x).1 List.mem_cons_self; simp at this
 | x :: a, y :: b, ha, hb, h => by
  have ha' := List.pairwise_cons.1 ha
  have hb' := List.pairwise_cons.1 hb
  have hxy : x = y := by
   rcases List.mem_cons.1 ((h x).1 List.mem_cons_self) with e | hx
   ·exact e
   ·rcases List.mem_cons.1 ((h y).2 List.mem_cons_self) with e | hy
    ·exact e.symm
    ·exact absurd (List.lt_trans (ha'.1 y hy) (hb'.1 x hx)) (List.lt_irrefl x)
  subst hxy
  rw [rising_ext ha'.2 hb'.2 (fun z => ?_)]
  constructor
  ·intro hz
   rcases List.mem_cons.1 ((h z).1 (List.mem_cons_of_mem _ hz)) with e | hz2
   ·rw [e] at hz; exact absurd (ha'.1 x hz) (List.lt_irrefl x)
   ·exact hz2
  ·intro hz
   rcases List.mem_cons.1 ((h z).2 (List.mem_cons_of_mem _ hz)) with e | hz2
   ·rw [e] at hz; exact absurd (hb'.1 x hz) (List.lt_irrefl x)
   ·exact hz2
theorem compactTo {zs : List Bs} (hs : zs.Pairwise (· ≤ ·)) : ∀ m, m ≤ zs.length → Rising (Lib.compactUpTo zs.toArray m) ∧ (∀ x, x ∈ Lib.compactUpTo zs.toArray m ↔ x ∈ zs.take m) := by
 intro m
 induction m with
 | zero => intro _; exact ⟨by simp [Lib.compactUpTo], fun x => by simp [Lib.compactUpTo]⟩
 | succ m ih =>
  intro hm
  have hlt : m < zs.length := by omega
  obtain ⟨h1, h2⟩ := ih (by omega)
  have hget : ∀ (j : Nat) (hj : j < zs.length), zs.toArray[j]! = zs[j] := fun j hj => by
   rw [getElem!_pos zs.toArray j (by simpa using hj)]; simp
  have htk : zs.take (m + 1) = zs.take m ++ [zs[m]] := List.take_succ_eq_append_getElem hlt
  have hle : ∀ x ∈ zs.take m, x ≤ zs[m] := by
   intro x hx
   have hp : (zs.take (m + 1)).Pairwise (· ≤ ·) := hs.sublist (List.take_sublist _ _)
   rw [htk, List.pairwise_append] at hp
   exact hp.2.2 x hx _ (List.mem_singleton.2 rfl)
  rw [Lib.compactUpTo_succ, hget m hlt, htk]
  by_cases hk : Lib.keeps zs.toArray m = true
  ·rw [if_pos hk]
   have hnot : zs[m] ∉ zs.take m := by
    intro hin
    have hm0 : m ≠ 0 := by intro e; subst e; simp at hin
    unfold Lib.keeps at hk
    rw [decide_eq_true_iff] at hk
    rcases hk with h0 | hne
    ·exact hm0 h0
    ·rw [hget m hlt, hget (m - 1) (by omega)] at hne
     obtain ⟨i, hi, he⟩ := List.getElem_of_mem hin
     rw [List.length_take] at hi
     rw [List.getElem_take] at he
     have hp := List.pairwise_iff_getElem.1 hs
     have hl1 : zs[m - 1] ≤ zs[m] := hp (m - 1) m (by omega) hlt (by omega)
     have hl2 : zs[m] ≤ zs[m - 1] := by
      rw [← he]
      by_cases e : i = m - 1
      ·subst e; exact List.le_refl _
      ·exact hp i (m - 1) (by omega) (by omega) (by omega)
     exact hne (List.le_antisymm hl2 hl1)
   refine ⟨?_, fun x => by rw [List.mem_append, List.mem_append, h2]⟩
   unfold Rising
   rw [List.pairwise_append]
   refine ⟨h1, List.pairwise_singleton _ _, fun x hx y hy => ?_⟩
   rw [List.mem_singleton] at hy
   subst hy
   have hx' := (h2 x).1 hx
   exact lt_of_le_ne (hle x hx') (fun e => hnot (e ▸ hx'))
  ·rw [if_neg hk, List.append_nil]
   refine ⟨h1, fun x => ?_⟩
   rw [h2, List.mem_append, List.mem_singleton]
   refine ⟨.inl, fun h => h.elim id fun e => ?_⟩
   have hm0 : 0 < m := by
    rcases Nat.eq_zero_or_pos m with e0 | h0
    ·exact absurd (by rw [e0]; simp [Lib.keeps]) hk
    ·exact h0
   have he : zs[m] = zs[m - 1] := by
    by_cases e0 : zs[m] = zs[m - 1]
    ·exact e0
    ·exact absurd (Lib.keeps_pos (by rw [hget m hlt, hget (m - 1) (by omega)]; exact e0)) hk
   rw [e, he]
   have : (zs.take m)[m - 1]'(by rw [List.length_take]; omega) = zs[m - 1] := List.getElem_take
   rw [← this]
   exact List.getElem_mem _
theorem compact_rising {zs : List Bs} (hs : zs.Pairwise (· ≤ ·)) : Rising (Lib.compact zs) ∧ ∀ x, x ∈ Lib.compact zs ↔ x ∈ zs := by
 have := compactTo hs zs.length (Nat.le_refl _)
 rw [List.take_length] at this
 exact this
theorem sort_le (zs : List Bs) : (zs.mergeSort fun x y => decide (x ≤ y)).Pairwise (· ≤ ·) := by
 have := List.pairwise_mergeSort (le := fun x y : Bs => decide (x ≤ y)) (fun a b c h k => decide_eq_true (List.le_trans (of_decide_eq_true h) (of_decide_eq_true k))) (fun a b => by
  rcases List.le_total a b with h | h
  ·simp [h]
  ·simp [h]) zs
 exact this.imp (fun h => of_decide_eq_true h)
theorem list_list (z : List Bs) : (z.map listBytes).map bytesList = z := by
 rw [List.map_map]
 have : bytesList ∘ listBytes = id := by funext b; rfl
 rw [this, List.map_id]
theorem bytes_bytes (l : List ByteArray) : (l.map bytesList).map listBytes = l := by
 rw [List.map_map]
 have : listBytes ∘ bytesList = id := by funext b; cases b; rfl
 rw [this, List.map_id]
theorem progTerms (ts : List ByteArray) : Rising ((compactS (sortS ts)).map bytesList) ∧ ∀ x, x ∈ (compactS (sortS ts)).map bytesList ↔ x ∈ ts.map bytesList := by
 unfold compactS sortS
 rw [list_list, list_list]
 obtain ⟨h1, h2⟩ := compact_rising (sort_le (ts.map bytesList))
 exact ⟨h1, fun x => by rw [h2, List.mem_mergeSort]⟩
def withGo (s : Bs) : List Bs → Bool → List Bs
 | [], put => if put = true then [] else [s]
 | x :: xs, put => (if put = true ∨ x < s then [] else [s]) ++ (if x = s then [] else [x]) ++ withGo s xs (put || !decide (x < s))
theorem withGo_put (s : Bs) : ∀ (xs : List Bs), (∀ x ∈ xs, s < x) → withGo s xs true = xs
 | [], _ => rfl
 | x :: xs, h => by
  have hx := h x List.mem_cons_self
  have hne : ¬ x = s := fun e => List.lt_irrefl s (by rw [e] at hx; exact hx)
  simp only [withGo, true_or, if_true, if_neg hne, Bool.true_or, List.nil_append]
  rw [withGo_put s xs (fun y hy => h y (List.mem_cons_of_mem _ hy))]
  rfl
theorem withGo_rising (s : Bs) : ∀ (xs : List Bs), Rising xs → Rising (withGo s xs false) ∧ ∀ x, x ∈ withGo s xs false ↔ x ∈ xs ∨ x = s
 | [], _ => by simp [withGo]
 | x :: xs, h => by
  have h' := List.pairwise_cons.1 h
  by_cases hlt : x < s
  ·have hne : ¬ x = s := fun e => List.lt_irrefl s (by rw [e] at hlt; exact hlt)
   obtain ⟨i1, i2⟩ := withGo_rising s xs h'.2
   have e : withGo s (x :: xs) false = x :: withGo s xs false := by simp [withGo, hlt, hne]
   rw [e]
   refine ⟨List.pairwise_cons.2 ⟨fun y hy => ?_, i1⟩, fun y => ?_⟩
   ·rcases (i2 y).1 hy with hy | hy
    ·exact h'.1 y hy
    ·rw [hy]; exact hlt
   ·rw [List.mem_cons, i2, List.mem_cons]; exact or_assoc.symm
  ·have hle : s ≤ x := List.not_lt.1 hlt
   by_cases he : x = s
   ·have e : withGo s (x :: xs) false = s :: xs := by
     subst he
     have hg : withGo x (x :: xs) false = [x] ++ [] ++ withGo x xs true := by simp [withGo, hlt]
     rw [hg, withGo_put x xs h'.1]
     rfl
    rw [e]
    subst he
    exact ⟨h, fun y => ⟨.inl, fun k => k.elim id (fun e => by rw [e]; exact List.mem_cons_self)⟩⟩
   ·have hsx : s < x := lt_of_le_ne hle (fun e => he e.symm)
    have e : withGo s (x :: xs) false = s :: x :: xs := by
     have hg : withGo s (x :: xs) false = [s] ++ [x] ++ withGo s xs true := by simp [withGo, hlt, he]
     rw [hg, withGo_put s xs (fun y hy => List.lt_trans hsx (h'.1 y hy))]
     rfl
    rw [e]
    refine ⟨List.pairwise_cons.2 ⟨fun y hy => ?_, h⟩, fun y => ?_⟩
    ·rcases List.mem_cons.1 hy with rfl | hy
     ·exact hsx
     ·exact List.lt_trans hsx (h'.1 y hy)
    ·rw [List.mem_cons]
     exact ⟨fun k => k.elim .inr .inl, fun k => k.elim .inr .inl⟩
def withS (l : List ByteArray) (s : ByteArray) : List ByteArray := (withGo (bytesList s) (l.map bytesList) false).map listBytes
def refTerms (acc : List ByteArray) (ts : List ByteArray) : List ByteArray := ts.foldl withS acc
theorem refTerms_rising : ∀ (ts acc : List ByteArray), Rising (acc.map bytesList) → Rising ((refTerms acc ts).map bytesList) ∧ ∀ x, x ∈ (refTerms acc ts).map bytesList ↔ x ∈ acc.map bytesList ∨ x ∈ ts.map bytesList
 | [], acc, h => ⟨h, fun x => by simp [refTerms]⟩
 | t :: ts, acc, h => by
  obtain ⟨h1, h2⟩ := withGo_rising (bytesList t) _ h
  have e : (withS acc t).map bytesList = withGo (bytesList t) (acc.map bytesList) false := by unfold withS; rw [list_list]
  obtain ⟨h3, h4⟩ := refTerms_rising ts (withS acc t) (by rw [e]; exact h1)
  refine ⟨h3, fun x => ?_⟩
  show x ∈ (refTerms (withS acc t) ts).map bytesList ↔ _
  rw [h4, e, h2, List.map_cons, List.mem_cons]
  exact or_assoc
theorem terms_same (ts : List ByteArray) : compactS (sortS ts) = refTerms [] ts := by
 obtain ⟨h1, h2⟩ := progTerms ts
 obtain ⟨h3, h4⟩ := refTerms_rising ts [] List.Pairwise.nil
 have e := rising_ext h1 h3 (fun x => by rw [h2, h4]; simp)
 rw [← bytes_bytes (compactS (sortS ts)), e, bytes_bytes]
theorem rdB_nat (l : List ByteArray) (i : Nat) (h : i < l.length) : rdOf ByteArray.empty l (i : Int) = l[i] := by
 unfold rdOf; simp [h]
theorem lb (s : ByteArray) : listBytes (bytesList s) = s := by cases s; rfl
theorem withGo_length (s : Bs) : ∀ (xs : List Bs) (put : Bool), (withGo s xs put).length ≤ xs.length + (if put = true then 0 else 1)
 | [], put => by cases put <;> simp [withGo]
 | x :: xs, put => by
  have ih := withGo_length s xs (put || !decide (x < s))
  simp only [withGo, List.length_append, List.length_cons]
  have e2 : (if x = s then [] else [x]).length ≤ 1 := by split <;> simp
  cases put with
  | true => simp at ih ⊢; omega
  | false =>
   by_cases h : x < s
   ·simp [h] at ih ⊢; omega
   ·simp [h] at ih ⊢; omega
theorem withS_length (l : List ByteArray) (s : ByteArray) : (withS l s).length ≤ l.length + 1 := by
 unfold withS
 have := withGo_length (bytesList s) (l.map bytesList) false
 simpa using this
theorem bsame_loop (a : List ByteArray) (h : a.length ≤ 9223372036854775800) : ∀ (d i : Nat), i + d = a.length → Ev (fun k => dragnetref06_Same.l0 k a a (i : Int)) true
 | 0, i, hi => by
  apply Ev.succ
  simp only [dragnetref06_Same.l0]
  exact Ev.if_f (by omega) (Ev.now _)
 | d + 1, i, hi => by
  apply Ev.succ
  simp only [dragnetref06_Same.l0]
  refine Ev.if_t (by omega) (Ev.if_t (by omega) (Ev.if_t (by omega) (Ev.if_t (by trivial) ?_)))
  rw [inc _ (by omega)]
  exact bsame_loop a h d (i + 1) (by omega)
theorem bsame_ev (a : List ByteArray) (h : a.length ≤ 9223372036854775800) : Ev (fun k => dragnetref06_Same.f k a a) true := by
 unfold dragnetref06_Same.f
 exact Ev.if_t rfl (bsame_loop a h a.length 0 (by omega))
end Go.Proofs.YtiijfpalnbpfkaaQ
end
section
namespace Go.Proofs.YtiijfpalnbpfkaaQ
open Go.RowKit Go.Proofs.YtiijfpalnbpfkaaW.PrintWords Go.Proofs.YtiijfpalnbpfkaaW.PrintMore Go.Proofs.YtiijfpalnbpfkaaW.PrintLast Go.Proofs.Ytiijfpalnbpfkaa.P
abbrev hugeS : Nat := 9223372036854775000
def hasOf (f : List Int) (s : ByteArray) : Bool := if f.length = 0 then false else (List.range 4).all (bloom_Has.hit f (hashOf s) (8 * f.length))
theorem has_ev {f : List Int} {s : ByteArray} (hf : f.length ≤ 140737488355328) (hs : s.size ≤ hugeS) : Ev (fun k => bloom_Has.f k f s) (hasOf f s) := by
 unfold bloom_Has.f hasOf
 by_cases h : f.length = 0
 ·rw [if_pos h]; exact Ev.if_t h (Ev.now _)
 ·rw [if_neg h]
  exact Ev.if_f h (Ev.if_t hf (Ev.bind (hash_ev s hs) (Ev.if_t (hashOf_range s).1 (Ev.now _))))
def putOf (f : List Int) (s : ByteArray) : List Int := bloom_Make.sets (hashOf s) (8 * f.length) f 4
def makeOf (l : List ByteArray) : List Int := l.foldl putOf (List.replicate ((10 * l.length + 7) / 8) 0)
theorem putOf_length (f : List Int) (s : ByteArray) : (putOf f s).length = f.length := bloom_Make.sets_length _ _ _ _
theorem foldl_put_length : ∀ (l : List ByteArray) (f : List Int), (l.foldl putOf f).length = f.length
 | [], _ => rfl
 | s :: l, f => by rw [List.foldl_cons, foldl_put_length l, putOf_length]
theorem makeOf_length (l : List ByteArray) : (makeOf l).length = (10 * l.length + 7) / 8 := by
 unfold makeOf
 rw [foldl_put_length, List.length_replicate]
theorem make_l0 (l : List ByteArray) (hl : ∀ s ∈ l, s.size ≤ hugeS) : ∀ (d i : Nat) (f : List Int), i + d = l.length → Ev (fun k => bloom_Make.l0 k l f i) ((l.drop i).foldl putOf f)
 | 0, i, f, hi => by
  apply Ev.succ
  simp only [bloom_Make.l0]
  rw [List.drop_eq_nil_of_le (by omega)]
  exact Ev.if_f (by omega) (Ev.now _)
 | d + 1, i, f, hi => by
  have hlt : i < l.length := by omega
  apply Ev.succ
  simp only [bloom_Make.l0]
  rw [rdB_nat l i hlt, List.drop_eq_getElem_cons hlt, List.foldl_cons]
  exact Ev.if_t hlt (Ev.bind (hash_ev _ (hl _ (List.getElem_mem hlt))) (Ev.if_t (hashOf_range _).1 (make_l0 l hl d (i + 1) _ (by omega))))
theorem make_ev {l : List ByteArray} (h : l.length ≤ 140737488355) (hl : ∀ s ∈ l, s.size ≤ hugeS) : Ev (fun k => bloom_Make.f k l) (makeOf l) := by
 unfold bloom_Make.f makeOf
 exact Ev.if_t h (make_l0 l hl l.length 0 _ (by omega))
def windows : List Int → List ByteArray
 | a :: b :: c :: t => strOfNums [a, b, c] :: windows (b :: c :: t)
 | _ => []
theorem windows_drop (l : List Int) (i : Nat) (h : i + 3 ≤ l.length) : windows (l.drop i) = strOfNums ((l.take (i + 3)).drop i) :: windows (l.drop (i + 1)) := by
 rw [List.drop_eq_getElem_cons (show i < l.length by omega), List.drop_eq_getElem_cons (show i + 1 < l.length by omega), List.drop_eq_getElem_cons (show i + 1 + 1 < l.length by omega)]
 have e : (l.take (i + 3)).drop i = [l[i], l[i + 1], l[i + 1 + 1]] := by
  apply List.ext_getElem
  ·simp; omega
  ·intro j h1 h2
   simp at h2
   match j, h2 with
   | 0, _ => simp
   | 1, _ => simp
   | 2, _ => simp
 rw [e]
 rfl
theorem windows_short (l : List Int) (h : l.length < 3) : windows l = [] := by
 match l, h with
 | [], _ => rfl
 | [_], _ => rfl
 | [_, _], _ => rfl
theorem windows_length : ∀ l : List Int, (windows l).length ≤ l.length
 | [] => by simp [windows]
 | [_] => by simp [windows]
 | [_, _] => by simp [windows]
 | a :: b :: c :: t => by
  have := windows_length (b :: c :: t)
  simp only [windows, List.length_cons] at this ⊢
  omega
theorem size_nums (l : List Int) : (strOfNums l).size = l.length := by
 simp [strOfNums, ByteArray.size]
theorem windows_size : ∀ (l : List Int), ∀ s ∈ windows l, s.size = 3
 | [], _, h => by cases h
 | [_], _, h => by cases h
 | [_, _], _, h => by cases h
 | a :: b :: c :: t, s, h => by
  rcases List.mem_cons.1 h with rfl | h
  ·rw [size_nums]; rfl
  ·exact windows_size (b :: c :: t) s h
theorem sortS_length (x : List ByteArray) : (sortS x).length = x.length := by unfold sortS; rw [List.length_map, List.length_mergeSort, List.length_map]
theorem gram_cut {l : List Int} (i : Nat) (h : i + 3 ≤ l.length) (hl : l.length ≤ 5000) : wrap64 ((i : Int) + 3) = ((i + 3 : Nat) : Int) := by rw [w64 (by omega) (by omega)]; omega
theorem grams_l0 (l : List Int) (hl : l.length ≤ 5000) (n : Nat) (hn : n = l.length - 2) : ∀ (d i : Nat), i + d = n → ∀ x : List ByteArray, x.length ≤ i →
  Ev (fun k => bloom_Grams.l0 k l x (n : Int) (i : Int)) (compactS (sortS (x ++ windows (l.drop i))))
 | 0, i, hi, x, hx => by
  have e : windows (l.drop i) = [] := windows_short _ (by rw [List.length_drop]; omega)
  rw [e, List.append_nil]
  apply Ev.succ
  simp only [bloom_Grams.l0]
  have h1 : slices_Sort_string_string.f x = some (sortS x) := by unfold slices_Sort_string_string.f; rw [if_pos (by omega)]
  have hs := sortS_length x
  have h2 : slices_Compact_string_string.f (sortS x) = some (compactS (sortS x)) := by unfold slices_Compact_string_string.f; rw [if_pos (by omega)]
  exact Ev.if_f (by omega) (Ev.obind h1 (Ev.obind h2 (Ev.now _)))
 | d + 1, i, hi, x, hx => by
  have hi3 : i + 3 ≤ l.length := by omega
  rw [windows_drop l i hi3]
  apply Ev.succ
  simp only [bloom_Grams.l0]
  rw [gram_cut i hi3 hl, inc i (by omega), Int.toNat_natCast, Int.toNat_natCast]
  have := grams_l0 l hl n hn d (i + 1) (by omega) (x ++ [strOfNums ((l.take (i + 3)).drop i)]) (by simp; omega)
  rw [List.append_assoc] at this
  exact Ev.if_t (by omega) (Ev.if_t (by omega) (Ev.if_t (by omega) (Ev.if_t (by omega) (Ev.if_t (by omega) this))))
def gramsOf (l : List Int) : List ByteArray := refTerms [] (windows l)
theorem grams_ev {l : List Int} (hl : l.length ≤ 5000) : Ev (fun k => bloom_Grams.f k l) (gramsOf l) := by
 unfold bloom_Grams.f
 have e : mx 0 (wrap64 ((wrap64 ((l.length : Int) - 3)) + 1)) = ((l.length - 2 : Nat) : Int) := by
  rw [w64 (x := (l.length : Int) - 3) (by omega) (by omega), w64 (by omega) (by omega)]
  unfold mx
  split <;> omega
 rw [e]
 have := grams_l0 l hl (l.length - 2) rfl (l.length - 2) 0 (by omega) [] (by simp)
 rw [List.nil_append, List.drop_zero, terms_same] at this
 exact this
theorem refTerms_cons (x : List ByteArray) (s : ByteArray) (t : List ByteArray) : refTerms x (s :: t) = refTerms (withS x s) t := rfl
theorem gramsOf_mem (l : List Int) (s : ByteArray) : s ∈ gramsOf l ↔ s ∈ windows l := by
 have h := (refTerms_rising (windows l) [] List.Pairwise.nil).2 (bytesList s)
 have e : ∀ L : List ByteArray, bytesList s ∈ L.map bytesList ↔ s ∈ L := fun L => by
  rw [List.mem_map]
  exact ⟨fun ⟨t, ht, h2⟩ => by rw [← lb s, ← h2, lb]; exact ht, fun h2 => ⟨s, h2, rfl⟩⟩
 rw [e, e, e] at h
 unfold gramsOf
 rw [h]
 simp
theorem refTerms_length : ∀ (t x : List ByteArray), (refTerms x t).length ≤ x.length + t.length
 | [], x => by simp [refTerms]
 | s :: t, x => by
  rw [refTerms_cons]
  have h1 := refTerms_length t (withS x s)
  have h2 := withS_length x s
  rw [List.length_cons]
  omega
theorem gramsOf_length (l : List Int) : (gramsOf l).length ≤ l.length := by
 have h1 := refTerms_length (windows l) []
 have h2 := windows_length l
 unfold gramsOf
 simp at h1
 omega
theorem gramsOf_size (l : List Int) : ∀ s ∈ gramsOf l, s.size ≤ hugeS := fun s hs => by
 rw [windows_size l s ((gramsOf_mem l s).1 hs)]
 decide
def mayOf (f : List Int) (s : ByteArray) : Bool := (gramsOf (bytesOf s)).all (hasOf f)
theorem may_l0 {f : List Int} (hf : f.length ≤ 140737488355328) (gs : List ByteArray) (hg : ∀ s ∈ gs, s.size ≤ hugeS) : ∀ (d i : Nat), i + d = gs.length → Ev (fun k => bloom_May.l0 k f gs i) ((gs.drop i).all (hasOf f))
 | 0, i, hi => by
  apply Ev.succ
  simp only [bloom_May.l0]
  rw [List.drop_eq_nil_of_le (by omega)]
  exact Ev.if_f (by omega) (Ev.now _)
 | d + 1, i, hi => by
  have hlt : i < gs.length := by omega
  apply Ev.succ
  simp only [bloom_May.l0]
  rw [rdB_nat gs i hlt, List.drop_eq_getElem_cons hlt, List.all_cons]
  refine Ev.if_t hlt (Ev.bind (has_ev hf (hg _ (List.getElem_mem hlt))) ?_)
  cases hasOf f gs[i] with
  | true => exact Ev.if_t rfl (by simpa using may_l0 hf gs hg d (i + 1) (by omega))
  | false => exact Ev.if_f (by decide) (Ev.now _)
theorem may_ev {f : List Int} {s : ByteArray} (hf : f.length ≤ 140737488355328) (hs : s.size ≤ 5000) : Ev (fun k => bloom_May.f k f s) (mayOf f s) := by
 have hbl : (bytesOf s).length ≤ 5000 := by rw [bytesOf_length]; exact hs
 have hg := gramsOf_length (bytesOf s)
 unfold bloom_May.f mayOf
 refine Ev.if_t (by omega) (Ev.bind (grams_ev hbl) (Ev.if_t (by omega) ?_))
 exact may_l0 hf _ (gramsOf_size _) _ 0 (Nat.zero_add _)
theorem ev_eq {α : Type} {g : Nat → Option α} {r s : α} (h : Ev g r) (e : r = s) : Ev g s := e ▸ h
theorem alive15 : Ev (fun k => dragnetlaw15_alive.f k) true := by
 unfold dragnetlaw15_alive.f
 have hsz : ∀ s ∈ ([(⟨#[97, 98, 99]⟩ : ByteArray), (⟨#[98, 99, 97]⟩ : ByteArray)] : List ByteArray), s.size ≤ hugeS := by decide
 refine Ev.bind (make_ev (by decide) hsz) ?_
 refine Ev.if_t (by rw [makeOf_length]; rfl) ?_
 refine Ev.bind (ev_eq (has_ev (by rw [makeOf_length]; decide) (by decide)) (s := true) (by decide +kernel)) (Ev.if_t rfl ?_)
 refine Ev.bind (ev_eq (has_ev (by decide) (by decide)) (s := false) rfl) (Ev.if_f (by decide) ?_)
 refine Ev.bind (ev_eq (may_ev (by decide) (by decide)) (s := true) (by decide +kernel)) (Ev.if_t rfl ?_)
 refine Ev.bind (ev_eq (may_ev (by decide) (by decide)) (s := false) (by decide +kernel)) (Ev.if_f (by decide) ?_)
 have hg : gramsOf [97, 98, 99, 97, 98] = [(⟨#[97, 98, 99]⟩ : ByteArray), (⟨#[98, 99, 97]⟩ : ByteArray), (⟨#[99, 97, 98]⟩ : ByteArray)] := by decide +kernel
 refine Ev.bind (ev_eq (grams_ev (by decide)) hg) (Ev.bind (bsame_ev _ (by decide)) (Ev.now _))
end Go.Proofs.YtiijfpalnbpfkaaQ
end
section
namespace Go.Proofs.YtiijfpalnbpfkaaQ
set_option linter.unusedVariables false
open Go.RowKit Go.Proofs.YtiijfpalnbpfkaaW.PrintWords Go.Proofs.YtiijfpalnbpfkaaW.PrintMore Go.Proofs.YtiijfpalnbpfkaaW.PrintLast Go.Proofs.Ytiijfpalnbpfkaa.P
def wideGo : Int → List ByteArray → Bool
 | n, [] => decide (n > 4000)
 | n, s :: t => if n ≤ 4000 then wideGo (n + mn (s.size : Int) 10000) t else true
theorem mn_range (a : Nat) : 0 ≤ mn (a : Int) 10000 ∧ mn (a : Int) 10000 ≤ 10000 ∧ (mn (a : Int) 10000 ≤ 4000 → a ≤ 4000) := by
 unfold mn
 split <;> omega
theorem wide_l0 (l : List ByteArray) (hl : l.length ≤ 9223372036854775000) : ∀ (d i : Nat) (n : Int), i + d = l.length → 0 ≤ n → n ≤ 9223372036854700000 → Ev (fun k => dragnetlaw15_wide.l0 k l n (i : Int)) (wideGo n (l.drop i))
 | 0, i, n, hi, _, _ => by
  apply Ev.succ
  simp only [dragnetlaw15_wide.l0]
  rw [List.drop_eq_nil_of_le (by omega)]
  exact Ev.if_f (by omega) (Ev.now _)
 | d + 1, i, n, hi, h0, h1 => by
  have hlt : i < l.length := by omega
  apply Ev.succ
  simp only [dragnetlaw15_wide.l0]
  rw [rdB_nat l i hlt, List.drop_eq_getElem_cons hlt, wideGo, inc i (by omega)]
  refine Ev.if_t (by omega) ?_
  by_cases h : n ≤ 4000
  ·have hr := mn_range l[i].size
   rw [if_pos h, w64 (by omega) (by omega)]
   exact Ev.if_t h (Ev.if_t (by omega) (wide_l0 l hl d (i + 1) _ (by omega) (by omega) (by omega)))
  ·rw [if_neg h]
   refine Ev.if_f h ?_
   rw [decide_eq_true (show n > 4000 by omega)]
   exact Ev.now _
theorem wide_ev (l : List ByteArray) (hl : l.length ≤ 8796093022208) : Ev (fun k => dragnetlaw15_wide.f k l) (wideGo l.length l) := by
 unfold dragnetlaw15_wide.f
 exact wide_l0 l (by omega) l.length 0 _ (by omega) (by omega) (by omega)
theorem wide_false : ∀ (l : List ByteArray) (n : Int), 0 ≤ n → wideGo n l = false → n ≤ 4000 ∧ ∀ s ∈ l, s.size ≤ 4000
 | [], n, _, h => by simp [wideGo] at h; exact ⟨h, fun _ hs => by cases hs⟩
 | s :: t, n, h0, h => by
  rw [wideGo] at h
  by_cases hn : n ≤ 4000
  ·rw [if_pos hn] at h
   have hr := mn_range s.size
   obtain ⟨h1, h2⟩ := wide_false t _ (by omega) h
   refine ⟨hn, fun x hx => ?_⟩
   rcases List.mem_cons.1 hx with rfl | hx
   ·exact hr.2.2 (by omega)
   ·exact h2 x hx
  ·rw [if_neg hn] at h
   cases h
abbrev mark := bloom_Make.mark
def marks (f : List Int) (qs : List Int) : List Int := qs.foldl mark f
theorem at_nat (q : Int) : bloom_at q = ((bloom_at q).toNat : Int) := by
 have := u64_nonneg (q.tdiv 8)
 unfold bloom_at
 omega
theorem set_oob {f : List Int} {i : Nat} (h : f.length ≤ i) (v : Int) : f.set i v = f := List.set_eq_of_length_le h
theorem mark_B8 {f : List Int} (h : B8 f) {q : Int} (h0 : 0 ≤ q) : B8 (mark f q) := by
 unfold mark bloom_Make.mark
 rw [at_nat q]
 simp only [Int.toNat_natCast]
 generalize (bloom_at q).toNat = i
 by_cases hi : i < f.length
 ·have hx := h _ (rd_mem (show (0 : Int) ≤ (i : Int) by omega) (show (i : Int) < (f.length : Int) by omega))
  obtain ⟨a, ha⟩ := Int.eq_ofNat_of_zero_le hx.1
  rw [ha, bit_two q h0, or_u8 a _ (by omega) (two8 _)]
  have := Nat.or_lt_two_pow (show a < 2 ^ 8 by omega) (two8 q.toNat)
  exact In.set h _ (by omega) (by omega)
 ·rw [set_oob (by omega)]
  exact h
theorem rd_set_eq {f : List Int} {i : Nat} (h : i < f.length) (v : Int) : rd (f.set i v) (i : Int) = v := by
 rw [rd_nat _ _ (by rw [List.length_set]; exact h), List.getElem_set_self]
theorem rd_set_ne {f : List Int} {i j : Nat} (h : i ≠ j) (v : Int) : rd (f.set i v) (j : Int) = rd f (j : Int) := by
 unfold rd
 simp [List.getElem?_set_ne h]
theorem marks_B8 : ∀ {qs : List Int} {f : List Int}, B8 f → (∀ q ∈ qs, 0 ≤ q) → B8 (marks f qs)
 | [], _, h, _ => h
 | q :: qs, f, h, hq => marks_B8 (qs := qs) (mark_B8 h (hq q List.mem_cons_self)) (fun x hx => hq x (List.mem_cons_of_mem _ hx))
theorem marks_cons (f : List Int) (q : Int) (qs : List Int) : marks f (q :: qs) = marks (mark f q) qs := rfl
def spots (s : ByteArray) (n : Nat) : List Int := [bloom_spot (hashOf s) (8 * n) 0, bloom_spot (hashOf s) (8 * n) 1, bloom_spot (hashOf s) (8 * n) 2, bloom_spot (hashOf s) (8 * n) 3]
theorem spots_nonneg (s : ByteArray) (n : Nat) : ∀ q ∈ spots s n, 0 ≤ q := by
 have : ∀ j, 0 ≤ bloom_spot (hashOf s) (8 * n) j := fun j => Int.tmod_nonneg _ (bloom_probe_nonneg _ (hashOf_range s).1 j)
 intro q hq
 simp only [spots, List.mem_cons, List.not_mem_nil, or_false] at hq
 rcases hq with rfl | rfl | rfl | rfl <;> exact this _
theorem putOf_marks (f : List Int) (s : ByteArray) : putOf f s = marks f (spots s f.length) := rfl
theorem putOf_B8 {f : List Int} (h : B8 f) (s : ByteArray) : B8 (putOf f s) := marks_B8 h (spots_nonneg _ _)
def lit (f : List Int) (q : Int) : Bool := (rd f (bloom_at q)).toNat.testBit (q.toNat % 8)
theorem lit_mark {f : List Int} (h : B8 f) {q r : Int} (hq : 0 ≤ q) (hr : 0 ≤ r) (hl : lit f q = true) : lit (mark f r) q = true := by
 unfold lit mark bloom_Make.mark at *
 rw [at_nat q] at hl ⊢
 rw [at_nat r]
 simp only [Int.toNat_natCast]
 generalize (bloom_at q).toNat = i at *
 generalize (bloom_at r).toNat = j
 by_cases e : j = i
 ·subst e
  by_cases hj : j < f.length
  ·rw [rd_set_eq hj]
   have hx := h _ (rd_mem (show (0 : Int) ≤ (j : Int) by omega) (show (j : Int) < (f.length : Int) by omega))
   obtain ⟨a, ha⟩ := Int.eq_ofNat_of_zero_le hx.1
   rw [ha] at hl ⊢
   rw [bit_two r hr, or_u8 a _ (by omega) (two8 _), Int.toNat_natCast, Nat.testBit_or]
   rw [Int.toNat_natCast] at hl
   rw [hl]
   rfl
  ·rw [set_oob (by omega)]
   exact hl
 ·rw [rd_set_ne e]
  exact hl
theorem lit_self {f : List Int} (h : B8 f) {q : Int} (hq : 0 ≤ q) (hi : bloom_at q < f.length) : lit (mark f q) q = true := by
 unfold lit mark bloom_Make.mark
 have h0 := at_nat q
 rw [h0] at hi ⊢
 simp only [Int.toNat_natCast]
 generalize (bloom_at q).toNat = i at *
 have hi' : i < f.length := by omega
 rw [rd_set_eq hi']
 have hx := h _ (rd_mem (show (0 : Int) ≤ (i : Int) by omega) hi)
 obtain ⟨a, ha⟩ := Int.eq_ofNat_of_zero_le hx.1
 rw [ha, bit_two q hq, or_u8 a _ (by omega) (two8 _), Int.toNat_natCast, Nat.testBit_or, Nat.testBit_two_pow]
 simp
theorem lit_marks : ∀ {qs : List Int} {f : List Int} {q : Int}, B8 f → (∀ x ∈ qs, 0 ≤ x) → 0 ≤ q → lit f q = true → lit (marks f qs) q = true
 | [], _, _, _, _, _, hl => hl
 | r :: qs, f, q, h, hx, hq, hl => lit_marks (qs := qs) (mark_B8 h (hx r List.mem_cons_self)) (fun x hx2 => hx x (List.mem_cons_of_mem _ hx2)) hq (lit_mark h hq (hx r List.mem_cons_self) hl)
theorem lit_in : ∀ {qs : List Int} {f : List Int} {q : Int}, B8 f → (∀ x ∈ qs, 0 ≤ x) → q ∈ qs → bloom_at q < f.length → lit (marks f qs) q = true
 | r :: qs, f, q, h, hx, hm, hi => by
  have hr := hx r List.mem_cons_self
  have hx' := fun x hx2 => hx x (List.mem_cons_of_mem r hx2)
  rw [marks_cons]
  rcases List.mem_cons.1 hm with rfl | hm
  ·exact lit_marks (mark_B8 h hr) hx' hr (lit_self h hr hi)
  ·exact lit_in (mark_B8 h hr) hx' hm (by rw [bloom_Make.mark_length]; exact hi)
theorem has_lit {f : List Int} (hB : B8 f) (hf : f.length ≤ 140737488355328) (hn : 0 < f.length) (s : ByteArray) : hasOf f s = true ↔ ∀ q ∈ spots s f.length, lit f q = true := by
 unfold hasOf
 rw [if_neg (by omega), List.all_eq_true]
 have key : ∀ j, bloom_Has.hit f (hashOf s) (8 * f.length) j = lit f (bloom_spot (hashOf s) (8 * f.length) j) := by
  intro j
  have hr := hashOf_range s
  have h0 := (bloom_range (hashOf s) (8 * f.length) hr.1 (by omega) j).1
  have hin := bloom_in (hashOf s) f.length hr.1 hn hf j
  have hx := hB _ (rd_mem hin.1 hin.2)
  unfold bloom_Has.hit lit
  rw [hit_eq hx h0, Bool.not_not]
 constructor
 ·intro h q hq
  simp only [spots, List.mem_cons, List.not_mem_nil, or_false] at hq
  rcases hq with rfl | rfl | rfl | rfl
  ·rw [← key]; exact h 0 (by decide)
  ·rw [← key]; exact h 1 (by decide)
  ·rw [← key]; exact h 2 (by decide)
  ·rw [← key]; exact h 3 (by decide)
 ·intro h j hj
  have hj4 := List.mem_range.1 hj
  rw [key]
  apply h
  match j, hj4 with
  | 0, _ => simp [spots]
  | 1, _ => simp [spots]
  | 2, _ => simp [spots]
  | 3, _ => simp [spots]
theorem has_foldl : ∀ {l : List ByteArray} {f : List Int} {s : ByteArray}, B8 f → f.length ≤ 140737488355328 → 0 < f.length → (s ∈ l ∨ hasOf f s = true) → hasOf (l.foldl putOf f) s = true
 | [], f, s, _, _, _, h => h.elim (fun h => by cases h) id
 | t :: l, f, s, hB, hf, hn, h => by
  have hlen := putOf_length f t
  rw [List.foldl_cons]
  refine has_foldl (putOf_B8 hB t) (by omega) (by omega) ?_
  have hold : hasOf f s = true → hasOf (putOf f t) s = true := fun h1 => by
   rw [has_lit (putOf_B8 hB t) (by omega) (by omega), hlen, putOf_marks]
   intro q hq
   exact lit_marks hB (spots_nonneg _ _) (spots_nonneg _ _ q hq) ((has_lit hB hf hn s).1 h1 q hq)
  rcases h with h | h
  ·rcases List.mem_cons.1 h with rfl | h
   ·right
    rw [has_lit (putOf_B8 hB s) (by omega) (by omega), hlen, putOf_marks]
    intro q hq
    refine lit_in hB (spots_nonneg _ _) hq ?_
    simp only [spots, List.mem_cons, List.not_mem_nil, or_false] at hq
    have := fun j => (bloom_in (hashOf s) f.length (hashOf_range s).1 hn hf j).2
    rcases hq with rfl | rfl | rfl | rfl
    ·exact this 0
    ·exact this 1
    ·exact this 2
    ·exact this 3
   ·exact .inl h
  ·exact .inr (hold h)
theorem has_make {l : List ByteArray} (hl : l.length ≤ 140737488355) {s : ByteArray} (h : s ∈ l) : hasOf (makeOf l) s = true := by
 have hn : 0 < l.length := List.length_pos_of_mem h
 exact has_foldl (In.replicate _ (by decide) (by decide)) (by simp; omega) (by simp; omega) (.inl h)
theorem windows_sub : ∀ {l : List Int} {a n : Nat}, ∀ s ∈ windows ((l.drop a).take n), s ∈ windows l := by
 have htake : ∀ (l : List Int) (n : Nat), ∀ s ∈ windows (l.take n), s ∈ windows l := by
  intro l
  induction l with
  | nil => intro n s hs; simp [windows] at hs
  | cons x l ih =>
   intro n s hs
   match n, l, ih, hs with
   | 0, _, _, hs => simp [windows] at hs
   | 1, _, _, hs => simp [windows] at hs
   | n + 2, [], _, hs => simp [windows] at hs
   | 2, y :: l, _, hs => simp [windows] at hs
   | n + 3, [y], _, hs => simp [windows] at hs
   | n + 3, y :: z :: l, ih, hs =>
    rw [List.take_succ_cons, List.take_succ_cons, List.take_succ_cons] at hs
    rw [windows] at hs ⊢
    rcases List.mem_cons.1 hs with rfl | hs
    ·exact List.mem_cons_self
    ·exact List.mem_cons_of_mem _ (ih (n + 2) s hs)
 have hdrop : ∀ (l : List Int) (a : Nat), ∀ s ∈ windows (l.drop a), s ∈ windows l := by
  intro l
  induction l with
  | nil => intro a s hs; simp [windows] at hs
  | cons x l ih =>
   intro a s hs
   cases a with
   | zero => exact hs
   | succ a =>
    rw [List.drop_succ_cons] at hs
    have h1 := ih a s hs
    match l, h1 with
    | [], h1 => simp [windows] at h1
    | [y], h1 => simp [windows] at h1
    | y :: z :: l, h1 => exact List.mem_cons_of_mem _ h1
 intro l a n s hs
 exact hdrop _ _ s (htake _ _ s hs)
theorem may_make {l : List Int} (hl : l.length ≤ 5000) {t : ByteArray} (a n : Nat) (ht : bytesOf t = (l.drop a).take n) : mayOf (makeOf (gramsOf l)) t = true := by
 unfold mayOf
 rw [List.all_eq_true]
 intro s hs
 have h1 := (gramsOf_mem _ s).1 hs
 rw [ht] at h1
 have hg := gramsOf_length l
 exact has_make (by omega) ((gramsOf_mem l s).2 (windows_sub s h1))
end Go.Proofs.YtiijfpalnbpfkaaQ
end
