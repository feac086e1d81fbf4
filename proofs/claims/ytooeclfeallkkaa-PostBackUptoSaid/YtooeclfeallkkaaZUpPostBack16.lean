/- Words and proofs that UpPostBack leans on; put together by wip/tools/shake.py. -/
import Derived.Test.YtooeclfeallkkaaZUpPostBack7
import Derived.Test.YtooeclfeallkkaaZUpPostBack13
import Derived.Test.YtooeclfeallkkaaZUpPostBack14
import Derived.Test.YtooeclfeallkkaaZUpPostBack15
section
namespace Go.Proofs.Ytooeclfeallkkaa.P
open Go.RowKit Go.Proofs.YtooeclfeallkkaaW.PrintWords Go.Proofs.YtooeclfeallkkaaW.PrintLast Go.Proofs.YtooeclfeallkkaaW.PrintMore
attribute [local go_sem] max2_int min2_int max_two min_two max_three min_three max_four min_four
set_option linter.unusedVariables false
set_option linter.unusedSimpArgs false
section
def qfind (l : List S37) (doc : Int) : Nat := l.findIdx fun p => decide (doc ≤ p.f0)
theorem qfind_in {l : List S37} {doc : Int} {i : Nat} (h : i = qfind l doc) (hi : i < l.length) : doc ≤ (l[i]'hi).f0 := by
 subst h
 have := List.findIdx_getElem (w := hi)
 simp at this
 exact this
theorem qseek1 (B : Nat) (d : Int) (A : Option Addr) (n c : Nat) (doc : Int) (w : World) (hB : w.cell? ⟨B, 0, none⟩ = some (.int .i64 doc)) :
  Calls Try.prog 37 #[.agg #[.int .i64 d, .slice A n c], .pointer (some ⟨B, 0, none⟩)] w fun e w' => e = .returned (.bool (decide (d ≥ doc))) ∧ Below w.heap.size w w' := by
 have hBa : ∀ o, (w.alloc o).cell? ⟨B, 0, none⟩ = some (.int .i64 doc) := fun o => (((Below.refl w.heap.size w).alloc (Nat.le_refl _) o).cell (p := ⟨B, 0, none⟩) (World.block_lt_of_cell? _ _ hB)).trans hB
 have hb : ∀ o, Below w.heap.size w (w.alloc o) := fun o => (Below.refl w.heap.size w).alloc (Nat.le_refl _) o
 have HBL := Aside0.mk hb
 clear hb
 go_enter Try.func37, Try.ntmps37
 go_wp2
 go_ret
 exact ⟨by simp, HBL.out _⟩
theorem qfind_lt {l : List S37} {doc : Int} {i : Nat} (hi : i < l.length) (h : ∀ j, j < i → (hj : j < l.length) → (l[j]'hj).f0 < doc) (hd : doc ≤ (l[i]'hi).f0) : qfind l doc = i := by
 unfold qfind
 rw [List.findIdx_eq hi]
 exact ⟨by simpa using hd, fun j hj => by simpa using h j hj (by omega)⟩
theorem qfind_no {l : List S37} {doc : Int} (h : ∀ j (hj : j < l.length), (l[j]'hj).f0 < doc) : qfind l doc = l.length := by
 unfold qfind
 apply List.findIdx_eq_length_of_false
 intro x hx
 obtain ⟨j, hj, rfl⟩ := List.mem_iff_getElem.1 hx
 simpa using h j hj
theorem qseek_inc {i : Nat} (h : i < 17592186044416) : wrap64 ((i : Int) + 1) = ((i + 1 : Nat) : Int) := by
 unfold wrap64
 omega
theorem qseek_at {l : List S37} {i j : Nat} {s : S37} {doc : Int} (hi : i < l.length) (hs : l[i]'hi = s) (hd : s.f0 < doc) (e : j = i) (hj : j < l.length) : (l[j]'hj).f0 < doc := by
 subst e
 rw [hs]
 exact hd
theorem qseek_meas {i n : Nat} (h : i < n) (hi : i < 17592186044416) : n - (intOf (Value.int IntKind.i64 (wrap64 ((i : Int) + 1)))).toNat < n - (intOf (Value.int IntKind.i64 (i : Int))).toNat := by
 rw [qseek_inc hi]
 show n - (((i + 1 : Nat) : Int)).toNat < n - ((i : Int)).toNat
 rw [Int.toNat_natCast, Int.toNat_natCast]
 omega
set_option maxRecDepth 100000 in
set_option maxHeartbeats 4000000 in
theorem qseek_index (B : Nat) (doc : Int) (A : Option Addr) (c : Nat) (l : List S37) (w : World) (hB : w.cell? ⟨B, 0, none⟩ = some (.int .i64 doc))
  (hg : Kd.C k37 w A l.length l) (hcs : l.length ≤ c) (hm : l.length ≤ 17592186044416) (r : Int) (hr : Aside0 (r = if qfind l doc < l.length then (qfind l doc : Int) else -1)) :
  Calls Try.prog 36 #[.slice A l.length c, .func (.func 37) #[] #[.pointer (some ⟨B, 0, none⟩)]] w fun e w' => e = .returned (.int .i64 r) ∧ Below w.heap.size w w' := by
 have HBx := Aside0.mk hB
 have HG := Aside0.mk hg
 have HM := Aside0.mk hm
 have HB := Aside0.mk (Below.refl w.heap.size w)
 clear hB hg hm
 have hu37 := Try.underlying37
 go_enter Try.func36, Try.ntmps36
 go_wp2
 go_loopw [8] (fun v8 wr => ∃ (i : Nat), v8 = .int .i64 (i : Int) ∧ Aside0 (∀ j, j < i → (hj : j < l.length) → (l[j]'hj).f0 < doc) ∧ Aside0 (i ≤ l.length) ∧ Aside0 (Below w.heap.size w wr)) (fun v8 _ => l.length - (intOf v8).toNat)
 case atStart => exact ⟨0, rfl, ⟨fun j hj => absurd hj (by omega)⟩, ⟨Nat.zero_le _⟩, HB⟩
 case round =>
  obtain ⟨i, rfl, HA, HI, HBr⟩ := hrel
  by_cases hlt : i < l.length
  rotate_left
  ·have g : decide ((i : Int) < (l.length : Int)) = false := decide_eq_false (by omega)
   go_wp2
   go_ret
   have e1 : qfind l doc = l.length := qfind_no (fun j hj => HA.out j (by omega) hj)
   exact ⟨(show Ending.returned (.int .i64 (-1)) = .returned (.int .i64 r) by rw [hr.out, e1, if_neg (by omega)]), HBr.out⟩
  have g : decide ((i : Int) < (l.length : Int)) = true := decide_eq_true (by omega)
  obtain ⟨ad, A1, c1, e, hx, hx1, _, _⟩ := at_T37 (Kd.C_below HG.out HBr.out) (i : Int) (by omega) (by omega)
  subst e
  rw [Int.toNat_natCast] at hx hx1
  obtain ⟨s, hs⟩ : ∃ s, rd_T37 l (i : Int) = s := ⟨_, rfl⟩
  have HS : Aside0 (l[i]'hlt = s) := ⟨by rw [← hs]; unfold rd_T37; rw [Int.toNat_natCast, List.getD_eq_getElem?_getD, List.getElem?_eq_getElem hlt]; rfl⟩
  rw [hs] at hx hx1
  clear hs
  have p : ((0 : Int) ≤ (i : Int)) = True := eq_true (by omega)
  have q : ((i : Int) < (l.length : Int)) = True := eq_true (by omega)
  have q' : (i < l.length) = True := eq_true hlt
  have hBr := Aside0.mk ((HBr.out.cell (World.block_lt_of_cell? w _ HBx.out)).trans HBx.out)
  by_cases hd : doc ≤ s.f0
  ·have HD := Aside0.mk hd
   clear hd
   go_wp2_with (first | (go_at_call 37; (with_reducible refine (qseek1 B s.f0 A1 s.f1.length c1 doc _ hBr.out).mono ?_); rintro e w' ⟨rfl, hb⟩; have HB2 := Aside0.mk hb; clear hb; rw [show decide (s.f0 ≥ doc) = true from decide_eq_true HD.out]))
   go_ret
   have e1 : qfind l doc = i := qfind_lt hlt HA.out (by rw [HS.out]; exact HD.out)
   exact ⟨(show Ending.returned (.int .i64 (i : Int)) = .returned (.int .i64 r) by rw [hr.out, e1, if_pos hlt]), HBr.out.trans (HB2.out.mono HBr.out.size)⟩
  ·have HD := Aside0.mk (Int.not_le.1 hd)
   clear hd
   have HAll : Aside0 (∀ j, j < i + 1 → (hj : j < l.length) → (l[j]'hj).f0 < doc) := ⟨fun j hj hjl => (Nat.lt_or_ge j i).elim (fun h1 => HA.out j h1 hjl) (fun h1 => qseek_at hlt HS.out HD.out (by omega) hjl)⟩
   go_wp2_with (first | (go_at_call 37; (with_reducible refine (qseek1 B s.f0 A1 s.f1.length c1 doc _ hBr.out).mono ?_); rintro e w' ⟨rfl, hb⟩; have HB2 := Aside0.mk hb; clear hb; rw [show decide (s.f0 ≥ doc) = false from decide_eq_false (Int.not_le.2 HD.out)]))
   go_roundw
   case measure => exact qseek_meas hlt (Nat.lt_of_lt_of_le hlt HM.out)
   case rel => exact ⟨i + 1, by rw [qseek_inc (by have := HM.out; omega)], HAll, ⟨hlt⟩, ⟨HBr.out.trans (HB2.out.mono HBr.out.size)⟩⟩
end
section
attribute [local go_sem] Oper.semAt_some
noncomputable def post_Seek.l0 (k : Nat) (doc : Int) : List QB → Option (Int × List Int × Int × Int)
 | [] => some (0, [], 0, 8)
 | x :: r => if x.1 = 0 then some (0, [], 0, 2) else if x.2.2.1 < doc then post_Seek.l0 k doc r else
   (post_unpack.f k x.1 x.2.1 x.2.2.1 x.2.2.2.1 x.2.2.2.2).bind fun u => if u.2 = false then some (0, [], 0, 2) else if u.1.length ≤ 1000000 then (if h : qfind u.1 doc < u.1.length then some ((u.1[qfind u.1 doc]'h).f0, (u.1[qfind u.1 doc]'h).f1, 1, 0) else none) else none
noncomputable def post_Seek.f (k : Nat) (b : List Int) (doc : Int) : Option (Int × List Int × Int × Int) :=
 (num_Take.f k b).bind fun t => (qblocks.f k b t.1 t.2.1 t.2.2).bind fun bl => post_Seek.l0 k doc bl
theorem post_Seek.mono_l (k : Nat) (doc : Int) : ∀ bl, LeO (post_Seek.l0 k doc bl) (post_Seek.l0 (k + 1) doc bl)
 | [] => LeO.refl _
 | _ :: r => by
  rw [post_Seek.l0, post_Seek.l0]
  exact LeO.ite (LeO.refl _) (LeO.ite (post_Seek.mono_l k doc r) (LeO.bind (post_unpack.mono _ _ _ _ _ _) fun _ => LeO.refl _))
theorem post_Seek.mono : ∀ a0 a1 k, LeO (post_Seek.f k a0 a1) (post_Seek.f (k + 1) a0 a1) := by
 intro a0 a1 k
 unfold post_Seek.f
 exact LeO.bind (num_Take.mono _ _) fun _ => LeO.bind (qblocks.mono _ _ _ _ _) fun _ => post_Seek.mono_l _ _ _
def post_Seek.Held (k : Nat) (doc : Int) (bl : List QB) (r : Int × List Int × Int × Int) (w1 : World) (pre : List QX) (W : World) : Prop :=
 Aside0 (pre.map (·.1) = bl.take pre.length → post_Seek.l0 k doc (bl.drop pre.length) = some r) ∧ Below w1.heap.size w1 W
theorem post_Seek.held_own (k : Nat) (doc : Int) (bl : List QB) (r : Int × List Int × Int × Int) (w1 : World) (B0 : Nat) (h : w1.heap.size ≤ B0) : OwnFrom B0 (post_Seek.Held k doc bl r w1) := by
 refine OwnFrom.and (Own.from ?_ _) (ownFrom_below (Nat.le_refl _) h)
 rintro s X Y row hp hg hrow
 exact hp
def post_Seek.End (r : Int × List Int × Int × Int) (w : World) (c : Code) (_pre : List QX) (W : World) : Prop :=
 (∃ v : Value, Aside0 (c = .ret) ∧ W.heap[w.heap.size + 1]? = some (.cells #[.int .i64 r.1, v] 37 (0, 0)) ∧ Kd.R (Kd.int .i64) 3 W (w.heap.size + 4) (fun _ => True) v r.2.1 ∧ Boxed W (w.heap.size + 2) 3 (.int .i64 r.2.2.1) ∧ Boxed W (w.heap.size + 3) 28 (.int .i64 r.2.2.2)) ∧ Below w.heap.size w W
theorem post_Seek.end_own (r : Int × List Int × Int × Int) (w : World) (c : Code) (B0 : Nat) (h : w.heap.size ≤ B0) : OwnFrom B0 (post_Seek.End r w c) := by
 refine OwnFrom.and (Own.from ?_ _) (ownFrom_below (Nat.le_refl _) h)
 rintro s X Y row ⟨v, hp, hb, hR, h2, h3⟩ hg hrow
 refine ⟨v, hp, (hg.block _ (Array.getElem?_eq_some_iff.1 hb).1 ?_).trans hb, qR_own hR hg hrow, boxed_own _ 3 (fun _ => .int .i64 r.2.2.1) s X Y row h2 hg hrow, boxed_own _ 28 (fun _ => .int .i64 r.2.2.2) s X Y row h3 hg hrow⟩
 intro e
 obtain ⟨o, ho, hn⟩ := hrow _ e.symm
 rw [hb] at ho
 cases ho
 cases hn
theorem qseek_elem {W : World} {b c : Nat} {A : Option Addr} {ok : Nat → Prop} {xs : List S37} (h : Kd.R k37 37 W b ok (.slice A xs.length c) xs) (i : Nat) (hi : i < xs.length) (s : S37) (hs : xs[i]'hi = s) :
  ∃ ad A1 c1, A = some ad ∧ W.cell? (ad.add (i * 2)) = some (.int .i64 s.f0) ∧ W.cell? ⟨(ad.add (i * 2)).block, (ad.add (i * 2)).off + 1, none⟩ = some (.slice A1 s.f1.length c1) ∧ Aside0 (Kd.R (Kd.int .i64) 3 W b ok (.slice A1 s.f1.length c1) s.f1) := by
 obtain ⟨g, cap, e, _⟩ := Kd.R_form h (by omega)
 injection e with e1 e2 e3
 subst e1
 subst e3
 obtain ⟨cs, hl, hM, hc, _⟩ := Kd.R_elem h z37 (i : Int) (by omega) (by omega)
 rw [Int.toNat_natCast, List.getD_eq_getElem?_getD, List.getElem?_eq_getElem hi, hs, Option.getD_some] at hM
 rw [Int.toNat_natCast] at hc
 obtain ⟨v1, rfl, hR⟩ := k37_openM hM
 obtain ⟨A1, c1, rfl⟩ := Kd.R_slice hR
 refine ⟨_, A1, c1, rfl, ?_, ?_, ⟨Kd.R_mono hR (fun k hk => hk.1)⟩⟩
 ·rw [add_plain]
  exact hc 0 _ rfl
 ·rw [add_plain]
  exact hc 1 _ rfl
theorem qseek_stores {W : World} {R : Nat} {c0 c1 q e : Value} (hP : W.heap[R + 1]? = some (.cells #[c0, c1] 37 (0, 0))) (hQ : Boxed W (R + 2) 3 q) (hE : Boxed W (R + 3) 28 e) (u0 u1 u2 u3 : Value) :
  (W.cell? ⟨R + 1, 0, none⟩ = some c0 ∧ W.frozen? ⟨R + 1, 0, none⟩ = false ∧ (W.setCell ⟨R + 1, 0, none⟩ u0).cell? ⟨R + 1, 1, none⟩ = some c1 ∧ (W.setCell ⟨R + 1, 0, none⟩ u0).frozen? ⟨R + 1, 1, none⟩ = false
   ∧ ((W.setCell ⟨R + 1, 0, none⟩ u0).setCell ⟨R + 1, 1, none⟩ u1).cell? ⟨R + 1 + 1, 0, none⟩ = some q ∧ ((W.setCell ⟨R + 1, 0, none⟩ u0).setCell ⟨R + 1, 1, none⟩ u1).frozen? ⟨R + 1 + 1, 0, none⟩ = false
   ∧ (((W.setCell ⟨R + 1, 0, none⟩ u0).setCell ⟨R + 1, 1, none⟩ u1).setCell ⟨R + 1 + 1, 0, none⟩ u2).cell? ⟨R + 1 + 1 + 1, 0, none⟩ = some e ∧ (((W.setCell ⟨R + 1, 0, none⟩ u0).setCell ⟨R + 1, 1, none⟩ u1).setCell ⟨R + 1 + 1, 0, none⟩ u2).frozen? ⟨R + 1 + 1 + 1, 0, none⟩ = false)
  ∧ ∃ W', W' = (((W.setCell ⟨R + 1, 0, none⟩ u0).setCell ⟨R + 1, 1, none⟩ u1).setCell ⟨R + 1 + 1, 0, none⟩ u2).setCell ⟨R + 1 + 1 + 1, 0, none⟩ u3
   ∧ W'.heap[R + 1]? = some (.cells #[u0, u1] 37 (0, 0)) ∧ Boxed W' (R + 2) 3 u2 ∧ Boxed W' (R + 3) 28 u3 ∧ KeepsOthers W W' ∧ (∀ k, k ≠ R + 1 → k ≠ R + 2 → k ≠ R + 3 → W'.heap[k]? = W.heap[k]?) ∧ (∀ b, b ≤ R → ∀ w, Below b w W → Below b w W') := by
 have p1 : (W.setCell ⟨R + 1, 0, none⟩ u0).heap[R + 1]? = some (.cells #[u0, c1] 37 (0, 0)) := blk_set hP 0 u0
 have p2 : ((W.setCell ⟨R + 1, 0, none⟩ u0).setCell ⟨R + 1, 1, none⟩ u1).heap[R + 1]? = some (.cells #[u0, u1] 37 (0, 0)) := blk_set p1 1 u1
 have q2 : Boxed ((W.setCell ⟨R + 1, 0, none⟩ u0).setCell ⟨R + 1, 1, none⟩ u1) (R + 1 + 1) 3 q := blk_far (blk_far hQ (p := ⟨R + 1, 0, none⟩) (by simp) u0) (p := ⟨R + 1, 1, none⟩) (by simp) u1
 have e3 : Boxed (((W.setCell ⟨R + 1, 0, none⟩ u0).setCell ⟨R + 1, 1, none⟩ u1).setCell ⟨R + 1 + 1, 0, none⟩ u2) (R + 1 + 1 + 1) 28 e := blk_far (blk_far (blk_far hE (p := ⟨R + 1, 0, none⟩) (by simp) u0) (p := ⟨R + 1, 1, none⟩) (by simp) u1) (p := ⟨R + 1 + 1, 0, none⟩) (by simp) u2
 have p3 := (Below.heap_setCell ((W.setCell ⟨R + 1, 0, none⟩ u0).setCell ⟨R + 1, 1, none⟩ u1) ⟨R + 1 + 1, 0, none⟩ u2 (R + 1) (by simp)).trans p2
 have p4 := (Below.heap_setCell (((W.setCell ⟨R + 1, 0, none⟩ u0).setCell ⟨R + 1, 1, none⟩ u1).setCell ⟨R + 1 + 1, 0, none⟩ u2) ⟨R + 1 + 1 + 1, 0, none⟩ u3 (R + 1) (by simp)).trans p3
 refine ⟨⟨(blk_cell hP 0).trans rfl, blk_frozen hP 0, (blk_cell p1 1).trans rfl, blk_frozen p1 1, q2.cell, q2.frozen, e3.cell, e3.frozen⟩, _, rfl, p4, (q2.set u2).other (show R + 2 ≠ R + 3 by omega) u3, e3.set u3, ((KeepsOthers.setCell _ _ _).trans (KeepsOthers.setCell _ _ _)).trans ((KeepsOthers.setCell _ _ _).trans (KeepsOthers.setCell _ _ _)), fun k h1 h2 h3 => ?_, fun b hb w hw => ?_⟩
 ·rw [Below.heap_setCell _ _ _ _ (by simpa using h3), Below.heap_setCell _ _ _ _ (by simpa using h2), Below.heap_setCell _ _ _ _ (by simpa using h1), Below.heap_setCell _ _ _ _ (by simpa using h1)]
 ·exact (((hw.setCell (p := ⟨R + 1, 0, none⟩) (by simp; omega) u0).setCell (p := ⟨R + 1, 1, none⟩) (by simp; omega) u1).setCell (p := ⟨R + 1 + 1, 0, none⟩) (by simp; omega) u2).setCell (p := ⟨R + 1 + 1 + 1, 0, none⟩) (by simp; omega) u3
set_option maxRecDepth 100000 in
set_option maxHeartbeats 8000000 in
theorem post_Seek.calls (k : Nat) (A0 : Option Addr) (c0 : Nat) (l0 : List Int) (a1 : Int) (r1 : Int) (r2 : List Int) (r3 : Int) (r4 : Int) (w : World) (hr0 : Kd.C (Kd.int .u8) w A0 l0.length l0) (hc0 : l0.length ≤ c0) (h : post_Seek.f k l0 a1 = some (r1, r2, r3, r4)) :
    Calls Try.prog 19 #[.slice A0 l0.length c0, .int .i64 a1] w fun e w' => ∃ v1_ : Value, e = .returned (.tuple #[.agg #[.int .i64 r1, v1_], .int .i64 r3, .int .i64 r4]) ∧ Kd.R (Kd.int .i64) 3 w' w.heap.size (fun _ => True) v1_ r2 ∧ Below w.heap.size w w' := by
  unfold post_Seek.f at h
  obtain ⟨⟨t1, t2, t3⟩, ht, h⟩ := Option.bind_eq_some_iff.1 h
  obtain ⟨bl, hbl, h⟩ := Option.bind_eq_some_iff.1 h
  dsimp only at hbl h
  have HR0 := Aside0.mk hr0
  have HC0 := Aside0.mk hc0
  have HT := Aside0.mk ht
  have HBL := Aside0.mk hbl
  have HH := Aside0.mk h
  clear hr0 hc0 ht hbl h
  have hu37 := Try.underlying37
  refine (callsIn_wide (n := 9)).1 ?_
  refine callsIn_of_wp_marks Try.func19 rfl trivial ?_ rfl
  simp only [Try.ntmps19, List.size_toArray, List.length_cons, List.length_nil, Nat.reduceAdd, Nat.reduceSub, Array.replicate_succ, Array.replicate_zero, List.push_toArray, List.append_toArray, List.nil_append, List.cons_append]
  gi_wp2
  refine wpIn_wide.2 (wp_scope_straight ((wpIn_wide (n := 9)).1 ?_))
  gi_wp2_with (first | (refine ⟨trivial, ?_⟩; gi_at_call 34; (with_reducible refine (qblocks_in k A0 c0 l0 t1 t2 t3 _ ?side1 HC0.out HT.out).mono ?_); (case side1 => exact Kd.cA_ (Kd.cA_ (Kd.cA_ (Kd.cA_ HR0.out _) _) _) _); rintro e w1 ⟨rfl, hs1, hB1, b0, b1, b2, b3⟩; have HS1 := Aside0.mk hs1; have HB1 := Aside0.mk hB1; have B0 := Aside0.mk b0; have B1 := Aside0.mk b1; have B2 := Aside0.mk b2; have B3 := Aside0.mk b3; clear hs1 hB1 b0 b1 b2 b3) | fail)
  refine wpIn_label ?_
  gi_wp2
  have hs1 : Aside0 (w1.heap.size = w.heap.size + 8) := ⟨by rw [HS1.out]; simp⟩
  have hbw1 : Aside0 (Below w.heap.size w w1) := ⟨below_step (pbA_ (pbA_ (pbA_ (pbA_ (Below.refl _ _) _) _) _) _) HB1.out⟩
  have hC1 : Kd.C (Kd.int .u8) w1 A0 l0.length l0 := Kd.C_below HR0.out hbw1.out
  have hd0 : Boxed w1 w.heap.size 3 (.int .i64 a1) := (HB1.out.block _ (by simp; omega)).trans ((((Boxed.new w _ _).alloc _).alloc _).alloc _)
  have hp0 : w1.heap[w.heap.size + 1]? = some (.cells #[.int .i64 0, .slice none 0 0] 37 (0, 0)) := (HB1.out.block _ (by simp)).trans (by
    have h_ := blk_new (w.alloc (.cells #[.int .i64 a1] 3)) (.cells #[.int .i64 0, .slice none 0 0] 37 (0, 0))
    rw [World.size_alloc] at h_
    exact blk_alloc (blk_alloc h_ _) _)
  have hq0 : Boxed w1 (w.heap.size + 2) 3 (.int .i64 0) := (HB1.out.block _ (by simp)).trans (by
    have h_ := (Boxed.new ((w.alloc (.cells #[.int .i64 a1] 3)).alloc (.cells #[.int .i64 0, .slice none 0 0] 37 (0, 0))) 3 (.int .i64 0)).alloc (.cells #[.int .i64 0] 28)
    rw [World.size_alloc, World.size_alloc] at h_
    exact h_)
  have he0 : Boxed w1 (w.heap.size + 3) 28 (.int .i64 0) := (HB1.out.block _ (by simp)).trans (by
    have h_ := Boxed.new (((w.alloc (.cells #[.int .i64 a1] 3)).alloc (.cells #[.int .i64 0, .slice none 0 0] 37 (0, 0))).alloc (.cells #[.int .i64 0] 3)) 28 (.int .i64 0)
    rw [World.size_alloc, World.size_alloc, World.size_alloc] at h_
    exact h_)
  have HD0 := Aside0.mk hd0
  have HP0 := Aside0.mk hp0
  have HQ0 := Aside0.mk hq0
  have HE0 := Aside0.mk he0
  clear hd0 hp0 hq0 he0
  refine wpIn_rangeFunc_told (F := Fence.wide) (β := Nat) rfl (by decide) (gf := 56) rfl trivial (enters_of Try.func56 (by kernel_rfl) rfl)
    (qblocks1_seq k A0 c0 l0 t1 t2 t3 bl (w.heap.size + 1 + 1 + 1 + 1) w1 hC1 HC0.out (by have := hs1.out; omega) (by simpa using B0.out) (by simpa using B1.out) (by simpa using B2.out) (by simpa using B3.out) HBL.out) (fun h k => Below.trans h k) (fun W l o o' hl hh hc hw => belowK_b (w := w1) (Nat.le_refl _) W l o o' hl hh hc hw) (Below.refl _ _) (fun _ => rfl)
    (post_Seek.Held k a1 bl (r1, r2, r3, r4) w1) (post_Seek.End (r1, r2, r3, r4) w) (post_Seek.held_own k a1 bl _ w1 _ (Nat.le_refl _)) (fun c => post_Seek.end_own _ w c _ (by have := hs1.out; omega))
    ⟨⟨fun _ => HH.out⟩, Below.refl _ _⟩
    (fun x B a' => a' = { tmps := #[Value.slice A0 l0.length c0, Value.int IntKind.i64 a1, undef, Value.pointer (some { block := w.heap.size, off := 0 }), Value.pointer (some { block := w.heap.size + 1, off := 0 }), Value.pointer (some { block := w.heap.size + 1 + 1, off := 0 }), Value.pointer (some { block := w.heap.size + 1 + 1 + 1, off := 0 }), Value.int IntKind.i64 t2, Value.func (Fn.func 56) #[] #[Value.pointer (some { block := w.heap.size + 1 + 1 + 1 + 1 + 3, off := 0 }), Value.pointer (some { block := w.heap.size + 1 + 1 + 1 + 1 + 1, off := 0 }), Value.pointer (some { block := w.heap.size + 1 + 1 + 1 + 1 + 2, off := 0 }), Value.pointer (some { block := w.heap.size + 1 + 1 + 1 + 1, off := 0 })], Value.pointer (some { block := B, off := 0 }), undef, undef, undef, Value.tuple #[Value.int IntKind.i64 t2, Value.func (Fn.func 56) #[] #[Value.pointer (some { block := w.heap.size + 1 + 1 + 1 + 1 + 3, off := 0 }), Value.pointer (some { block := w.heap.size + 1 + 1 + 1 + 1 + 1, off := 0 }), Value.pointer (some { block := w.heap.size + 1 + 1 + 1 + 1 + 2, off := 0 }), Value.pointer (some { block := w.heap.size + 1 + 1 + 1 + 1, off := 0 })]], Value.slice A0 l0.length c0, Value.tuple #[Value.int IntKind.i64 t2, Value.func (Fn.func 56) #[] #[Value.pointer (some { block := w.heap.size + 1 + 1 + 1 + 1 + 3, off := 0 }), Value.pointer (some { block := w.heap.size + 1 + 1 + 1 + 1 + 1, off := 0 }), Value.pointer (some { block := w.heap.size + 1 + 1 + 1 + 1 + 2, off := 0 }), Value.pointer (some { block := w.heap.size + 1 + 1 + 1 + 1, off := 0 })]], Value.int IntKind.i64 t2, Value.func (Fn.func 56) #[] #[Value.pointer (some { block := w.heap.size + 1 + 1 + 1 + 1 + 3, off := 0 }), Value.pointer (some { block := w.heap.size + 1 + 1 + 1 + 1 + 1, off := 0 }), Value.pointer (some { block := w.heap.size + 1 + 1 + 1 + 1 + 2, off := 0 }), Value.pointer (some { block := w.heap.size + 1 + 1 + 1 + 1, off := 0 })], Value.func (Fn.func 56) #[] #[Value.pointer (some { block := w.heap.size + 1 + 1 + 1 + 1 + 3, off := 0 }), Value.pointer (some { block := w.heap.size + 1 + 1 + 1 + 1 + 1, off := 0 }), Value.pointer (some { block := w.heap.size + 1 + 1 + 1 + 1 + 2, off := 0 }), Value.pointer (some { block := w.heap.size + 1 + 1 + 1 + 1, off := 0 })], (Value.agg #[.int .i64 x.1.1, .int .i64 x.1.2.1, .int .i64 x.1.2.2.1, .slice x.2.1 x.1.2.2.2.1.length x.2.2, .int .i64 x.1.2.2.2.2]), undef, undef, undef, undef, undef, undef, undef, undef, undef, undef, undef, undef, undef, undef, undef, undef, undef, undef, undef, undef, undef, undef, undef, undef, undef, undef], defers := [] })
    (QAx bl w1.heap.size) (fun pre x => qax_own bl _ pre x _) ?assign ?body ?done ?stop
  case assign =>
    intro l pre x W K hI hN hK
    dsimp only [qencB]
    gi_wp2
    have hz := hI.2.size
    have hb : Below W.heap.size W (W.alloc (Obj.cells #[Value.int IntKind.i64 x.1.1, Value.int IntKind.i64 x.1.2.1, Value.int IntKind.i64 x.1.2.2.1, Value.slice x.2.1 x.1.2.2.2.1.length x.2.2, Value.int IntKind.i64 x.1.2.2.2.2] 65)) := pbA_ (Below.refl _ _) _
    exact hK W.heap.size _ _ rfl ⟨hb.size, fun k o hk _ => (hb.block k (Array.getElem?_eq_some_iff.1 hk).1).trans hk⟩ (hb.mono hz) ((post_Seek.held_own k a1 bl _ w1 _ (Nat.le_refl _)).alloc _ hI) ⟨⟨hz, hN.1, hN.2.1, hN.2.2.2⟩, World.alloc_heap_new W _, Kd.cA_ hN.2.2.1 _⟩
  case body =>
    rintro l pre ⟨⟨x1, x2, x3, x4, x5⟩, Ab, cb⟩ B a' W rfl ⟨hp, hB⟩ ⟨hq, hbk, hC⟩
    obtain ⟨hnB, hx, hpre, hcb⟩ := hq.out
    dsimp only at hx hcb hbk hC
    obtain ⟨hxl, hxe⟩ := List.getElem?_eq_some_iff.1 hx
    have hd : bl.drop pre.length = (x1, x2, x3, x4, x5) :: bl.drop (pre.length + 1) := by rw [List.drop_eq_getElem_cons hxl, hxe]
    have hr := hp.out hpre
    rw [hd, post_Seek.l0] at hr
    dsimp only at hr
    have HRR := Aside0.mk hr
    have HBB := Aside0.mk hB
    have HBK := Aside0.mk hbk
    have HC := Aside0.mk hC
    have HCB := Aside0.mk hcb
    have hcz0 : W.cell? ⟨B, 0, none⟩ = some (.int .i64 x1) := (blk_cell hbk 0).trans rfl
    have hcz1 : W.cell? ⟨B, 1, none⟩ = some (.int .i64 x2) := (blk_cell hbk 1).trans rfl
    have hcz2 : W.cell? ⟨B, 2, none⟩ = some (.int .i64 x3) := (blk_cell hbk 2).trans rfl
    have hcz3 : W.cell? ⟨B, 3, none⟩ = some (.slice Ab x4.length cb) := (blk_cell hbk 3).trans rfl
    have hcz4 : W.cell? ⟨B, 4, none⟩ = some (.int .i64 x5) := (blk_cell hbk 4).trans rfl
    clear hx hpre hr hB hbk hC hcb hp hd hxe hxl
    have hwm := hs1.out
    have hDb : Boxed W w.heap.size 3 (.int .i64 a1) := (HBB.out.block _ (by omega)).trans HD0.out
    have hDc := hDb.cell
    have hPb := (HBB.out.block (w.heap.size + 1) (by omega)).trans HP0.out
    have hQb : Boxed W (w.heap.size + 2) 3 (.int .i64 0) := (HBB.out.block _ (by omega)).trans HQ0.out
    have hEb : Boxed W (w.heap.size + 3) 28 (.int .i64 0) := (HBB.out.block _ (by omega)).trans HE0.out
    have hDB := Aside0.mk hDb
    have hPB := Aside0.mk hPb
    have hQB := Aside0.mk hQb
    have hEB := Aside0.mk hEb
    clear hwm hDb hPb hQb hEb
    by_cases hx1 : x1 = 0
    · subst hx1
      obtain ⟨⟨f1, f2, f3, f4, f5, f6, f7, f8⟩, W', hW', hf⟩ := qseek_stores hPB.out hQB.out hEB.out (.int .i64 0) (.slice none 0 0) (.int .i64 0) (.int .i64 2)
      have HF := Aside0.mk hf
      have HW' := Aside0.mk hW'
      clear hf hW'
      gi_wp2
      rw [← HW'.out]
      obtain ⟨g1, g2, g3, g4, g5, g6⟩ := HF.out
      have hr := HRR.out
      rw [if_pos (by first | rfl | trivial)] at hr
      simp only [Option.some.injEq, Prod.mk.injEq] at hr
      obtain ⟨rfl, rfl, rfl, rfl⟩ := hr
      exact ⟨g4, ⟨_, ⟨rfl⟩, g1, Kd.R_nil _ _ _ _ _, g2, g3⟩, g6 _ (Nat.le_refl _) _ (hbw1.out.trans (HBB.out.mono (by have := hs1.out; omega)))⟩
    · by_cases hx3 : x3 < a1
      · have hr := HRR.out
        rw [if_neg hx1, if_pos hx3] at hr
        have hr' := Aside0.mk hr
        clear hr
        have HX1 := Aside0.mk hx1
        have HX3 := Aside0.mk hx3
        have g1 : (x1 == 0) = false := by simpa using hx1
        have g3 : decide (x3 < a1) = true := decide_eq_true hx3
        clear hx1 hx3
        gi_wp2
        refine ⟨⟨Nat.le_refl _, fun k o hk _ => hk⟩, Below.refl _ _, ⟨fun _ => ?_⟩, HBB.out⟩
        rw [List.length_append, List.length_singleton]
        exact hr'.out
      · have hr := HRR.out
        rw [if_neg hx1, if_neg hx3] at hr
        obtain ⟨⟨u1, u2⟩, hu, hr⟩ := Option.bind_eq_some_iff.1 hr
        dsimp only at hu hr
        have HR2 := Aside0.mk hr
        have HX1 := Aside0.mk hx1
        have HX3 := Aside0.mk hx3
        have g1 : (x1 == 0) = false := by simpa using hx1
        have g3 : decide (x3 < a1) = false := decide_eq_false hx3
        have HCALL := Aside0.mk (post_unpack.calls k x1 x2 x3 Ab cb x4 x5 u1 u2 W HC.out HCB.out hu)
        clear hr hu hx1 hx3
        cases u2 with
        | false =>
          gi_wp2_with (first | (refine ⟨trivial, ?_⟩; gi_at_call 35; (with_reducible refine (CallsIn.inRound l (callsIn_wide.2 HCALL.out)).mono ?_); rintro e2 w2 ⟨v2, rfl, hS2, hB2⟩; have HS2 := Aside0.mk hS2; have HB2 := Aside0.mk hB2; have hPB2 := Aside0.mk (blk_below hPB.out hB2); have hQB2 : Aside0 (Boxed w2 (w.heap.size + 2) 3 (.int .i64 0)) := ⟨blk_below hQB.out hB2⟩; have hEB2 : Aside0 (Boxed w2 (w.heap.size + 3) 28 (.int .i64 0)) := ⟨blk_below hEB.out hB2⟩; clear hS2 hB2; obtain ⟨⟨f1, f2, f3, f4, f5, f6, f7, f8⟩, W', hW', hf⟩ := qseek_stores hPB2.out hQB2.out hEB2.out (.int .i64 0) (.slice none 0 0) (.int .i64 0) (.int .i64 2); have HF := Aside0.mk hf; have HW' := Aside0.mk hW'; clear hf hW') | fail)
          rw [← HW'.out]
          obtain ⟨g1, g2, g3, g4, g5, g6⟩ := HF.out
          have hr := HR2.out
          rw [if_pos (by first | rfl | trivial)] at hr
          simp only [Option.some.injEq, Prod.mk.injEq] at hr
          obtain ⟨rfl, rfl, rfl, rfl⟩ := hr
          have hB2 := HB2.out
          have hKO : KeepsOthers W w2 := ⟨hB2.size, fun k o hk _ => (hB2.block k (Array.getElem?_eq_some_iff.1 hk).1).trans hk⟩
          exact ⟨hKO.trans g4, ⟨_, ⟨rfl⟩, g1, Kd.R_nil _ _ _ _ _, g2, g3⟩, g6 _ (Nat.le_refl _) _ ((hbw1.out.trans (HBB.out.mono (by have := hs1.out; omega))).trans (hB2.mono (by have := HBB.out.size; have := hs1.out; omega)))⟩
        | true =>
          have hr := HR2.out
          rw [if_neg (by simp)] at hr
          by_cases hlim : u1.length ≤ 1000000
          case neg => rw [if_neg hlim] at hr; cases hr
          rw [if_pos hlim] at hr
          by_cases hqf : qfind u1 a1 < u1.length
          case neg => rw [dif_neg hqf] at hr; cases hr
          rw [dif_pos hqf] at hr
          obtain ⟨i, hi⟩ : ∃ i, Aside0 (i = qfind u1 a1) := ⟨_, ⟨rfl⟩⟩
          obtain ⟨s, hs⟩ : ∃ s, u1[qfind u1 a1]'hqf = s := ⟨_, rfl⟩
          rw [hs] at hr
          have HR3 := Aside0.mk hr
          have HQF : Aside0 (i < u1.length) := ⟨by rw [hi.out]; exact hqf⟩
          have HS : Aside0 (u1[i]'HQF.out = s) := ⟨by rw [← hs]; congr 1; exact hi.out⟩
          have HLIM := Aside0.mk hlim
          clear hr hs hqf hlim
          have p : ((0 : Int) ≤ (i : Int)) = True := eq_true (by omega)
          have q : ((i : Int) < (u1.length : Int)) = True := eq_true (by have := HQF.out; omega)
          have q' : (i < u1.length) = True := eq_true HQF.out
          gi_wp2_with (first | (refine ⟨trivial, ?_⟩; gi_at_call 35; (with_reducible refine (CallsIn.inRound l (callsIn_wide.2 HCALL.out)).mono ?_); rintro e2 w2 ⟨v2, rfl, hS2, hB2⟩; have HS2 := Aside0.mk hS2; have HB2 := Aside0.mk hB2; have hPB2 := Aside0.mk (blk_below hPB.out hB2); have hQB2 : Aside0 (Boxed w2 (w.heap.size + 2) 3 (.int .i64 0)) := ⟨blk_below hQB.out hB2⟩; have hEB2 : Aside0 (Boxed w2 (w.heap.size + 3) 28 (.int .i64 0)) := ⟨blk_below hEB.out hB2⟩; obtain ⟨A2, c2, rfl⟩ := Kd.S_slice hS2; have hDB2 : Aside0 (w2.cell? ⟨w.heap.size, 0, none⟩ = some (.int .i64 a1)) := ⟨Boxed.cell (t := 3) (blk_below hDB.out hB2)⟩; have HIDX := Aside0.mk (qseek_index w.heap.size a1 A2 c2 u1 w2 hDB2.out (Kd.S_reads' hS2).2.2 (Kd.S_reads' hS2).2.1 (by have := HLIM.out; omega) (i : Int) ⟨by rw [hi.out, if_pos (by rw [← hi.out]; exact HQF.out)]⟩); clear hS2 hB2) | (refine ⟨trivial, ?_⟩; gi_at_call 36; (with_reducible refine (CallsIn.inRound l (callsIn_wide.2 HIDX.out)).mono ?_); rintro e3 w3 ⟨rfl, hB3⟩; have HB3 := Aside0.mk hB3; obtain ⟨ad, A1, c1, rfl, hx0, hx1, HRI⟩ := qseek_elem (Kd.S_R (Kd.S_below HS2.out hB3)) i HQF.out s HS.out; obtain ⟨⟨f1, f2, f3, f4, f5, f6, f7, f8⟩, W', hW', hf⟩ := qseek_stores (blk_below hPB2.out hB3) (show Boxed w3 (w.heap.size + 2) 3 (.int .i64 0) from blk_below hQB2.out hB3) (show Boxed w3 (w.heap.size + 3) 28 (.int .i64 0) from blk_below hEB2.out hB3) (.int .i64 s.f0) (.slice A1 s.f1.length c1) (.int .i64 1) (.int .i64 0); have HF := Aside0.mk hf; have HW' := Aside0.mk hW'; clear hf hW' hB3) | fail)
          rw [← HW'.out]
          obtain ⟨g1, g2, g3, g4, g5, g6⟩ := HF.out
          have hr := HR3.out
          simp only [Option.some.injEq, Prod.mk.injEq] at hr
          obtain ⟨rfl, rfl, rfl, rfl⟩ := hr
          have hB3 := HB2.out.trans (HB3.out.mono HB2.out.size)
          have hKO : KeepsOthers W w3 := ⟨hB3.size, fun k o hk _ => (hB3.block k (Array.getElem?_eq_some_iff.1 hk).1).trans hk⟩
          have hz := HBB.out.size
          have hz1 := hs1.out
          refine ⟨hKO.trans g4, ⟨_, ⟨rfl⟩, g1, ?_, g2, g3⟩, g6 _ (Nat.le_refl _) _ ((hbw1.out.trans (HBB.out.mono (by omega))).trans (hB3.mono (by omega)))⟩
          exact Kd.R_mono (Kd.R_lower (Kd.R_step (Kd.R_bound HRI.out) (fun k hk _ => g5 k (by have := hk.2.1; omega) (by have := hk.2.1; omega) (by have := hk.2.1; omega))) (by omega)) (fun _ _ => trivial)
  case done =>
    rintro D xs W hD hS ⟨hp, hB⟩ hK
    have hlen : xs.length = bl.length := by rw [← hS]; simp
    have hr := hp.out (by rw [hlen, hS, List.take_length])
    rw [hlen, List.drop_length, post_Seek.l0] at hr
    simp only [Option.some.injEq, Prod.mk.injEq] at hr
    obtain ⟨rfl, rfl, rfl, rfl⟩ := hr
    have hz1 := hs1.out
    obtain ⟨⟨f1, f2, f3, f4, f5, f6, f7, f8⟩, W', hW', hf⟩ := qseek_stores (W := W) (R := w.heap.size) ((hB.block (w.heap.size + 1) (by omega)).trans HP0.out) (show Boxed W (w.heap.size + 2) 3 (.int .i64 0) from (hB.block _ (by omega)).trans HQ0.out) (show Boxed W (w.heap.size + 3) 28 (.int .i64 0) from (hB.block _ (by omega)).trans HE0.out) (.int .i64 0) (.slice none 0 0) (.int .i64 0) (.int .i64 8)
    have HF := Aside0.mk hf
    have HW' := Aside0.mk hW'
    have HK := Aside0.mk hK
    have HBl := Aside0.mk hB
    clear hf hW' hK hB hp hz1 hlen hS
    gi_wp2
    rw [← HW'.out]
    obtain ⟨g1, g2, g3, g4, g5, g6⟩ := HF.out
    have hDn : w1.heap.size ≤ D := hD
    have hz1 := hs1.out
    have hKd : W'.heap[D]? = some (.deferred (some [])) := (g5 D (by omega) (by omega) (by omega)).trans HK.out
    refine ⟨by simp, .inl ⟨_, _, rfl, run_takeDeferred hKd, ?_⟩⟩
    have f0 : ∀ o, (W'.putObj D o).heap[w.heap.size + 1]? = _ := fun o => (World.putObj_heap_other (by omega)).trans g1
    have f1 : ∀ o, (W'.putObj D o).cell? ⟨w.heap.size + 1, 0, none⟩ = _ := fun o => (blk_cell (f0 o) 0).trans rfl
    have f2 : ∀ o, (W'.putObj D o).cell? ⟨w.heap.size + 1, 1, none⟩ = _ := fun o => (blk_cell (f0 o) 1).trans rfl
    have f3 : ∀ o, (W'.putObj D o).cell? ⟨w.heap.size + 1 + 1, 0, none⟩ = _ := fun o => Boxed.cell (t := 3) ((World.putObj_heap_other (by omega)).trans g2)
    have f4 : ∀ o, (W'.putObj D o).cell? ⟨w.heap.size + 1 + 1 + 1, 0, none⟩ = _ := fun o => Boxed.cell (t := 28) ((World.putObj_heap_other (by omega)).trans g3)
    refine ⟨.tuple #[.agg #[.int .i64 0, (.slice none 0 0)], .int .i64 0, .int .i64 8], by simp [results, Try.results19, go_sem, f1, f2, f3, f4, hu37], _, rfl, ?_, ?_⟩
    · exact Kd.R_mono (Kd.R_lower (Kd.R_step (Kd.R_bound (Kd.R_nil _ _ _ (w.heap.size + 4) (fun _ => True))) (fun k hk _ => World.putObj_heap_other (by
        rintro rfl
        obtain ⟨_, _, _, q, _, cells, hc⟩ := hk
        rw [hKd] at hc
        cases hc))) (by omega)) (fun _ _ => trivial)
    · exact (g6 _ (Nat.le_refl _) _ (hbw1.out.trans (HBl.out.mono (by omega)))).trans (belowK_b (w := w) (Nat.le_refl _) W' D _ _ (by omega) hKd rfl rfl)
  case stop =>
    rintro D c pre W hD _ ⟨⟨v, hc, h1, hR, h2, h3⟩, hB⟩ hK
    obtain rfl := hc.out
    have hDn : w1.heap.size ≤ D := hD
    have hz1 := hs1.out
    gi_wp2
    refine ⟨by simp, .inl ⟨_, _, rfl, run_takeDeferred hK, ?_⟩⟩
    have f0 : ∀ o, (W.putObj D o).heap[w.heap.size + 1]? = _ := fun o => (World.putObj_heap_other (by omega)).trans h1
    have f1 : ∀ o, (W.putObj D o).cell? ⟨w.heap.size + 1, 0, none⟩ = _ := fun o => (blk_cell (f0 o) 0).trans rfl
    have f2 : ∀ o, (W.putObj D o).cell? ⟨w.heap.size + 1, 1, none⟩ = _ := fun o => (blk_cell (f0 o) 1).trans rfl
    have f3 : ∀ o, (W.putObj D o).cell? ⟨w.heap.size + 1 + 1, 0, none⟩ = _ := fun o => Boxed.cell (t := 3) ((World.putObj_heap_other (by omega)).trans h2)
    have f4 : ∀ o, (W.putObj D o).cell? ⟨w.heap.size + 1 + 1 + 1, 0, none⟩ = _ := fun o => Boxed.cell (t := 28) ((World.putObj_heap_other (by omega)).trans h3)
    refine ⟨.tuple #[.agg #[.int .i64 r1, v], .int .i64 r3, .int .i64 r4], by simp [results, Try.results19, go_sem, f1, f2, f3, f4, hu37], _, rfl, ?_, ?_⟩
    · exact Kd.R_mono (Kd.R_lower (Kd.R_step (Kd.R_bound (hR)) (fun k hk _ => World.putObj_heap_other (by
        rintro rfl
        obtain ⟨_, _, _, q, _, cells, hc⟩ := hk
        rw [hK] at hc
        cases hc))) (by omega)) (fun _ _ => trivial)
    · exact (hB).trans (belowK_b (w := w) (Nat.le_refl _) W D _ _ (by omega) hK rfl rfl)
end
noncomputable def dragnetlaw13_alive.f (k : Nat)  : Option (Bool) := (post_Put.f k ([] : List Int) (([(⟨3, (([0] : List Int))⟩ : S37), (⟨5, (([1, 4] : List Int))⟩ : S37)] : List (S37)))).bind fun bt323 => ((post_Seek.f k bt323.1 4).bind fun bt327 => (if bt323.2 = 0 then (if bt327.2.2.2 = 0 then (if bt327.2.2.1 = 1 then (if bt327.1 = 5 then (if (bt327.2.1.length : Int) = 2 then (if (bt323.1.length : Int) > 3 then (if 0 < (bt323.1.length : Int) then (if (rd bt323.1 0) = 2 then (if 1 < (bt323.1.length : Int) then (some ((rd bt323.1 1) == 5)) else (none)) else (some false)) else (none)) else (some false)) else (some false)) else (some false)) else (some false)) else (some false)) else (some false)))
theorem dragnetlaw13_alive.mono : ∀ k, LeO (dragnetlaw13_alive.f k ) (dragnetlaw13_alive.f (k + 1) ) := by
 intro  k
 unfold dragnetlaw13_alive.f
 repeat' first
   | (with_reducible exact post_Put.mono _ _ _)
   | (with_reducible exact post_Seek.mono _ _ _)
   | (with_reducible exact LeO.refl _)
   | (with_reducible exact LeO.none _)
   | (with_reducible refine LeO.ite ?_ ?_)
   | (with_reducible refine LeO.bind ?_ (fun _ => ?_))
set_option maxHeartbeats 8000000 in
set_option maxRecDepth 100000 in
theorem dragnetlaw13_alive.calls (k : Nat)  (r : Bool) (w : World) (h : dragnetlaw13_alive.f k  = some r) (hr_ : Aside0 (r = true)) :
  Calls Try.prog 9 #[] w fun e w' => e = .returned (.bool r) ∧ Below w.heap.size w w' := by
 have hu37 := Try.underlying37
 have HB := Aside0.mk (Below.refl w.heap.size w)
 have H : ((post_Put.f k ([] : List Int) (([(⟨3, (([0] : List Int))⟩ : S37), (⟨5, (([1, 4] : List Int))⟩ : S37)] : List (S37)))).bind fun bt323 => ((post_Seek.f k bt323.1 4).bind fun bt327 => (if bt323.2 = 0 then (if bt327.2.2.2 = 0 then (if bt327.2.2.1 = 1 then (if bt327.1 = 5 then (if (bt327.2.1.length : Int) = 2 then (if (bt323.1.length : Int) > 3 then (if 0 < (bt323.1.length : Int) then (if (rd bt323.1 0) = 2 then (if 1 < (bt323.1.length : Int) then (some ((rd bt323.1 1) == 5)) else (none)) else (some false)) else (none)) else (some false)) else (some false)) else (some false)) else (some false)) else (some false)) else (some false)))) = some r := h
 clear h
 obtain ⟨y314, hy314⟩ : ∃ y_ : List Int, y_ = (([0] : List Int)) := ⟨_, rfl⟩
 replace H : ((post_Put.f k ([] : List Int) (([(⟨3, y314⟩ : S37), (⟨5, (([1, 4] : List Int))⟩ : S37)] : List (S37)))).bind fun bt323 => ((post_Seek.f k bt323.1 4).bind fun bt327 => (if bt323.2 = 0 then (if bt327.2.2.2 = 0 then (if bt327.2.2.1 = 1 then (if bt327.1 = 5 then (if (bt327.2.1.length : Int) = 2 then (if (bt323.1.length : Int) > 3 then (if 0 < (bt323.1.length : Int) then (if (rd bt323.1 0) = 2 then (if 1 < (bt323.1.length : Int) then (some ((rd bt323.1 1) == 5)) else (none)) else (some false)) else (none)) else (some false)) else (some false)) else (some false)) else (some false)) else (some false)) else (some false)))) = some r := by first | (rw [hy314]; with_reducible exact H) | (have H2_ := (Option.bind_some _ _).symm.trans H; rw [hy314]; with_reducible exact H2_) | (have H2_ := (Option.bind_some _ _).symm.trans H; with_reducible exact H2_) | with_reducible exact H | (rw [hy314]; exact H) | exact H
 have Ny314 := Aside0.mk hy314
 clear hy314
 obtain ⟨y317, hy317⟩ : ∃ y_ : List Int, y_ = (([1, 4] : List Int)) := ⟨_, rfl⟩
 replace H : ((post_Put.f k ([] : List Int) (([(⟨3, y314⟩ : S37), (⟨5, y317⟩ : S37)] : List (S37)))).bind fun bt323 => ((post_Seek.f k bt323.1 4).bind fun bt327 => (if bt323.2 = 0 then (if bt327.2.2.2 = 0 then (if bt327.2.2.1 = 1 then (if bt327.1 = 5 then (if (bt327.2.1.length : Int) = 2 then (if (bt323.1.length : Int) > 3 then (if 0 < (bt323.1.length : Int) then (if (rd bt323.1 0) = 2 then (if 1 < (bt323.1.length : Int) then (some ((rd bt323.1 1) == 5)) else (none)) else (some false)) else (none)) else (some false)) else (some false)) else (some false)) else (some false)) else (some false)) else (some false)))) = some r := by first | (rw [hy317]; with_reducible exact H) | (have H2_ := (Option.bind_some _ _).symm.trans H; rw [hy317]; with_reducible exact H2_) | (have H2_ := (Option.bind_some _ _).symm.trans H; with_reducible exact H2_) | with_reducible exact H | (rw [hy317]; exact H) | exact H
 have Ny317 := Aside0.mk hy317
 clear hy317
 obtain ⟨y320, hy320⟩ : ∃ y_ : List (S37), y_ = (([(⟨3, y314⟩ : S37), (⟨5, y317⟩ : S37)] : List (S37))) := ⟨_, rfl⟩
 replace H : ((post_Put.f k ([] : List Int) y320).bind fun bt323 => ((post_Seek.f k bt323.1 4).bind fun bt327 => (if bt323.2 = 0 then (if bt327.2.2.2 = 0 then (if bt327.2.2.1 = 1 then (if bt327.1 = 5 then (if (bt327.2.1.length : Int) = 2 then (if (bt323.1.length : Int) > 3 then (if 0 < (bt323.1.length : Int) then (if (rd bt323.1 0) = 2 then (if 1 < (bt323.1.length : Int) then (some ((rd bt323.1 1) == 5)) else (none)) else (some false)) else (none)) else (some false)) else (some false)) else (some false)) else (some false)) else (some false)) else (some false)))) = some r := by first | (rw [hy320]; with_reducible exact H) | (have H2_ := (Option.bind_some _ _).symm.trans H; rw [hy320]; with_reducible exact H2_) | (have H2_ := (Option.bind_some _ _).symm.trans H; with_reducible exact H2_) | with_reducible exact H | (rw [hy320]; exact H) | exact H
 have Ny320 := Aside0.mk hy320
 clear hy320
 replace H := Option.bind_eq_some_iff.mp H
 obtain ⟨⟨t323, t324⟩, A10, H⟩ := H
 replace H : ((post_Seek.f k t323 4).bind fun bt327 => (if t324 = 0 then (if bt327.2.2.2 = 0 then (if bt327.2.2.1 = 1 then (if bt327.1 = 5 then (if (bt327.2.1.length : Int) = 2 then (if (t323.length : Int) > 3 then (if 0 < (t323.length : Int) then (if (rd t323 0) = 2 then (if 1 < (t323.length : Int) then (some ((rd t323 1) == 5)) else (none)) else (some false)) else (none)) else (some false)) else (some false)) else (some false)) else (some false)) else (some false)) else (some false))) = some r := H
 have A1 := Aside0.mk A10
 clear A10
 replace H := Option.bind_eq_some_iff.mp H
 obtain ⟨⟨t327, t328, t331, t332⟩, A20, H⟩ := H
 replace H : (if t324 = 0 then (if t332 = 0 then (if t331 = 1 then (if t327 = 5 then (if (t328.length : Int) = 2 then (if (t323.length : Int) > 3 then (if 0 < (t323.length : Int) then (if (rd t323 0) = 2 then (if 1 < (t323.length : Int) then (some ((rd t323 1) == 5)) else (none)) else (some false)) else (none)) else (some false)) else (some false)) else (some false)) else (some false)) else (some false)) else (some false)) = some r := H
 have A2 := Aside0.mk A20
 clear A20
 by_cases c3 : t324 = 0
 rotate_left
 ·rw [if_neg c3] at H
  have c3b0 : (t324 == 0) = false := beq_eq_false_iff_ne.mpr c3
  have c3b1 : (t324 != 0) = true := bne_iff_ne.mpr c3
  obtain rfl := Option.some.inj H
  cases hr_.out
 rw [if_pos c3] at H
 have c3b0 : (t324 == 0) = true := beq_iff_eq.mpr c3
 have c3b1 : (t324 != 0) = false := bne_eq_false_iff_eq.mpr c3
 clear c3
 by_cases c4 : t332 = 0
 rotate_left
 ·rw [if_neg c4] at H
  have c4b0 : (t332 == 0) = false := beq_eq_false_iff_ne.mpr c4
  have c4b1 : (t332 != 0) = true := bne_iff_ne.mpr c4
  obtain rfl := Option.some.inj H
  cases hr_.out
 rw [if_pos c4] at H
 have c4b0 : (t332 == 0) = true := beq_iff_eq.mpr c4
 have c4b1 : (t332 != 0) = false := bne_eq_false_iff_eq.mpr c4
 clear c4
 by_cases c5 : t331 = 1
 rotate_left
 ·rw [if_neg c5] at H
  have c5b0 : (t331 == 1) = false := beq_eq_false_iff_ne.mpr c5
  have c5b1 : (t331 != 1) = true := bne_iff_ne.mpr c5
  obtain rfl := Option.some.inj H
  cases hr_.out
 rw [if_pos c5] at H
 have c5b0 : (t331 == 1) = true := beq_iff_eq.mpr c5
 have c5b1 : (t331 != 1) = false := bne_eq_false_iff_eq.mpr c5
 clear c5
 by_cases c6 : t327 = 5
 rotate_left
 ·rw [if_neg c6] at H
  have c6b0 : (t327 == 5) = false := beq_eq_false_iff_ne.mpr c6
  have c6b1 : (t327 != 5) = true := bne_iff_ne.mpr c6
  obtain rfl := Option.some.inj H
  cases hr_.out
 rw [if_pos c6] at H
 have c6b0 : (t327 == 5) = true := beq_iff_eq.mpr c6
 have c6b1 : (t327 != 5) = false := bne_eq_false_iff_eq.mpr c6
 clear c6
 by_cases c7 : (t328.length : Int) = 2
 rotate_left
 ·rw [if_neg c7] at H
  have c7b0 : ((t328.length : Int) == 2) = false := beq_eq_false_iff_ne.mpr c7
  have c7b1 : ((t328.length : Int) != 2) = true := bne_iff_ne.mpr c7
  obtain rfl := Option.some.inj H
  cases hr_.out
 rw [if_pos c7] at H
 have c7b0 : ((t328.length : Int) == 2) = true := beq_iff_eq.mpr c7
 have c7b1 : ((t328.length : Int) != 2) = false := bne_eq_false_iff_eq.mpr c7
 clear c7
 by_cases c8 : (t323.length : Int) > 3
 rotate_left
 ·rw [if_neg c8] at H
  have c8b0 : decide (3 < (t323.length : Int)) = false := decide_eq_false c8
  have c8b1 : decide (3 < t323.length) = false := decide_eq_false (by omega)
  clear c8
  obtain rfl := Option.some.inj H
  cases hr_.out
 rw [if_pos c8] at H
 have c8b0 : decide (3 < (t323.length : Int)) = true := decide_eq_true c8
 have c8b1 : decide (3 < t323.length) = true := decide_eq_true (by omega)
 clear c8
 by_cases c9 : 0 < (t323.length : Int)
 rotate_left
 ·rw [if_neg c9] at H
  exact absurd H (by simp)
 rw [if_pos c9] at H
 have c9b0 : decide (0 < (t323.length : Int)) = true := decide_eq_true c9
 have c9b1 : decide (0 < t323.length) = true := decide_eq_true (by omega)
 clear c9
 by_cases c10 : (rd t323 0) = 2
 rotate_left
 ·rw [if_neg c10] at H
  have c10b0 : ((rd t323 0) == 2) = false := beq_eq_false_iff_ne.mpr c10
  have c10b1 : ((rd t323 0) != 2) = true := bne_iff_ne.mpr c10
  obtain rfl := Option.some.inj H
  cases hr_.out
 rw [if_pos c10] at H
 have c10b0 : ((rd t323 0) == 2) = true := beq_iff_eq.mpr c10
 have c10b1 : ((rd t323 0) != 2) = false := bne_eq_false_iff_eq.mpr c10
 clear c10
 by_cases c11 : 1 < (t323.length : Int)
 rotate_left
 ·rw [if_neg c11] at H
  exact absurd H (by simp)
 rw [if_pos c11] at H
 have c11b0 : decide (1 < (t323.length : Int)) = true := decide_eq_true c11
 have c11b1 : decide (1 < t323.length) = true := decide_eq_true (by omega)
 clear c11
 obtain rfl := Option.some.inj H
 go_enter Try.func9, Try.ntmps9
 go_wp2_with (first | ((with_reducible refine gate_dst (N := 7) rfl ?_); (try (refine gate_guard (by rfl) ?_; dsimp only)); refine Kd.R_lit (Kd.int .i64) _ 3 ?hg (N := 7) ?hd (xs := ([0] : List Int)) (inner := [.int .i64 0]) (ok := fun _ => True) (okp := fun _ => True) ?hr ?hp (fun _ hk => hk) trivial (Below.refl _ _) (Nat.le_refl _) (by simp) ?_; (case hd => rfl); (case hg => rfl); (case hr => first | (go_simp; done) | (go_simp; rfl)); (case hp => exact (Reps.one (show Kd.M (Kd.int .i64) _ _ _ 0 [.int .i64 0] from rfl) (Reps.none _ _))); intro v315 w12 ho13 hb hg_ hnew_; clear hg_ hnew_; (first | rw [← Ny314.out] at ho13 | (simp only [Int.reduceToNat] at ho13; rw [← Ny314.out] at ho13)); have HO316 := Aside0.mk (Kd.R_lower ho13 (pbS_ bw_)); replace HB := Aside0.mk (below_step bw_ hb); clear hb ho13; obtain ⟨Ao14, co14, eo14⟩ := Kd.R_slice HO316.out; subst eo14) | ((with_reducible refine gate_dst (N := 9) rfl ?_); (try (refine gate_guard (by rfl) ?_; dsimp only)); refine Kd.R_lit (Kd.int .i64) _ 3 ?hg (N := 9) ?hd (xs := ([1, 4] : List Int)) (inner := [.int .i64 1, .int .i64 4]) (ok := fun _ => True) (okp := fun _ => True) ?hr ?hp (fun _ hk => hk) trivial (Below.refl _ _) (Nat.le_refl _) (by simp) ?_; (case hd => rfl); (case hg => rfl); (case hr => first | (go_simp; done) | (go_simp; rfl)); (case hp => exact (Reps.one (show Kd.M (Kd.int .i64) _ _ _ 1 [.int .i64 1] from rfl) (Reps.one (show Kd.M (Kd.int .i64) _ _ _ 4 [.int .i64 4] from rfl) (Reps.none _ _)))); intro v318 w15 ho16 hb hg_ hnew_; clear hg_ hnew_; (first | rw [← Ny317.out] at ho16 | (simp only [Int.reduceToNat] at ho16; rw [← Ny317.out] at ho16)); have n0_ := Aside0.mk (Kd.R_elder' (Kd.ru_ HO316.out) (Kd.R_base ho16) hb); have n1_ := Aside0.mk (Kd.R_lower (Kd.R_new' ho16 (Kd.R_lt (Kd.ru_ HO316.out))) (pbS_ bw_)); have n2_ := Aside0.mk (below_step bw_ hb); clear HO316; clear HB; have HO316 := n0_; have HO319 := n1_; have HB := n2_; clear n0_ n1_ n2_; clear hb ho16; obtain ⟨Ao17, co17, eo17⟩ := Kd.R_slice HO319.out; subst eo17) | ((with_reducible refine gate_dst (N := 11) rfl ?_); (try (refine gate_guard (by rfl) ?_; dsimp only)); refine Kd.N_lit k37 _ 37 ?hg (N' := 11) ?hd (xs := ([(⟨3, y314⟩ : S37), (⟨5, y317⟩ : S37)] : List (S37))) (inner := [.int .i64 3, .slice Ao14 y314.length co14, .int .i64 5, .slice Ao17 y317.length co17]) (ok := (fun _ => True)) (okp := (fun _ => True)) ?hr ?hp (fun _ hk => hk) ((show ∀ k_, w15.heap.size ≤ k_ → (fun _ => True) k_ from fun k_ hk => trivial) _ (Nat.le_refl _)) (Below.refl _ _) (Nat.le_refl _) (by simp) ?_; (case hd => rfl); (case hg => rfl); (case hr => first | (go_simp; done) | (go_simp; rfl)); (case hp => exact (Reps.c2 (show Kd.FK k37 _ _ (⟨3, y314⟩ : S37) [.int .i64 3, .slice Ao14 y314.length co14] from (k37_mkF _ _ (⟨3, y314⟩ : S37) (Kd.R_reads' (Kd.R_mono (ok' := (fun _ => True)) (HO316.out) (fun k_ hk => trivial))).2.1 (Kd.R_F (Kd.R_mono (ok' := (fun _ => True)) (HO316.out) (fun k_ hk => trivial))))) (Reps.c2 (show Kd.FK k37 _ _ (⟨5, y317⟩ : S37) [.int .i64 5, .slice Ao17 y317.length co17] from (k37_mkF _ _ (⟨5, y317⟩ : S37) (Kd.R_reads' (Kd.R_mono (ok' := (fun _ => True)) (HO319.out) (fun k_ hk => trivial))).2.1 (Kd.R_F (Kd.R_mono (ok' := (fun _ => True)) (HO319.out) (fun k_ hk => trivial))))) (Reps.none _ _)))); intro v321 w18 ho19 hb hg_ hnew_; clear hg_ hnew_; (first | rw [← Ny320.out] at ho19 | (simp only [Int.reduceToNat] at ho19; rw [← Ny320.out] at ho19)); have n0_ := Aside0.mk (Kd.N_lower ho19 (pbS_ bw_)); have n1_ := Aside0.mk (below_step bw_ hb); clear HB; clear HO316; clear HO319; have HO322 := n0_; have HB := n1_; clear n0_ n1_; clear hb ho19; obtain ⟨Ao20, co20, eo20⟩ := Kd.N_slice HO322.out; subst eo20) | ((with_reducible refine gaC_ (f := 13) rfl ?_); refine goesL_ (some 12) rfl rfl Try.func13 (by kernel_rfl) rfl #[.slice none 0 0, .slice Ao20 y320.length co20] rfl (by (try simp only [List.map_toArray, List.map_cons, List.map_nil]); first | done | rfl | (simp only [List.length_drop, List.length_take]; rfl)) ?_; (refine (post_Put.calls k _ _ ([] : List Int) _ _ y320 t323 t324 _ ?side1 ?side2 ?side3 ?side4 A1.out).mono ?_); (case side1 => exact Kd.C_nil _ _); (case side2 => exact Nat.le_refl _); (case side3 => exact Kd.cu_ (Kd.N_reads' HO322.out).2.2); (case side4 => exact (Kd.N_reads' HO322.out).2.1); rintro e w21 ⟨v325, rfl, ho0, hb⟩; refine ⟨_, rfl, ?_⟩; replace HO322 := Aside0.mk (Kd.N_elder' (by (with_reducible repeat (first | apply Kd.N_alloc | apply Kd.N_drewN | apply Kd.N_drew)); exact HO322.out) (Kd.R_base ho0) hb); have HO326 := Aside0.mk (Kd.R_lower ho0 (pbS_ bw_)); replace HB := Aside0.mk (below_step bw_ hb); (try clear hb); (try clear hb2); (try clear hk); (try clear hi); (try clear ho0); obtain ⟨Ao22, co22, eo22⟩ := Kd.R_slice HO326.out; subst eo22) | ((with_reducible refine gaC_ (f := 19) rfl ?_); refine goesL_ (some 17) rfl rfl Try.func19 (by kernel_rfl) rfl #[.slice Ao22 t323.length co22, .int .i64 4] rfl (by (try simp only [List.map_toArray, List.map_cons, List.map_nil]); first | done | rfl | (simp only [List.length_drop, List.length_take]; rfl)) ?_; (with_reducible refine (post_Seek.calls k _ _ t323 4 t327 t328 t331 t332 _ ?side1 ?side2 A2.out).mono ?_); (case side1 => exact Kd.cu_ (Kd.R_reads' HO326.out).2.2); (case side2 => exact (Kd.R_reads' HO326.out).2.1); rintro e w23 ⟨v329, rfl, ho0, hb⟩; refine ⟨_, rfl, ?_⟩; replace HO322 := Aside0.mk (Kd.N_elder' (by (with_reducible repeat (first | apply Kd.N_alloc | apply Kd.N_drewN | apply Kd.N_drew)); exact HO322.out) (Kd.R_base ho0) hb); replace HO326 := Aside0.mk (Kd.R_below (Kd.ru_ HO326.out) hb); have HO330 := Aside0.mk (Kd.R_lower ho0 (pbS_ bw_)); replace HB := Aside0.mk (below_step bw_ hb); (try clear hb); (try clear hb2); (try clear hk); (try clear hi); (try clear ho0)) | ((with_reducible refine gate_dst (N := 3) rfl ?_); (try (refine gate_guard (by rfl) ?_; dsimp only)); refine box_event ?hg (N := 3) ?hd (cs := #[.int .i64 0, .slice none 0 0]) (t := 37) ?hr ?_; (case hd => rfl); (case hg => rfl); (case hr => first | (go_simp; done) | (go_simp; rfl)); intro gb333 hg w24 hbox hb; have n0_ := Aside0.mk (Kd.N_below (Kd.N_elderB (by (with_reducible repeat (first | apply Kd.N_alloc | apply Kd.N_drewN | apply Kd.N_drew)); exact HO322.out) gb333 (Nat.le_of_eq hg.symm)) hb); have n1_ := Aside0.mk (Kd.R_below (Kd.ru_ HO326.out) hb); have n2_ := Aside0.mk (Kd.R_below (Kd.ru_ HO330.out) hb); have n3_ := Aside0.mk (below_step bw_ hb); have n4_ := Aside0.mk (hbox); have n5_ := Aside0.mk ((by rw [hg]; exact (pbS_ bw_) : w.heap.size ≤ gb333)); have n6_ := Aside0.mk ((by rw [hg]; exact (pbS_ bw_) : w.heap.size ≤ gb333)); clear HO322; clear HO326; clear HO330; clear HB; have HO322 := n0_; have HO326 := n1_; have HO330 := n2_; have HB := n3_; have BK333 := n4_; have GW333 := n5_; have GE333 := n6_; clear n0_ n1_ n2_ n3_ n4_ n5_ n6_; clear hb hbox hg; have hcz25_0 : w24.cell? ⟨gb333, 0, none⟩ = some (.int .i64 0) := (blk_cell BK333.out 0).trans rfl; have hcz25_1 : w24.cell? ⟨gb333, 1, none⟩ = some (.slice none 0 0) := (blk_cell BK333.out 1).trans rfl; have hfz25_0 := blk_frozen BK333.out 0; have hfz25_1 := blk_frozen BK333.out 1; obtain ⟨Ao26, co26, eo26⟩ := Kd.R_slice HO330.out; subst eo26; have p334 : 0 ≤ (0 : Int) := (by omega); have q334 : 0 < (t323.length : Int) := od_; obtain ⟨ad334, e334, hx334_0⟩ := Kd.at_int (Kd.R_reads' HO326.out).2.2 0 p334 q334; cases e334; have qi334 : (0 < t323.length) = True := eq_true (by omega); (try rw [show ((0 : Int)).toNat = 0 from rfl] at hx334_0); (try rw [Addr.add_zero'] at hx334_0); have hn334_0 : ad334.block ≠ gb333 := Kd.own_blk (Kd.R_ne HO326.out BK333.out (by decide)); have hn334_1 : ad334.block ≠ gb333 := Kd.own_blk (Kd.R_ne HO326.out BK333.out (by decide)); replace hx334_0 := (cell_far (p := ⟨gb333, 0, none⟩) (by first | (rw [add_block]; exact hn334_0) | (show (Addr.add _ _).block ≠ _; rw [add_block]; exact hn334_0) | exact hn334_0) (.int .i64 t327)).trans hx334_0; replace hx334_0 := (cell_far (p := ⟨gb333, 1, none⟩) (by first | (rw [add_block]; exact hn334_1) | (show (Addr.add _ _).block ≠ _; rw [add_block]; exact hn334_1) | exact hn334_1) (.slice Ao26 t328.length co26)).trans hx334_0; clear hn334_0; clear hn334_1; replace p334 := eq_true p334; replace q334 := eq_true q334; have p335 : 0 ≤ (1 : Int) := (by omega); have q335 : 1 < (t323.length : Int) := od_; obtain ⟨ad335, e335, hx335_0⟩ := Kd.at_int (Kd.R_reads' HO326.out).2.2 1 p335 q335; obtain rfl : ad334 = ad335 := (by injection e335); (try simp only [show (1 : Int).toNat = 1 from rfl, Nat.reduceMul, Nat.reduceEqDiff, Go.Addr.add, ↓reduceIte] at hx335_0); have qi335 : (1 < t323.length) = True := eq_true (by omega); (try rw [show ((1 : Int)).toNat = 1 from rfl] at hx335_0); have hn335_0 : ad334.block ≠ gb333 := Kd.own_blk (Kd.R_ne HO326.out BK333.out (by decide)); have hn335_1 : ad334.block ≠ gb333 := Kd.own_blk (Kd.R_ne HO326.out BK333.out (by decide)); replace hx335_0 := (cell_far (p := ⟨gb333, 0, none⟩) (by first | (rw [add_block]; exact hn335_0) | (show (Addr.add _ _).block ≠ _; rw [add_block]; exact hn335_0) | exact hn335_0) (.int .i64 t327)).trans hx335_0; replace hx335_0 := (cell_far (p := ⟨gb333, 1, none⟩) (by first | (rw [add_block]; exact hn335_1) | (show (Addr.add _ _).block ≠ _; rw [add_block]; exact hn335_1) | exact hn335_1) (.slice Ao26 t328.length co26)).trans hx335_0; clear hn335_0; clear hn335_1; replace p335 := eq_true p335; replace q335 := eq_true q335))
 go_ret
 exact ⟨rf_, by repeat (first | (with_reducible first | exact HB.out | apply pbA_ | apply pbN_ | apply pb1_ | refine below_set ?_ GE333.out) | exact HB.out)⟩
noncomputable def dragnetlaw13_great.l0 : Nat → List (S37) → Int → Int → Option (Bool)
 | 0, _, _, _ => none
 | k + 1, x0, x3, x4 => if x4 < (x0.length : Int) then (if x3 ≤ 300 then (if 0 ≤ x4 then (dragnetlaw13_great.l0 k x0 (wrap64 (x3 + (((rd_T37 x0 x4).f1).length : Int))) (wrap64 (x4 + 1))) else (none)) else (some (decide (x3 > 300)))) else (some (decide (x3 > 300)))
noncomputable def dragnetlaw13_great.f (k : Nat) (l0 : List (S37)) : Option (Bool) := dragnetlaw13_great.l0 k l0 (l0.length : Int) 0
theorem dragnetlaw13_great.mono_l : ∀ k, (∀ y0 y1 y2, LeO (dragnetlaw13_great.l0 k y0 y1 y2) (dragnetlaw13_great.l0 (k + 1) y0 y1 y2))
 | 0 => fun _ _ _ r h => by simp [dragnetlaw13_great.l0] at h
 | k + 1 => by
  have ih0 := dragnetlaw13_great.mono_l k
  ·intro y0 y1 y2
   unfold dragnetlaw13_great.l0
   repeat' first
   | (with_reducible exact ih0 _ _ _)
   | (with_reducible exact LeO.refl _)
   | (with_reducible exact LeO.none _)
   | (with_reducible refine LeO.ite ?_ ?_)
   | (with_reducible refine LeO.bind ?_ (fun _ => ?_))
theorem dragnetlaw13_great.mono : ∀ a0 k, LeO (dragnetlaw13_great.f k a0) (dragnetlaw13_great.f (k + 1) a0) := by
 intro a0 k
 have ih0 := dragnetlaw13_great.mono_l k
 unfold dragnetlaw13_great.f
 repeat' first
   | (with_reducible exact ih0 _ _ _)
   | (with_reducible exact LeO.refl _)
   | (with_reducible exact LeO.none _)
   | (with_reducible refine LeO.ite ?_ ?_)
   | (with_reducible refine LeO.bind ?_ (fun _ => ?_))
set_option maxHeartbeats 8000000 in
set_option maxRecDepth 100000 in
theorem dragnetlaw13_great.calls (k : Nat) (A0 : Option Addr) (c0 : Nat) (l0 : List (S37)) (r : Bool) (w : World) (hr0 : Kd.C k37 w A0 l0.length l0) (hc0 : l0.length ≤ c0) (h : dragnetlaw13_great.f k l0 = some r) :
  Calls Try.prog 10 #[.slice A0 l0.length c0] w fun e w' => e = .returned (.bool r) ∧ Drawn0 w w' := by
 have HR0 := Aside0.mk hr0
 have HC0 := Aside0.mk hc0
 clear hr0 hc0
 have H : (dragnetlaw13_great.l0 k l0 (l0.length : Int) 0) = some r := h
 clear h
 have H' := Aside0.mk H
 clear H
 go_enter Try.func10, Try.ntmps10
 go_wp2
 go_loopg [3, 4] k (fun kq v3 v4 w' => ∃ (x3_1 : Int) (x4_1 : Int), v3 = .int .i64 x3_1 ∧ v4 = .int .i64 x4_1 ∧ Aside0 (dragnetlaw13_great.l0 kq l0 x3_1 x4_1 = some r) ∧ Aside0 (kq ≤ k) ∧ Drawn0 w w')
 case atStart => exact ⟨((l0.length : Int)), (0), (by first | rfl | (simp; done) | (simp [*]; done)), (by first | rfl | (simp; done) | (simp [*]; done)), H', ⟨Nat.le_refl _⟩, by repeat (first | exact Drawn0.refl _ | apply Drawn0.step)⟩
 case round =>
  clear H'
  obtain ⟨x3_1, x4_1, rfl, rfl, HA, HK1, ⟨m1, rfl⟩⟩ := hrel
  cases gk with
  | zero => exact absurd HA.out (by simp [dragnetlaw13_great.l0])
  | succ k1 =>
   have H := HA.out
   clear HA
   simp only [dragnetlaw13_great.l0] at H
   by_cases c2 : x4_1 < (l0.length : Int)
   rotate_left
   ·rw [if_neg c2] at H
    have c2b0 : decide (x4_1 < (l0.length : Int)) = false := decide_eq_false c2
    clear c2
    obtain rfl := Option.some.inj H
    go_wp2
    go_ret
    exact ⟨by first | rfl | (simp; done) | (simp [*]; done), by repeat (first | exact Drawn0.refl _ | apply Drawn0.step)⟩
   rw [if_pos c2] at H
   have c2b0 : decide (x4_1 < (l0.length : Int)) = true := decide_eq_true c2
   clear c2
   by_cases c3 : x3_1 ≤ 300
   rotate_left
   ·rw [if_neg c3] at H
    have c3b0 : decide (x3_1 ≤ 300) = false := decide_eq_false c3
    clear c3
    obtain rfl := Option.some.inj H
    go_wp2
    go_ret
    exact ⟨by first | rfl | (simp; done) | (simp [*]; done), by repeat (first | exact Drawn0.refl _ | apply Drawn0.step)⟩
   rw [if_pos c3] at H
   have c3b0 : decide (x3_1 ≤ 300) = true := decide_eq_true c3
   clear c3
   by_cases c4 : 0 ≤ x4_1
   rotate_left
   ·rw [if_neg c4] at H
    exact absurd H (by simp)
   rw [if_pos c4] at H
   have c4b0 : decide (0 ≤ x4_1) = true := decide_eq_true c4
   clear c4
   have H' := Aside0.mk H
   clear H
   have p336 : 0 ≤ (x4_1 : Int) := od_
   have q336 : x4_1 < (l0.length : Int) := od_
   obtain ⟨ad336, A336_1, c336_1, e336, hx336_0, hx336_1, hl336_1, hi336_1⟩ := at_T37 HR0.out x4_1 p336 q336
   cases e336
   have HR336_1 := Aside0.mk hi336_1
   have HC336_1 := Aside0.mk hl336_1
   clear hi336_1 hl336_1
   replace p336 := eq_true p336
   replace q336 := eq_true q336
   go_wp2
   go_roundg k1
   case measure => have := HK1.out; omega
   case rel => exact ⟨(wrap64 (x3_1 + (((rd_T37 l0 x4_1).f1).length : Int))), (wrap64 (x4_1 + 1)), (by first | rfl | (simp; done) | (simp [*]; done)), (by first | rfl | (simp; done) | (simp [*]; done)), H', ⟨by have := HK1.out; omega⟩, by repeat (first | exact Drawn0.refl _ | apply Drawn0.step)⟩
noncomputable def dragnetref01_Copy.f (l0 : List Int) : Option (List Int) := (some (([] : List Int) : List Int)).bind fun y337 => (if y337.length + l0.length < 140737488355328 then (some (y337 ++ l0)) else (none))
set_option maxHeartbeats 8000000 in
set_option maxRecDepth 100000 in
theorem dragnetref01_Copy.calls (A0 : Option Addr) (c0 : Nat) (l0 : List Int) (r : List Int) (w : World) (hr0 : Kd.C (Kd.int .u8) w A0 l0.length l0) (hc0 : l0.length ≤ c0) (h : dragnetref01_Copy.f l0 = some r) :
  Calls Try.prog 11 #[.slice A0 l0.length c0] w fun e w' => ∃ v0_ : Value, e = .returned (v0_) ∧ Kd.R (Kd.int .u8) 5 w' w.heap.size (fun _ => True) v0_ r ∧ Below w.heap.size w w' := by
 have HR0 := Aside0.mk hr0
 have HC0 := Aside0.mk hc0
 clear hr0 hc0
 have HB := Aside0.mk (Below.refl w.heap.size w)
 have H : ((some (([] : List Int) : List Int)).bind fun y337 => (if y337.length + l0.length < 140737488355328 then (some (y337 ++ l0)) else (none))) = some r := h
 clear h
 obtain ⟨y337, hy337⟩ : ∃ y_ : List Int, y_ = (([] : List Int)) := ⟨_, rfl⟩
 replace H : (if y337.length + l0.length < 140737488355328 then (some (y337 ++ l0)) else (none)) = some r := by first | (rw [hy337]; with_reducible exact H) | (have H2_ := (Option.bind_some _ _).symm.trans H; rw [hy337]; with_reducible exact H2_) | (have H2_ := (Option.bind_some _ _).symm.trans H; with_reducible exact H2_) | with_reducible exact H | (rw [hy337]; exact H) | exact H
 have Ny337 := Aside0.mk hy337
 clear hy337
 by_cases c2 : y337.length + l0.length < 140737488355328
 rotate_left
 ·rw [if_neg c2] at H
  exact absurd H (by simp)
 rw [if_pos c2] at H
 have LMc2 := Aside0.mk c2
 clear c2
 obtain ⟨y340, hy340⟩ : ∃ y_ : List Int, y_ = (y337 ++ l0) := ⟨_, rfl⟩
 replace H : (some y340) = some r := by first | (rw [hy340]; with_reducible exact H) | (have H2_ := (Option.bind_some _ _).symm.trans H; rw [hy340]; with_reducible exact H2_) | (have H2_ := (Option.bind_some _ _).symm.trans H; with_reducible exact H2_) | with_reducible exact H | (rw [hy340]; exact H) | exact H
 have Ny340 := Aside0.mk hy340
 clear hy340
 obtain rfl := Option.some.inj H
 go_enter Try.func11, Try.ntmps11
 go_wp2_with (first | ((with_reducible refine gate_dst (N := 3) rfl ?_); refine Kd.R_lit (Kd.int .u8) _ 5 ?hg (N := 3) ?hd (xs := ([] : List Int)) (inner := []) (ok := fun _ => True) (okp := fun _ => True) ?hr ?hp (fun _ hk => hk) trivial (Below.refl _ _) (Nat.le_refl _) (by simp) ?_; (case hd => rfl); (case hg => rfl); (case hr => first | (go_simp; done) | (go_simp; rfl)); (case hp => exact (Reps.none _ _)); intro v338 w3 ho4 hb hg_ hnew_; clear hg_ hnew_; (first | rw [← Ny337.out] at ho4 | (simp only [Int.reduceToNat] at ho4; rw [← Ny337.out] at ho4)); have HO339 := Aside0.mk (Kd.R_lower ho4 (pbS_ bw_)); replace HB := Aside0.mk (below_step bw_ hb); clear hb ho4) | ((with_reducible refine gate_builtin (b := .append) (xs := #[.tmp 3, .tmp 4]) rfl ?_); at_builtin; refine Kd.R_append_rows (Kd.int .u8) (w0 := w) w.heap.size rfl (.tmp 3) (.tmp 4) 22 5 (.int .u8 0) 1 rfl Try.underlying22 info5 rfl (by decide) (by omega) v338 y337 l0 _ _ _ (fun _ => True) (fun _ => False) rfl rfl ?aO ?aR (fun _ _ h => h) (fun _ h => h.elim) ?aF ?aB ?aS ?aL ?_; (case aR => exact Kd.cu_ (Kd.C_below HR0.out HB.out)); (case aB => exact bw_); (case aF => exact (fun _ _ => trivial)); (case aO => exact (Kd.ru_ HO339.out)); (case aS => exact (pbS_ bw_)); (case aL => have := LMc2.out; omega); intro v341 w5 ho hb hg hat; rw [← Ny340.out] at ho; have n0_ := Aside0.mk (hb); have n1_ := Aside0.mk (ho); clear HB; clear HO339; have HB := n0_; have HO342 := n1_; clear n0_ n1_; clear ho hb hg hat))
 go_ret
 exact ⟨_, rf_, by (with_reducible repeat (first | apply Kd.rA_ | apply Kd.rN_ | apply Kd.rD_)); exact HO342.out, bw_⟩
end Go.Proofs.Ytooeclfeallkkaa.P
end
section
namespace Go.Proofs.Ytooeclfeallkkaa.P
open Go.RowKit Go.Proofs.YtooeclfeallkkaaW.PrintWords Go.Proofs.YtooeclfeallkkaaW.PrintLast Go.Proofs.YtooeclfeallkkaaW.PrintMore
attribute [local go_sem] max2_int min2_int max_two min_two max_three min_three max_four min_four
set_option linter.unusedVariables false
set_option linter.unusedSimpArgs false
def dragnetref01_Same.f (l0 : List Int) (l1 : List Int) : Option (Bool) := some ((strOfNums l0).toList == (strOfNums l1).toList)
set_option maxHeartbeats 8000000 in
set_option maxRecDepth 100000 in
theorem dragnetref01_Same.calls (A0 : Option Addr) (c0 : Nat) (l0 : List Int) (A1 : Option Addr) (c1 : Nat) (l1 : List Int) (r : Bool) (w : World) (hr0 : Kd.C (Kd.int .u8) w A0 l0.length l0) (hc0 : l0.length ≤ c0) (hr1 : Kd.C (Kd.int .u8) w A1 l1.length l1) (hc1 : l1.length ≤ c1) (h : dragnetref01_Same.f l0 l1 = some r) :
  Calls Try.prog 14 #[.slice A0 l0.length c0, .slice A1 l1.length c1] w fun e w' => e = .returned (.bool r) ∧ Drawn0 w w' := by
 have HR0 := Aside0.mk hr0
 have HC0 := Aside0.mk hc0
 clear hr0 hc0
 have HR1 := Aside0.mk hr1
 have HC1 := Aside0.mk hc1
 clear hr1 hc1
 have H : (some ((strOfNums l0).toList == (strOfNums l1).toList)) = some r := h
 clear h
 obtain rfl := Option.some.inj H
 have hcv3 := Kd.C_string (P := Try.prog) (A := A0) (c := c0) Try.underlying22 Try.underlying5 Try.underlying9 HR0.out
 have hcv4 := Kd.C_string (P := Try.prog) (A := A1) (c := c1) Try.underlying22 Try.underlying5 Try.underlying9 HR1.out
 go_enter Try.func14, Try.ntmps14
 go_wp2
 go_ret
 exact ⟨by first | rfl | (simp; done) | (simp [*]; done), by repeat (first | exact Drawn0.refl _ | apply Drawn0.step)⟩
def dragnetref09_Ints.l0 : Nat → List Int → List Int → Int → Option (Bool)
 | 0, _, _, _ => none
 | k + 1, x0, x1, x5 => if x5 < (x0.length : Int) then (if 0 ≤ x5 then (if x5 < (x1.length : Int) then (if (rd x0 x5) = (rd x1 x5) then (dragnetref09_Ints.l0 k x0 x1 (wrap64 (x5 + 1))) else (some false)) else (none)) else (none)) else (some true)
def dragnetref09_Ints.f (k : Nat) (l0 : List Int) (l1 : List Int) : Option (Bool) := if (l0.length : Int) = (l1.length : Int) then (dragnetref09_Ints.l0 k l0 l1 0) else (some false)
theorem dragnetref09_Ints.mono_l : ∀ k, (∀ y0 y1 y2, LeO (dragnetref09_Ints.l0 k y0 y1 y2) (dragnetref09_Ints.l0 (k + 1) y0 y1 y2))
 | 0 => fun _ _ _ r h => by simp [dragnetref09_Ints.l0] at h
 | k + 1 => by
  have ih0 := dragnetref09_Ints.mono_l k
  ·intro y0 y1 y2
   unfold dragnetref09_Ints.l0
   repeat' first
   | (with_reducible exact ih0 _ _ _)
   | (with_reducible exact LeO.refl _)
   | (with_reducible exact LeO.none _)
   | (with_reducible refine LeO.ite ?_ ?_)
   | (with_reducible refine LeO.bind ?_ (fun _ => ?_))
theorem dragnetref09_Ints.mono : ∀ a0 a1 k, LeO (dragnetref09_Ints.f k a0 a1) (dragnetref09_Ints.f (k + 1) a0 a1) := by
 intro a0 a1 k
 have ih0 := dragnetref09_Ints.mono_l k
 unfold dragnetref09_Ints.f
 repeat' first
   | (with_reducible exact ih0 _ _ _)
   | (with_reducible exact LeO.refl _)
   | (with_reducible exact LeO.none _)
   | (with_reducible refine LeO.ite ?_ ?_)
   | (with_reducible refine LeO.bind ?_ (fun _ => ?_))
set_option maxHeartbeats 8000000 in
set_option maxRecDepth 100000 in
theorem dragnetref09_Ints.calls (k : Nat) (A0 : Option Addr) (c0 : Nat) (l0 : List Int) (A1 : Option Addr) (c1 : Nat) (l1 : List Int) (r : Bool) (w : World) (hr0 : Kd.C (Kd.int .i64) w A0 l0.length l0) (hc0 : l0.length ≤ c0) (hr1 : Kd.C (Kd.int .i64) w A1 l1.length l1) (hc1 : l1.length ≤ c1) (h : dragnetref09_Ints.f k l0 l1 = some r) :
  Calls Try.prog 41 #[.slice A0 l0.length c0, .slice A1 l1.length c1] w fun e w' => e = .returned (.bool r) ∧ Drawn0 w w' := by
 have HR0 := Aside0.mk hr0
 have HC0 := Aside0.mk hc0
 clear hr0 hc0
 have HR1 := Aside0.mk hr1
 have HC1 := Aside0.mk hc1
 clear hr1 hc1
 have H : (if (l0.length : Int) = (l1.length : Int) then (dragnetref09_Ints.l0 k l0 l1 0) else (some false)) = some r := h
 clear h
 by_cases c3 : (l0.length : Int) = (l1.length : Int)
 rotate_left
 ·rw [if_neg c3] at H
  have c3b0 : ((l0.length : Int) == (l1.length : Int)) = false := beq_eq_false_iff_ne.mpr c3
  have c3b1 : ((l0.length : Int) != (l1.length : Int)) = true := bne_iff_ne.mpr c3
  have c3b2 : (l0.length == l1.length) = false := by first | simpa using c3 | (simp at c3 ⊢; omega)
  obtain rfl := Option.some.inj H
  go_enter Try.func41, Try.ntmps41
  go_wp2
  go_ret
  exact ⟨by first | rfl | (simp; done) | (simp [*]; done), by repeat (first | exact Drawn0.refl _ | apply Drawn0.step)⟩
 rw [if_pos c3] at H
 have c3b0 : ((l0.length : Int) == (l1.length : Int)) = true := beq_iff_eq.mpr c3
 have c3b1 : ((l0.length : Int) != (l1.length : Int)) = false := bne_eq_false_iff_eq.mpr c3
 have c3b2 : (l0.length == l1.length) = true := by first | simpa using c3 | (simp at c3 ⊢; omega)
 clear c3
 have H' := Aside0.mk H
 clear H
 go_enter Try.func41, Try.ntmps41
 go_wp2
 go_loopg [5] k (fun kq v5 w' => ∃ (x5_1 : Int), v5 = .int .i64 x5_1 ∧ Aside0 (dragnetref09_Ints.l0 kq l0 l1 x5_1 = some r) ∧ Aside0 (kq ≤ k) ∧ Drawn0 w w')
 case atStart => exact ⟨(0), (by first | rfl | (simp; done) | (simp [*]; done)), H', ⟨Nat.le_refl _⟩, by repeat (first | exact Drawn0.refl _ | apply Drawn0.step)⟩
 case round =>
  clear H'
  clear c3b0 c3b1 c3b2
  obtain ⟨x5_1, rfl, HA, HK1, ⟨m1, rfl⟩⟩ := hrel
  cases gk with
  | zero => exact absurd HA.out (by simp [dragnetref09_Ints.l0])
  | succ k1 =>
   have H := HA.out
   clear HA
   simp only [dragnetref09_Ints.l0] at H
   by_cases c4 : x5_1 < (l0.length : Int)
   rotate_left
   ·rw [if_neg c4] at H
    have c4b0 : decide (x5_1 < (l0.length : Int)) = false := decide_eq_false c4
    clear c4
    obtain rfl := Option.some.inj H
    go_wp2
    go_ret
    exact ⟨by first | rfl | (simp; done) | (simp [*]; done), by repeat (first | exact Drawn0.refl _ | apply Drawn0.step)⟩
   rw [if_pos c4] at H
   have c4b0 : decide (x5_1 < (l0.length : Int)) = true := decide_eq_true c4
   clear c4
   by_cases c5 : 0 ≤ x5_1
   rotate_left
   ·rw [if_neg c5] at H
    exact absurd H (by simp)
   rw [if_pos c5] at H
   have c5b0 : decide (0 ≤ x5_1) = true := decide_eq_true c5
   clear c5
   by_cases c6 : x5_1 < (l1.length : Int)
   rotate_left
   ·rw [if_neg c6] at H
    exact absurd H (by simp)
   rw [if_pos c6] at H
   have c6b0 : decide (x5_1 < (l1.length : Int)) = true := decide_eq_true c6
   clear c6
   by_cases c7 : (rd l0 x5_1) = (rd l1 x5_1)
   rotate_left
   ·rw [if_neg c7] at H
    have c7b0 : ((rd l0 x5_1) == (rd l1 x5_1)) = false := beq_eq_false_iff_ne.mpr c7
    have c7b1 : ((rd l0 x5_1) != (rd l1 x5_1)) = true := bne_iff_ne.mpr c7
    obtain rfl := Option.some.inj H
    have p354 : 0 ≤ (x5_1 : Int) := od_
    have q354 : x5_1 < (l0.length : Int) := od_
    obtain ⟨ad354, e354, hx354_0⟩ := Kd.at_int HR0.out x5_1 p354 q354
    cases e354
    replace p354 := eq_true p354
    replace q354 := eq_true q354
    have p355 : 0 ≤ (x5_1 : Int) := od_
    have q355 : x5_1 < (l1.length : Int) := od_
    obtain ⟨ad355, e355, hx355_0⟩ := Kd.at_int HR1.out x5_1 p355 q355
    cases e355
    replace p355 := eq_true p355
    replace q355 := eq_true q355
    go_wp2
    repeat (go_quiet (fail); try go_wp2)
    go_ret
    exact ⟨by first | rfl | (simp; done) | (simp [*]; done), by repeat (first | exact Drawn0.refl _ | apply Drawn0.step)⟩
   rw [if_pos c7] at H
   have c7b0 : ((rd l0 x5_1) == (rd l1 x5_1)) = true := beq_iff_eq.mpr c7
   have c7b1 : ((rd l0 x5_1) != (rd l1 x5_1)) = false := bne_eq_false_iff_eq.mpr c7
   clear c7
   have H' := Aside0.mk H
   clear H
   have p354 : 0 ≤ (x5_1 : Int) := od_
   have q354 : x5_1 < (l0.length : Int) := od_
   obtain ⟨ad354, e354, hx354_0⟩ := Kd.at_int HR0.out x5_1 p354 q354
   cases e354
   replace p354 := eq_true p354
   replace q354 := eq_true q354
   have p355 : 0 ≤ (x5_1 : Int) := od_
   have q355 : x5_1 < (l1.length : Int) := od_
   obtain ⟨ad355, e355, hx355_0⟩ := Kd.at_int HR1.out x5_1 p355 q355
   cases e355
   replace p355 := eq_true p355
   replace q355 := eq_true q355
   go_wp2
   repeat (go_quiet (fail); try go_wp2)
   go_roundg k1
   case measure => have := HK1.out; omega
   case rel => exact ⟨(wrap64 (x5_1 + 1)), (by first | rfl | (simp; done) | (simp [*]; done)), H', ⟨by have := HK1.out; omega⟩, by repeat (first | exact Drawn0.refl _ | apply Drawn0.step)⟩
def dragnetref13_SamePost.f (k : Nat) (a0_0 : Int) (l0_1 : List Int) (a1_0 : Int) (l1_1 : List Int) : Option (Bool) := if a0_0 = a1_0 then ((dragnetref09_Ints.f k l0_1 l1_1).bind fun t358 => (some t358)) else (some false)
theorem dragnetref13_SamePost.mono : ∀ a0 a1 a2 a3 k, LeO (dragnetref13_SamePost.f k a0 a1 a2 a3) (dragnetref13_SamePost.f (k + 1) a0 a1 a2 a3) := by
 intro a0 a1 a2 a3 k
 unfold dragnetref13_SamePost.f
 repeat' first
   | (with_reducible exact dragnetref09_Ints.mono _ _ _)
   | (with_reducible exact LeO.refl _)
   | (with_reducible exact LeO.none _)
   | (with_reducible refine LeO.ite ?_ ?_)
   | (with_reducible refine LeO.bind ?_ (fun _ => ?_))
set_option maxHeartbeats 8000000 in
set_option maxRecDepth 100000 in
theorem dragnetref13_SamePost.calls (k : Nat) (a0_0 : Int) (A0_1 : Option Addr) (c0_1 : Nat) (l0_1 : List Int) (a1_0 : Int) (A1_1 : Option Addr) (c1_1 : Nat) (l1_1 : List Int) (r : Bool) (w : World) (hr0_1 : Kd.C (Kd.int .i64) w A0_1 l0_1.length l0_1) (hc0_1 : l0_1.length ≤ c0_1) (hr1_1 : Kd.C (Kd.int .i64) w A1_1 l1_1.length l1_1) (hc1_1 : l1_1.length ≤ c1_1) (h : dragnetref13_SamePost.f k a0_0 l0_1 a1_0 l1_1 = some r) :
  Calls Try.prog 21 #[.agg #[.int .i64 a0_0, .slice A0_1 l0_1.length c0_1], .agg #[.int .i64 a1_0, .slice A1_1 l1_1.length c1_1]] w fun e w' => e = .returned (.bool r) ∧ Below w.heap.size w w' := by
 have hu37 := Try.underlying37
 have HR0_1 := Aside0.mk hr0_1
 have HC0_1 := Aside0.mk hc0_1
 clear hr0_1 hc0_1
 have HR1_1 := Aside0.mk hr1_1
 have HC1_1 := Aside0.mk hc1_1
 clear hr1_1 hc1_1
 have HB := Aside0.mk (Below.refl w.heap.size w)
 have H : (if a0_0 = a1_0 then ((dragnetref09_Ints.f k l0_1 l1_1).bind fun t358 => (some t358)) else (some false)) = some r := h
 clear h
 by_cases c3 : a0_0 = a1_0
 rotate_left
 ·rw [if_neg c3] at H
  have c3b0 : (a0_0 == a1_0) = false := beq_eq_false_iff_ne.mpr c3
  have c3b1 : (a0_0 != a1_0) = true := bne_iff_ne.mpr c3
  obtain rfl := Option.some.inj H
  go_enter Try.func21, Try.ntmps21
  go_wp2_with (first | ((with_reducible refine gate_dst (N := 2) rfl ?_); refine box_event ?hg (N := 2) ?hd (cs := #[.int .i64 a0_0, .slice A0_1 l0_1.length c0_1]) (t := 37) ?hr ?_; (case hd => rfl); (case hg => rfl); (case hr => first | (go_simp; done) | (go_simp; rfl)); intro gb356 hg w10 hbox hb; have n0_ := Aside0.mk (below_step bw_ hb); have n1_ := Aside0.mk (hbox); have n2_ := Aside0.mk ((by rw [hg]; exact (pbS_ bw_) : w.heap.size ≤ gb356)); have n3_ := Aside0.mk ((by rw [hg]; exact (pbS_ bw_) : w.heap.size ≤ gb356)); clear HB; have HB := n0_; have BK356 := n1_; have GW356 := n2_; have GE356 := n3_; clear n0_ n1_ n2_ n3_; clear hb hbox hg) | ((with_reducible refine gate_dst (N := 3) rfl ?_); refine box_event ?hg (N := 3) ?hd (cs := #[.int .i64 a1_0, .slice A1_1 l1_1.length c1_1]) (t := 37) ?hr ?_; (case hd => rfl); (case hg => rfl); (case hr => first | (go_simp; done) | (go_simp; rfl)); intro gb357 hg w11 hbox hb; have n0_ := Aside0.mk (blk_below (g := gb356) (o := .cells #[.int .i64 a0_0, .slice A0_1 l0_1.length c0_1] 37 (0, 0)) (by (with_reducible repeat (first | refine blk_drewN ?_ _ | refine blk_drew ?_ | refine blk_alloc ?_ _)); exact BK356.out) hb); have n1_ := Aside0.mk (below_step (by repeat (first | (with_reducible first | exact HB.out | apply pbA_ | apply pbN_ | apply pb1_ | refine below_set ?_ GE356.out) | exact HB.out)) hb); have n2_ := Aside0.mk (hbox); have n3_ := Aside0.mk ((by rw [hg]; exact (pbS_ (by repeat (first | (with_reducible first | exact HB.out | apply pbA_ | apply pbN_ | apply pb1_ | refine below_set ?_ GE356.out) | exact HB.out))) : w.heap.size ≤ gb357)); have n4_ := Aside0.mk ((by rw [hg]; exact (pbS_ (by repeat (first | (with_reducible first | exact HB.out | apply pbA_ | apply pbN_ | apply pb1_ | refine below_set ?_ GE356.out) | exact HB.out))) : w.heap.size ≤ gb357)); have n5_ := Aside0.mk ((by rw [hg]; exact Nat.ne_of_lt (blk_lt (g := gb356) (o := .cells #[.int .i64 a0_0, .slice A0_1 l0_1.length c0_1] 37 (0, 0)) (by (with_reducible repeat (first | refine blk_drewN ?_ _ | refine blk_drew ?_ | refine blk_alloc ?_ _)); exact BK356.out)) : gb356 ≠ gb357)); have n6_ := Aside0.mk ((by rw [hg]; exact Nat.ne_of_gt (blk_lt (g := gb356) (o := .cells #[.int .i64 a0_0, .slice A0_1 l0_1.length c0_1] 37 (0, 0)) (by (with_reducible repeat (first | refine blk_drewN ?_ _ | refine blk_drew ?_ | refine blk_alloc ?_ _)); exact BK356.out)) : gb357 ≠ gb356)); clear BK356; clear HB; have BK356 := n0_; have HB := n1_; have BK357 := n2_; have GW357 := n3_; have GE357 := n4_; have NB356_357 := n5_; have NB357_356 := n6_; clear n0_ n1_ n2_ n3_ n4_ n5_ n6_; clear hb hbox hg; have hnb12 := NB356_357.out; have hnc12 := NB357_356.out; have hcz13_0 : w11.cell? ⟨gb356, 0, none⟩ = some (.int .i64 a0_0) := (blk_cell BK356.out 0).trans rfl; have hcz13_1 : w11.cell? ⟨gb356, 1, none⟩ = some (.slice A0_1 l0_1.length c0_1) := (blk_cell BK356.out 1).trans rfl; have hfz13_0 := blk_frozen BK356.out 0; have hfz13_1 := blk_frozen BK356.out 1; have hcz14_0 : w11.cell? ⟨gb357, 0, none⟩ = some (.int .i64 a1_0) := (blk_cell BK357.out 0).trans rfl; have hcz14_1 : w11.cell? ⟨gb357, 1, none⟩ = some (.slice A1_1 l1_1.length c1_1) := (blk_cell BK357.out 1).trans rfl; have hfz14_0 := blk_frozen BK357.out 0; have hfz14_1 := blk_frozen BK357.out 1))
  go_ret
  exact ⟨rf_, by repeat (first | (with_reducible first | exact HB.out | apply pbA_ | apply pbN_ | apply pb1_ | refine below_set ?_ GE356.out | refine below_set ?_ GE357.out) | exact HB.out)⟩
 rw [if_pos c3] at H
 have c3b0 : (a0_0 == a1_0) = true := beq_iff_eq.mpr c3
 have c3b1 : (a0_0 != a1_0) = false := bne_eq_false_iff_eq.mpr c3
 clear c3
 replace H := Option.bind_eq_some_iff.mp H
 obtain ⟨t358, A40, H⟩ := H
 replace H : (some t358) = some r := H
 have A4 := Aside0.mk A40
 clear A40
 obtain rfl := Option.some.inj H
 go_enter Try.func21, Try.ntmps21
 go_wp2_with (first | ((with_reducible refine gate_dst (N := 2) rfl ?_); refine box_event ?hg (N := 2) ?hd (cs := #[.int .i64 a0_0, .slice A0_1 l0_1.length c0_1]) (t := 37) ?hr ?_; (case hd => rfl); (case hg => rfl); (case hr => first | (go_simp; done) | (go_simp; rfl)); intro gb356 hg w5 hbox hb; have n0_ := Aside0.mk (below_step bw_ hb); have n1_ := Aside0.mk (hbox); have n2_ := Aside0.mk ((by rw [hg]; exact (pbS_ bw_) : w.heap.size ≤ gb356)); have n3_ := Aside0.mk ((by rw [hg]; exact (pbS_ bw_) : w.heap.size ≤ gb356)); clear HB; have HB := n0_; have BK356 := n1_; have GW356 := n2_; have GE356 := n3_; clear n0_ n1_ n2_ n3_; clear hb hbox hg) | ((with_reducible refine gate_dst (N := 3) rfl ?_); refine box_event ?hg (N := 3) ?hd (cs := #[.int .i64 a1_0, .slice A1_1 l1_1.length c1_1]) (t := 37) ?hr ?_; (case hd => rfl); (case hg => rfl); (case hr => first | (go_simp; done) | (go_simp; rfl)); intro gb357 hg w6 hbox hb; have n0_ := Aside0.mk (blk_below (g := gb356) (o := .cells #[.int .i64 a0_0, .slice A0_1 l0_1.length c0_1] 37 (0, 0)) (by (with_reducible repeat (first | refine blk_drewN ?_ _ | refine blk_drew ?_ | refine blk_alloc ?_ _)); exact BK356.out) hb); have n1_ := Aside0.mk (below_step (by repeat (first | (with_reducible first | exact HB.out | apply pbA_ | apply pbN_ | apply pb1_ | refine below_set ?_ GE356.out) | exact HB.out)) hb); have n2_ := Aside0.mk (hbox); have n3_ := Aside0.mk ((by rw [hg]; exact (pbS_ (by repeat (first | (with_reducible first | exact HB.out | apply pbA_ | apply pbN_ | apply pb1_ | refine below_set ?_ GE356.out) | exact HB.out))) : w.heap.size ≤ gb357)); have n4_ := Aside0.mk ((by rw [hg]; exact (pbS_ (by repeat (first | (with_reducible first | exact HB.out | apply pbA_ | apply pbN_ | apply pb1_ | refine below_set ?_ GE356.out) | exact HB.out))) : w.heap.size ≤ gb357)); have n5_ := Aside0.mk ((by rw [hg]; exact Nat.ne_of_lt (blk_lt (g := gb356) (o := .cells #[.int .i64 a0_0, .slice A0_1 l0_1.length c0_1] 37 (0, 0)) (by (with_reducible repeat (first | refine blk_drewN ?_ _ | refine blk_drew ?_ | refine blk_alloc ?_ _)); exact BK356.out)) : gb356 ≠ gb357)); have n6_ := Aside0.mk ((by rw [hg]; exact Nat.ne_of_gt (blk_lt (g := gb356) (o := .cells #[.int .i64 a0_0, .slice A0_1 l0_1.length c0_1] 37 (0, 0)) (by (with_reducible repeat (first | refine blk_drewN ?_ _ | refine blk_drew ?_ | refine blk_alloc ?_ _)); exact BK356.out)) : gb357 ≠ gb356)); clear BK356; clear HB; have BK356 := n0_; have HB := n1_; have BK357 := n2_; have GW357 := n3_; have GE357 := n4_; have NB356_357 := n5_; have NB357_356 := n6_; clear n0_ n1_ n2_ n3_ n4_ n5_ n6_; clear hb hbox hg; have hnb7 := NB356_357.out; have hnc7 := NB357_356.out; have hcz8_0 : w6.cell? ⟨gb356, 0, none⟩ = some (.int .i64 a0_0) := (blk_cell BK356.out 0).trans rfl; have hcz8_1 : w6.cell? ⟨gb356, 1, none⟩ = some (.slice A0_1 l0_1.length c0_1) := (blk_cell BK356.out 1).trans rfl; have hfz8_0 := blk_frozen BK356.out 0; have hfz8_1 := blk_frozen BK356.out 1; have hcz9_0 : w6.cell? ⟨gb357, 0, none⟩ = some (.int .i64 a1_0) := (blk_cell BK357.out 0).trans rfl; have hcz9_1 : w6.cell? ⟨gb357, 1, none⟩ = some (.slice A1_1 l1_1.length c1_1) := (blk_cell BK357.out 1).trans rfl; have hfz9_0 := blk_frozen BK357.out 0; have hfz9_1 := blk_frozen BK357.out 1) | (go_at_call 41; (with_reducible refine (dragnetref09_Ints.calls k _ _ l0_1 _ _ l1_1 t358 _ ?side1 ?side2 ?side3 ?side4 A4.out).mono ?_); (case side1 => exact Kd.cu_ (Kd.C_below HR0_1.out HB.out)); (case side2 => exact HC0_1.out); (case side3 => exact Kd.cu_ (Kd.C_below HR1_1.out HB.out)); (case side4 => exact HC1_1.out); rintro e w' ⟨rfl, ⟨nd, rfl⟩⟩))
 go_ret
 exact ⟨rf_, by repeat (first | (with_reducible first | exact HB.out | apply pbA_ | apply pbN_ | apply pb1_ | refine below_set ?_ GE356.out | refine below_set ?_ GE357.out) | exact HB.out)⟩
def dragnetref13_Same.l0 : Nat → List (S37) → List (S37) → Int → Option (Bool)
 | 0, _, _, _ => none
 | k + 1, x0, x1, x5 => if x5 < (x0.length : Int) then (if 0 ≤ x5 then (if x5 < (x1.length : Int) then ((dragnetref13_SamePost.f k ((rd_T37 x0 x5).f0) ((rd_T37 x0 x5).f1) ((rd_T37 x1 x5).f0) ((rd_T37 x1 x5).f1)).bind fun t361 => (if t361 = true then (dragnetref13_Same.l0 k x0 x1 (wrap64 (x5 + 1))) else (some false))) else (none)) else (none)) else (some true)
def dragnetref13_Same.f (k : Nat) (l0 : List (S37)) (l1 : List (S37)) : Option (Bool) := if (l0.length : Int) = (l1.length : Int) then (dragnetref13_Same.l0 k l0 l1 0) else (some false)
theorem dragnetref13_Same.mono_l : ∀ k, (∀ y0 y1 y2, LeO (dragnetref13_Same.l0 k y0 y1 y2) (dragnetref13_Same.l0 (k + 1) y0 y1 y2))
 | 0 => fun _ _ _ r h => by simp [dragnetref13_Same.l0] at h
 | k + 1 => by
  have ih0 := dragnetref13_Same.mono_l k
  ·intro y0 y1 y2
   unfold dragnetref13_Same.l0
   repeat' first
   | (with_reducible exact ih0 _ _ _)
   | (with_reducible exact dragnetref13_SamePost.mono _ _ _ _ _)
   | (with_reducible exact LeO.refl _)
   | (with_reducible exact LeO.none _)
   | (with_reducible refine LeO.ite ?_ ?_)
   | (with_reducible refine LeO.bind ?_ (fun _ => ?_))
theorem dragnetref13_Same.mono : ∀ a0 a1 k, LeO (dragnetref13_Same.f k a0 a1) (dragnetref13_Same.f (k + 1) a0 a1) := by
 intro a0 a1 k
 have ih0 := dragnetref13_Same.mono_l k
 unfold dragnetref13_Same.f
 repeat' first
   | (with_reducible exact ih0 _ _ _)
   | (with_reducible exact dragnetref13_SamePost.mono _ _ _ _ _)
   | (with_reducible exact LeO.refl _)
   | (with_reducible exact LeO.none _)
   | (with_reducible refine LeO.ite ?_ ?_)
   | (with_reducible refine LeO.bind ?_ (fun _ => ?_))
def dragnetref13_Same.T6 : Bool × List (List Nat × List Nat) := (true, [([], []), ([], []), ([0, 1], [0, 1]), ([2], [2]), ([], []), ([], []), ([4, 5], [4, 5]), ([6], [6]), ([3, 7], [3, 7]), ([8], [8])])
def dragnetref13_Same.B6 : List Nat := [0, 0, 3, 7, 0, 0, 48, 112, 255, 511]
theorem dragnetref13_Same.tab6 : rtab .any (opsOf Try.f15 6) = dragnetref13_Same.T6 := by kernel_rfl
theorem dragnetref13_Same.bits6 : waitsOk dragnetref13_Same.T6.2 dragnetref13_Same.B6 = true := by kernel_rfl
set_option maxHeartbeats 8000000 in
set_option maxRecDepth 100000 in
theorem dragnetref13_Same.calls (k : Nat) (A0 : Option Addr) (c0 : Nat) (l0 : List (S37)) (A1 : Option Addr) (c1 : Nat) (l1 : List (S37)) (r : Bool) (w : World) (hr0 : Kd.C k37 w A0 l0.length l0) (hc0 : l0.length ≤ c0) (hr1 : Kd.C k37 w A1 l1.length l1) (hc1 : l1.length ≤ c1) (h : dragnetref13_Same.f k l0 l1 = some r) :
  Calls Try.prog 15 #[.slice A0 l0.length c0, .slice A1 l1.length c1] w fun e w' => e = .returned (.bool r) ∧ Below w.heap.size w w' := by
 have hu37 := Try.underlying37
 have HR0 := Aside0.mk hr0
 have HC0 := Aside0.mk hc0
 clear hr0 hc0
 have HR1 := Aside0.mk hr1
 have HC1 := Aside0.mk hc1
 clear hr1 hc1
 have HB := Aside0.mk (Below.refl w.heap.size w)
 have H : (if (l0.length : Int) = (l1.length : Int) then (dragnetref13_Same.l0 k l0 l1 0) else (some false)) = some r := h
 clear h
 by_cases c3 : (l0.length : Int) = (l1.length : Int)
 rotate_left
 ·rw [if_neg c3] at H
  have c3b0 : ((l0.length : Int) == (l1.length : Int)) = false := beq_eq_false_iff_ne.mpr c3
  have c3b1 : ((l0.length : Int) != (l1.length : Int)) = true := bne_iff_ne.mpr c3
  have c3b2 : (l0.length == l1.length) = false := by first | simpa using c3 | (simp at c3 ⊢; omega)
  obtain rfl := Option.some.inj H
  go_enter Try.func15, Try.ntmps15
  go_wp2
  go_ret
  exact ⟨rf_, bw_⟩
 rw [if_pos c3] at H
 have c3b0 : ((l0.length : Int) == (l1.length : Int)) = true := beq_iff_eq.mpr c3
 have c3b1 : ((l0.length : Int) != (l1.length : Int)) = false := bne_eq_false_iff_eq.mpr c3
 have c3b2 : (l0.length == l1.length) = true := by first | simpa using c3 | (simp at c3 ⊢; omega)
 clear c3
 have H' := Aside0.mk H
 clear H
 go_enter Try.func15, Try.ntmps15
 go_wp2
 go_loopg [5] k (fun kq v5 w' => ∃ (x5_1 : Int), v5 = .int .i64 x5_1 ∧ Aside0 (dragnetref13_Same.l0 kq l0 l1 x5_1 = some r) ∧ Aside0 (kq ≤ k) ∧ Aside0 (Below w.heap.size w w'))
 case atStart => exact ⟨(0), (by first | rfl | (simp; done) | (simp [*]; done)), H', ⟨Nat.le_refl _⟩, ⟨bw_⟩⟩
 case round =>
  clear H'
  clear c3b0 c3b1 c3b2
  obtain ⟨x5_1, rfl, HA, HK1, HB⟩ := hrel
  cases gk with
  | zero => exact absurd HA.out (by simp [dragnetref13_Same.l0])
  | succ k1 =>
   have H := HA.out
   clear HA
   simp only [dragnetref13_Same.l0] at H
   by_cases c4 : x5_1 < (l0.length : Int)
   rotate_left
   ·rw [if_neg c4] at H
    have c4b0 : decide (x5_1 < (l0.length : Int)) = false := decide_eq_false c4
    clear c4
    obtain rfl := Option.some.inj H
    go_wp2
    go_ret
    exact ⟨rf_, bw_⟩
   rw [if_pos c4] at H
   have c4b0 : decide (x5_1 < (l0.length : Int)) = true := decide_eq_true c4
   clear c4
   by_cases c5 : 0 ≤ x5_1
   rotate_left
   ·rw [if_neg c5] at H
    exact absurd H (by simp)
   rw [if_pos c5] at H
   have c5b0 : decide (0 ≤ x5_1) = true := decide_eq_true c5
   clear c5
   by_cases c6 : x5_1 < (l1.length : Int)
   rotate_left
   ·rw [if_neg c6] at H
    exact absurd H (by simp)
   rw [if_pos c6] at H
   have c6b0 : decide (x5_1 < (l1.length : Int)) = true := decide_eq_true c6
   clear c6
   replace H := Option.bind_eq_some_iff.mp H
   obtain ⟨t361, A70, H⟩ := H
   replace H : (if t361 = true then (dragnetref13_Same.l0 k1 l0 l1 (wrap64 (x5_1 + 1))) else (some false)) = some r := H
   have A7 := Aside0.mk A70
   clear A70
   by_cases c8 : t361 = true
   rotate_left
   ·replace c8 := Bool.eq_false_iff.mpr c8
    subst c8
    have H1 : (some false) = some r := by rw [if_neg (show ¬ (false = true) by decide)] at H; exact H
    clear H
    have H := H1
    clear H1
    obtain rfl := Option.some.inj H
    try go_wp2
    have n0_ := Aside0.mk (pb1_ HB.out)
    clear HB
    have HB := n0_
    clear n0_
    have p359 : 0 ≤ (x5_1 : Int) := od_
    have q359 : x5_1 < (l0.length : Int) := od_
    obtain ⟨ad359, A359_1, c359_1, e359, hx359_0, hx359_1, hl359_1, hi359_1⟩ := at_T37 HR0.out x5_1 p359 q359
    have hw359_1 := hx359_1
    have hw359_0 := hx359_0
    cases e359
    replace hx359_0 := (HB.out.cell (World.block_lt_of_cell? w _ hx359_0)).trans hx359_0
    replace hx359_1 := (HB.out.cell (World.block_lt_of_cell? w _ hx359_1)).trans hx359_1
    have HR359_1 := Aside0.mk hi359_1
    have HC359_1 := Aside0.mk hl359_1
    clear hi359_1 hl359_1
    replace p359 := eq_true p359
    replace q359 := eq_true q359
    have p360 : 0 ≤ (x5_1 : Int) := od_
    have q360 : x5_1 < (l1.length : Int) := od_
    obtain ⟨ad360, A360_1, c360_1, e360, hx360_0, hx360_1, hl360_1, hi360_1⟩ := at_T37 HR1.out x5_1 p360 q360
    have hw360_1 := hx360_1
    have hw360_0 := hx360_0
    cases e360
    replace hx360_0 := (HB.out.cell (World.block_lt_of_cell? w _ hx360_0)).trans hx360_0
    replace hx360_1 := (HB.out.cell (World.block_lt_of_cell? w _ hx360_1)).trans hx360_1
    have HR360_1 := Aside0.mk hi360_1
    have HC360_1 := Aside0.mk hl360_1
    clear hi360_1 hl360_1
    replace p360 := eq_true p360
    replace q360 := eq_true q360
    refine start_ (n := 10) (S := fun w' => w'.cell? (ad359.add ((x5_1).toNat * 2)) = some (.int .i64 ((rd_T37 l0 x5_1).f0)) ∧ w'.cell? ⟨(ad359.add ((x5_1).toNat * 2)).block, (ad359.add ((x5_1).toNat * 2)).off + 1, none⟩ = some (.slice A359_1 ((rd_T37 l0 x5_1).f1).length c359_1) ∧ w'.cell? (ad360.add ((x5_1).toNat * 2)) = some (.int .i64 ((rd_T37 l1 x5_1).f0)) ∧ w'.cell? ⟨(ad360.add ((x5_1).toNat * 2)).block, (ad360.add ((x5_1).toNat * 2)).off + 1, none⟩ = some (.slice A360_1 ((rd_T37 l1 x5_1).f1).length c360_1)) (ds := []) #[false, false, false, false, false, false, false, false, false, false] (by kernel_rfl) rfl rfl ⟨((HB.out.cell (World.block_lt_of_cell? w _ hw359_0)).trans hw359_0), ((HB.out.cell (World.block_lt_of_cell? w _ hw359_1)).trans hw359_1), ((HB.out.cell (World.block_lt_of_cell? w _ hw360_0)).trans hw360_0), ((HB.out.cell (World.block_lt_of_cell? w _ hw360_1)).trans hw360_1)⟩ (fun hHeld => ?_); refine with_tabW dragnetref13_Same.tab6 dragnetref13_Same.bits6 (fun HT_ HW_ => ?_)
    generalize wr.drew = w11 at HB HR359_1 HR360_1 hx359_0 hx359_1 hx360_0 hx360_1 hHeld ⊢
    refine pu_ (i := 0) (N := some 17) HT_ #[true, false, false, false, false, false, false, false, false, false] ?_
    refine pu_ (i := 1) (N := some 18) HT_ #[true, true, false, false, false, false, false, false, false, false] ?_
    refine pu_ (i := 2) (N := some 19) HT_ #[true, true, true, false, false, false, false, false, false, false] ?_
    refine pu_ (i := 4) (N := some 21) HT_ #[true, true, true, false, true, false, false, false, false, false] ?_
    refine pu_ (i := 5) (N := some 22) HT_ #[true, true, true, false, true, true, false, false, false, false] ?_
    refine pu_ (i := 6) (N := some 23) HT_ #[true, true, true, false, true, true, true, false, false, false] ?_
    refine ta_ (i := 3) (N := some 20) HT_ HW_ #[true, true, true, true, true, true, true, false, false, false] hHeld ?_
    refine ta_ (i := 7) (N := some 24) HT_ HW_ #[true, true, true, true, true, true, true, true, false, false] hHeld ?_
    refine one_ (i := 8) (N := some 25) #[tT,tT,tT,tT,tT,tT,tT,tT,tT,fF] rfl rfl (one_of HT_.out (by kernel_rfl)) (by decide) (fun K hK => ?_)
    refine goes_ Try.func21 (by kernel_rfl) rfl #[.agg #[.int .i64 ((rd_T37 l0 x5_1).f0), .slice A359_1 ((rd_T37 l0 x5_1).f1).length c359_1], .agg #[.int .i64 ((rd_T37 l1 x5_1).f0), .slice A360_1 ((rd_T37 l1 x5_1).f1).length c360_1]] (by rfl) rfl rfl (by (try simp only [List.map_toArray, List.map_cons, List.map_nil]); first | done | rfl | (simp only [List.length_drop, List.length_take]; rfl)) ?_
    with_reducible refine (dragnetref13_SamePost.calls k1 ((rd_T37 l0 x5_1).f0) _ _ ((rd_T37 l0 x5_1).f1) ((rd_T37 l1 x5_1).f0) _ _ ((rd_T37 l1 x5_1).f1) false _ ?side1 ?side2 ?side3 ?side4 A7.out).mono ?_
    (case side1 => exact Kd.cu_ (Kd.C_below HR359_1.out HB.out))
    (case side2 => exact HC359_1.out)
    (case side3 => exact Kd.cu_ (Kd.C_below HR360_1.out HB.out))
    (case side4 => exact HC360_1.out)
    rintro e w12 ⟨rfl, hb⟩
    refine ⟨_, rfl, ?_⟩
    have n0_ := Aside0.mk (below_step bw_ hb)
    clear HB
    have HB := n0_
    clear n0_
    clear hb
    refine hK.out _ _ ⟨((HB.out.cell (World.block_lt_of_cell? w _ hw359_0)).trans hw359_0), ((HB.out.cell (World.block_lt_of_cell? w _ hw359_1)).trans hw359_1), ((HB.out.cell (World.block_lt_of_cell? w _ hw360_0)).trans hw360_0), ((HB.out.cell (World.block_lt_of_cell? w _ hw360_1)).trans hw360_1)⟩ (fun hHeld => ?_)
    clear hK K
    refine norm_ (a' := ?_) ?_ ?_
    rotate_left
    ·show Act.put _ (some 25) _ = _
     simp only [Act.put, List.setIfInBounds_toArray, List.set_cons_zero, List.set_cons_succ, i64_w, i32_w]
     rfl
    refine pu_ (i := 9) (N := some 26) HT_ #[true, true, true, true, true, true, true, true, true, true] ?_
    refine done_ (done_of HT_.out (by kernel_rfl)) ?_
    try go_wp2
    go_ret
    exact ⟨rf_, bw_⟩
   subst c8
   have H1 : (dragnetref13_Same.l0 k1 l0 l1 (wrap64 (x5_1 + 1))) = some r := by rw [if_pos rfl] at H; exact H
   clear H
   have H := H1
   clear H1
   have H' := Aside0.mk H
   clear H
   try go_wp2
   have n0_ := Aside0.mk (pb1_ HB.out)
   clear HB
   have HB := n0_
   clear n0_
   have p359 : 0 ≤ (x5_1 : Int) := od_
   have q359 : x5_1 < (l0.length : Int) := od_
   obtain ⟨ad359, A359_1, c359_1, e359, hx359_0, hx359_1, hl359_1, hi359_1⟩ := at_T37 HR0.out x5_1 p359 q359
   have hw359_1 := hx359_1
   have hw359_0 := hx359_0
   cases e359
   replace hx359_0 := (HB.out.cell (World.block_lt_of_cell? w _ hx359_0)).trans hx359_0
   replace hx359_1 := (HB.out.cell (World.block_lt_of_cell? w _ hx359_1)).trans hx359_1
   have HR359_1 := Aside0.mk hi359_1
   have HC359_1 := Aside0.mk hl359_1
   clear hi359_1 hl359_1
   replace p359 := eq_true p359
   replace q359 := eq_true q359
   have p360 : 0 ≤ (x5_1 : Int) := od_
   have q360 : x5_1 < (l1.length : Int) := od_
   obtain ⟨ad360, A360_1, c360_1, e360, hx360_0, hx360_1, hl360_1, hi360_1⟩ := at_T37 HR1.out x5_1 p360 q360
   have hw360_1 := hx360_1
   have hw360_0 := hx360_0
   cases e360
   replace hx360_0 := (HB.out.cell (World.block_lt_of_cell? w _ hx360_0)).trans hx360_0
   replace hx360_1 := (HB.out.cell (World.block_lt_of_cell? w _ hx360_1)).trans hx360_1
   have HR360_1 := Aside0.mk hi360_1
   have HC360_1 := Aside0.mk hl360_1
   clear hi360_1 hl360_1
   replace p360 := eq_true p360
   replace q360 := eq_true q360
   refine start_ (n := 10) (S := fun w' => w'.cell? (ad359.add ((x5_1).toNat * 2)) = some (.int .i64 ((rd_T37 l0 x5_1).f0)) ∧ w'.cell? ⟨(ad359.add ((x5_1).toNat * 2)).block, (ad359.add ((x5_1).toNat * 2)).off + 1, none⟩ = some (.slice A359_1 ((rd_T37 l0 x5_1).f1).length c359_1) ∧ w'.cell? (ad360.add ((x5_1).toNat * 2)) = some (.int .i64 ((rd_T37 l1 x5_1).f0)) ∧ w'.cell? ⟨(ad360.add ((x5_1).toNat * 2)).block, (ad360.add ((x5_1).toNat * 2)).off + 1, none⟩ = some (.slice A360_1 ((rd_T37 l1 x5_1).f1).length c360_1)) (ds := []) #[false, false, false, false, false, false, false, false, false, false] (by kernel_rfl) rfl rfl ⟨((HB.out.cell (World.block_lt_of_cell? w _ hw359_0)).trans hw359_0), ((HB.out.cell (World.block_lt_of_cell? w _ hw359_1)).trans hw359_1), ((HB.out.cell (World.block_lt_of_cell? w _ hw360_0)).trans hw360_0), ((HB.out.cell (World.block_lt_of_cell? w _ hw360_1)).trans hw360_1)⟩ (fun hHeld => ?_); refine with_tabW dragnetref13_Same.tab6 dragnetref13_Same.bits6 (fun HT_ HW_ => ?_)
   generalize wr.drew = w9 at HB HR359_1 HR360_1 hx359_0 hx359_1 hx360_0 hx360_1 hHeld ⊢
   refine pu_ (i := 0) (N := some 17) HT_ #[true, false, false, false, false, false, false, false, false, false] ?_
   refine pu_ (i := 1) (N := some 18) HT_ #[true, true, false, false, false, false, false, false, false, false] ?_
   refine pu_ (i := 2) (N := some 19) HT_ #[true, true, true, false, false, false, false, false, false, false] ?_
   refine pu_ (i := 4) (N := some 21) HT_ #[true, true, true, false, true, false, false, false, false, false] ?_
   refine pu_ (i := 5) (N := some 22) HT_ #[true, true, true, false, true, true, false, false, false, false] ?_
   refine pu_ (i := 6) (N := some 23) HT_ #[true, true, true, false, true, true, true, false, false, false] ?_
   refine ta_ (i := 3) (N := some 20) HT_ HW_ #[true, true, true, true, true, true, true, false, false, false] hHeld ?_
   refine ta_ (i := 7) (N := some 24) HT_ HW_ #[true, true, true, true, true, true, true, true, false, false] hHeld ?_
   refine one_ (i := 8) (N := some 25) #[tT,tT,tT,tT,tT,tT,tT,tT,tT,fF] rfl rfl (one_of HT_.out (by kernel_rfl)) (by decide) (fun K hK => ?_)
   refine goes_ Try.func21 (by kernel_rfl) rfl #[.agg #[.int .i64 ((rd_T37 l0 x5_1).f0), .slice A359_1 ((rd_T37 l0 x5_1).f1).length c359_1], .agg #[.int .i64 ((rd_T37 l1 x5_1).f0), .slice A360_1 ((rd_T37 l1 x5_1).f1).length c360_1]] (by rfl) rfl rfl (by (try simp only [List.map_toArray, List.map_cons, List.map_nil]); first | done | rfl | (simp only [List.length_drop, List.length_take]; rfl)) ?_
   with_reducible refine (dragnetref13_SamePost.calls k1 ((rd_T37 l0 x5_1).f0) _ _ ((rd_T37 l0 x5_1).f1) ((rd_T37 l1 x5_1).f0) _ _ ((rd_T37 l1 x5_1).f1) true _ ?side1 ?side2 ?side3 ?side4 A7.out).mono ?_
   (case side1 => exact Kd.cu_ (Kd.C_below HR359_1.out HB.out))
   (case side2 => exact HC359_1.out)
   (case side3 => exact Kd.cu_ (Kd.C_below HR360_1.out HB.out))
   (case side4 => exact HC360_1.out)
   rintro e w10 ⟨rfl, hb⟩
   refine ⟨_, rfl, ?_⟩
   have n0_ := Aside0.mk (below_step bw_ hb)
   clear HB
   have HB := n0_
   clear n0_
   clear hb
   refine hK.out _ _ ⟨((HB.out.cell (World.block_lt_of_cell? w _ hw359_0)).trans hw359_0), ((HB.out.cell (World.block_lt_of_cell? w _ hw359_1)).trans hw359_1), ((HB.out.cell (World.block_lt_of_cell? w _ hw360_0)).trans hw360_0), ((HB.out.cell (World.block_lt_of_cell? w _ hw360_1)).trans hw360_1)⟩ (fun hHeld => ?_)
   clear hK K
   refine norm_ (a' := ?_) ?_ ?_
   rotate_left
   ·show Act.put _ (some 25) _ = _
    simp only [Act.put, List.setIfInBounds_toArray, List.set_cons_zero, List.set_cons_succ, i64_w, i32_w]
    rfl
   refine pu_ (i := 9) (N := some 26) HT_ #[true, true, true, true, true, true, true, true, true, true] ?_
   refine done_ (done_of HT_.out (by kernel_rfl)) ?_
   try go_wp2
   go_roundg k1
   case measure => have := HK1.out; omega
   case rel => exact ⟨(wrap64 (x5_1 + 1)), (by first | rfl | (simp; done) | (simp [*]; done)), H', ⟨by have := HK1.out; omega⟩, ⟨bw_⟩⟩
def dragnetref13_rises.l0 : Nat → List Int → Int → Int → Option (Bool)
 | 0, _, _, _ => none
 | k + 1, x0, x1, x5 => if x5 < (x0.length : Int) then (if 0 ≤ x5 then (if (rd x0 x5) < 0 then (some false) else (if (rd x0 x5) > x1 then (some false) else (if x5 > 0 then (if 0 ≤ (wrap64 (x5 - 1)) then (if (wrap64 (x5 - 1)) < (x0.length : Int) then (if (rd x0 (wrap64 (x5 - 1))) ≥ (rd x0 x5) then (some false) else (dragnetref13_rises.l0 k x0 x1 (wrap64 (x5 + 1)))) else (none)) else (none)) else (dragnetref13_rises.l0 k x0 x1 (wrap64 (x5 + 1)))))) else (none)) else (some true)
def dragnetref13_rises.f (k : Nat) (l0 : List Int) (a1 : Int) : Option (Bool) := dragnetref13_rises.l0 k l0 a1 0
theorem dragnetref13_rises.mono_l : ∀ k, (∀ y0 y1 y2, LeO (dragnetref13_rises.l0 k y0 y1 y2) (dragnetref13_rises.l0 (k + 1) y0 y1 y2))
 | 0 => fun _ _ _ r h => by simp [dragnetref13_rises.l0] at h
 | k + 1 => by
  have ih0 := dragnetref13_rises.mono_l k
  ·intro y0 y1 y2
   unfold dragnetref13_rises.l0
   repeat' first
   | (with_reducible exact ih0 _ _ _)
   | (with_reducible exact LeO.refl _)
   | (with_reducible exact LeO.none _)
   | (with_reducible refine LeO.ite ?_ ?_)
   | (with_reducible refine LeO.bind ?_ (fun _ => ?_))
theorem dragnetref13_rises.mono : ∀ a0 a1 k, LeO (dragnetref13_rises.f k a0 a1) (dragnetref13_rises.f (k + 1) a0 a1) := by
 intro a0 a1 k
 have ih0 := dragnetref13_rises.mono_l k
 unfold dragnetref13_rises.f
 repeat' first
   | (with_reducible exact ih0 _ _ _)
   | (with_reducible exact LeO.refl _)
   | (with_reducible exact LeO.none _)
   | (with_reducible refine LeO.ite ?_ ?_)
   | (with_reducible refine LeO.bind ?_ (fun _ => ?_))
set_option maxHeartbeats 8000000 in
set_option maxRecDepth 100000 in
theorem dragnetref13_rises.calls (k : Nat) (A0 : Option Addr) (c0 : Nat) (l0 : List Int) (a1 : Int) (r : Bool) (w : World) (hr0 : Kd.C (Kd.int .i64) w A0 l0.length l0) (hc0 : l0.length ≤ c0) (h : dragnetref13_rises.f k l0 a1 = some r) :
  Calls Try.prog 29 #[.slice A0 l0.length c0, .int .i64 a1] w fun e w' => e = .returned (.bool r) ∧ Drawn0 w w' := by
 have HR0 := Aside0.mk hr0
 have HC0 := Aside0.mk hc0
 clear hr0 hc0
 have H : (dragnetref13_rises.l0 k l0 a1 0) = some r := h
 clear h
 have H' := Aside0.mk H
 clear H
 go_enter Try.func29, Try.ntmps29
 go_wp2
 go_loopg [5] k (fun kq v5 w' => ∃ (x5_1 : Int), v5 = .int .i64 x5_1 ∧ Aside0 (dragnetref13_rises.l0 kq l0 a1 x5_1 = some r) ∧ Aside0 (kq ≤ k) ∧ Drawn0 w w')
 case atStart => exact ⟨(0), (by first | rfl | (simp; done) | (simp [*]; done)), H', ⟨Nat.le_refl _⟩, by repeat (first | exact Drawn0.refl _ | apply Drawn0.step)⟩
 case round =>
  clear H'
  obtain ⟨x5_1, rfl, HA, HK1, ⟨m1, rfl⟩⟩ := hrel
  cases gk with
  | zero => exact absurd HA.out (by simp [dragnetref13_rises.l0])
  | succ k1 =>
   have H := HA.out
   clear HA
   simp only [dragnetref13_rises.l0] at H
   by_cases c3 : x5_1 < (l0.length : Int)
   rotate_left
   ·rw [if_neg c3] at H
    have c3b0 : decide (x5_1 < (l0.length : Int)) = false := decide_eq_false c3
    clear c3
    obtain rfl := Option.some.inj H
    go_wp2
    go_ret
    exact ⟨by first | rfl | (simp; done) | (simp [*]; done), by repeat (first | exact Drawn0.refl _ | apply Drawn0.step)⟩
   rw [if_pos c3] at H
   have c3b0 : decide (x5_1 < (l0.length : Int)) = true := decide_eq_true c3
   clear c3
   by_cases c4 : 0 ≤ x5_1
   rotate_left
   ·rw [if_neg c4] at H
    exact absurd H (by simp)
   rw [if_pos c4] at H
   have c4b0 : decide (0 ≤ x5_1) = true := decide_eq_true c4
   clear c4
   by_cases c5 : (rd l0 x5_1) < 0
   ·rw [if_pos c5] at H
    have c5b0 : decide ((rd l0 x5_1) < 0) = true := decide_eq_true c5
    clear c5
    obtain rfl := Option.some.inj H
    have p362 : 0 ≤ (x5_1 : Int) := od_
    have q362 : x5_1 < (l0.length : Int) := od_
    obtain ⟨ad362, e362, hx362_0⟩ := Kd.at_int HR0.out x5_1 p362 q362
    cases e362
    replace p362 := eq_true p362
    replace q362 := eq_true q362
    go_wp2
    repeat (go_quiet (fail); try go_wp2)
    go_ret
    exact ⟨by first | rfl | (simp; done) | (simp [*]; done), by repeat (first | exact Drawn0.refl _ | apply Drawn0.step)⟩
   ·rw [if_neg c5] at H
    have c5b0 : decide ((rd l0 x5_1) < 0) = false := decide_eq_false c5
    clear c5
    by_cases c6 : (rd l0 x5_1) > a1
    ·rw [if_pos c6] at H
     have c6b0 : decide (a1 < (rd l0 x5_1)) = true := decide_eq_true c6
     clear c6
     obtain rfl := Option.some.inj H
     have p362 : 0 ≤ (x5_1 : Int) := od_
     have q362 : x5_1 < (l0.length : Int) := od_
     obtain ⟨ad362, e362, hx362_0⟩ := Kd.at_int HR0.out x5_1 p362 q362
     cases e362
     replace p362 := eq_true p362
     replace q362 := eq_true q362
     have p363 : 0 ≤ (x5_1 : Int) := od_
     have q363 : x5_1 < (l0.length : Int) := od_
     obtain ⟨ad363, e363, hx363_0⟩ := Kd.at_int HR0.out x5_1 p363 q363
     obtain rfl : ad362 = ad363 := (by injection e363)
     replace p363 := eq_true p363
     replace q363 := eq_true q363
     go_wp2
     repeat (go_quiet (fail); try go_wp2)
     go_ret
     exact ⟨by first | rfl | (simp; done) | (simp [*]; done), by repeat (first | exact Drawn0.refl _ | apply Drawn0.step)⟩
    ·rw [if_neg c6] at H
     have c6b0 : decide (a1 < (rd l0 x5_1)) = false := decide_eq_false c6
     clear c6
     by_cases c7 : x5_1 > 0
     rotate_left
     ·rw [if_neg c7] at H
      have c7b0 : decide (0 < x5_1) = false := decide_eq_false c7
      clear c7
      have H' := Aside0.mk H
      clear H
      have p362 : 0 ≤ (x5_1 : Int) := od_
      have q362 : x5_1 < (l0.length : Int) := od_
      obtain ⟨ad362, e362, hx362_0⟩ := Kd.at_int HR0.out x5_1 p362 q362
      cases e362
      replace p362 := eq_true p362
      replace q362 := eq_true q362
      have p363 : 0 ≤ (x5_1 : Int) := od_
      have q363 : x5_1 < (l0.length : Int) := od_
      obtain ⟨ad363, e363, hx363_0⟩ := Kd.at_int HR0.out x5_1 p363 q363
      obtain rfl : ad362 = ad363 := (by injection e363)
      replace p363 := eq_true p363
      replace q363 := eq_true q363
      go_wp2
      repeat (go_quiet (fail); try go_wp2)
      go_roundg k1
      case measure => have := HK1.out; omega
      case rel => exact ⟨(wrap64 (x5_1 + 1)), (by first | rfl | (simp; done) | (simp [*]; done)), H', ⟨by have := HK1.out; omega⟩, by repeat (first | exact Drawn0.refl _ | apply Drawn0.step)⟩
     rw [if_pos c7] at H
     have c7b0 : decide (0 < x5_1) = true := decide_eq_true c7
     clear c7
     obtain ⟨ji8, hji8⟩ : ∃ j_ : Int, (wrap64 (x5_1 - 1)) = j_ := ⟨_, rfl⟩
     replace H : (if 0 ≤ (ji8) then (if (ji8) < (l0.length : Int) then (if (rd l0 (ji8)) ≥ (rd l0 x5_1) then (some false) else (dragnetref13_rises.l0 k1 l0 a1 (wrap64 (x5_1 + 1)))) else (none)) else (none)) = some r := by first | (rw [hji8] at H; exact H) | (simp only [hji8] at H ⊢; exact H)
     have hji8w : (IntKind.i64.wrap (x5_1 - 1)) = ji8 := (i64_w _).trans hji8
     by_cases c9 : 0 ≤ (ji8)
     rotate_left
     ·rw [if_neg c9] at H
      exact absurd H (by simp)
     rw [if_pos c9] at H
     have c9b0 : decide (0 ≤ (ji8)) = true := decide_eq_true c9
     clear c9
     by_cases c10 : (ji8) < (l0.length : Int)
     rotate_left
     ·rw [if_neg c10] at H
      exact absurd H (by simp)
     rw [if_pos c10] at H
     have c10b0 : decide ((ji8) < (l0.length : Int)) = true := decide_eq_true c10
     clear c10
     by_cases c11 : (rd l0 (ji8)) ≥ (rd l0 x5_1)
     ·rw [if_pos c11] at H
      have c11b0 : decide ((rd l0 x5_1) ≤ (rd l0 (ji8))) = true := decide_eq_true c11
      clear c11
      obtain rfl := Option.some.inj H
      have p362 : 0 ≤ (x5_1 : Int) := od_
      have q362 : x5_1 < (l0.length : Int) := od_
      obtain ⟨ad362, e362, hx362_0⟩ := Kd.at_int HR0.out x5_1 p362 q362
      cases e362
      replace p362 := eq_true p362
      replace q362 := eq_true q362
      have p363 : 0 ≤ (x5_1 : Int) := od_
      have q363 : x5_1 < (l0.length : Int) := od_
      obtain ⟨ad363, e363, hx363_0⟩ := Kd.at_int HR0.out x5_1 p363 q363
      obtain rfl : ad362 = ad363 := (by injection e363)
      replace p363 := eq_true p363
      replace q363 := eq_true q363
      have p364 : 0 ≤ ((ji8) : Int) := od_
      have q364 : (ji8) < (l0.length : Int) := od_
      obtain ⟨ad364, e364, hx364_0⟩ := Kd.at_int HR0.out (ji8) p364 q364
      obtain rfl : ad362 = ad364 := (by injection e364)
      replace p364 := eq_true p364
      replace q364 := eq_true q364
      have p365 : 0 ≤ (x5_1 : Int) := od_
      have q365 : x5_1 < (l0.length : Int) := od_
      obtain ⟨ad365, e365, hx365_0⟩ := Kd.at_int HR0.out x5_1 p365 q365
      obtain rfl : ad362 = ad365 := (by injection e365)
      replace p365 := eq_true p365
      replace q365 := eq_true q365
      go_wp2
      repeat (go_quiet (fail); try go_wp2)
      go_ret
      exact ⟨by first | rfl | (simp; done) | (simp only [← hji8] <;> (first | rfl | simp)) | (simp [*]; done), by repeat (first | exact Drawn0.refl _ | apply Drawn0.step)⟩
     ·rw [if_neg c11] at H
      have c11b0 : decide ((rd l0 x5_1) ≤ (rd l0 (ji8))) = false := decide_eq_false c11
      clear c11
      have H' := Aside0.mk H
      clear H
      have p362 : 0 ≤ (x5_1 : Int) := od_
      have q362 : x5_1 < (l0.length : Int) := od_
      obtain ⟨ad362, e362, hx362_0⟩ := Kd.at_int HR0.out x5_1 p362 q362
      cases e362
      replace p362 := eq_true p362
      replace q362 := eq_true q362
      have p363 : 0 ≤ (x5_1 : Int) := od_
      have q363 : x5_1 < (l0.length : Int) := od_
      obtain ⟨ad363, e363, hx363_0⟩ := Kd.at_int HR0.out x5_1 p363 q363
      obtain rfl : ad362 = ad363 := (by injection e363)
      replace p363 := eq_true p363
      replace q363 := eq_true q363
      have p364 : 0 ≤ ((ji8) : Int) := od_
      have q364 : (ji8) < (l0.length : Int) := od_
      obtain ⟨ad364, e364, hx364_0⟩ := Kd.at_int HR0.out (ji8) p364 q364
      obtain rfl : ad362 = ad364 := (by injection e364)
      replace p364 := eq_true p364
      replace q364 := eq_true q364
      have p365 : 0 ≤ (x5_1 : Int) := od_
      have q365 : x5_1 < (l0.length : Int) := od_
      obtain ⟨ad365, e365, hx365_0⟩ := Kd.at_int HR0.out x5_1 p365 q365
      obtain rfl : ad362 = ad365 := (by injection e365)
      replace p365 := eq_true p365
      replace q365 := eq_true q365
      go_wp2
      repeat (go_quiet (fail); try go_wp2)
      subst hji8
      go_roundg k1
      case measure => have := HK1.out; omega
      case rel => exact ⟨(wrap64 (x5_1 + 1)), (by first | rfl | (simp; done) | (simp [*]; done)), H', ⟨by have := HK1.out; omega⟩, by repeat (first | exact Drawn0.refl _ | apply Drawn0.step)⟩
def dragnetref13_Docs.l0 : Nat → List (S37) → List Int → Int → Option (List Int)
 | 0, _, _, _ => none
 | k + 1, x0, x3, x4 => if x4 < (x0.length : Int) then (if 0 ≤ x4 then (if x3.length < 17592186044416 then (dragnetref13_Docs.l0 k x0 (x3 ++ [(rd_T37 x0 x4).f0]) (wrap64 (x4 + 1))) else (none)) else (none)) else (some x3)
def dragnetref13_Docs.f (k : Nat) (l0 : List (S37)) : Option (List Int) := dragnetref13_Docs.l0 k l0 ([] : List Int) 0
theorem dragnetref13_Docs.mono_l : ∀ k, (∀ y0 y1 y2, LeO (dragnetref13_Docs.l0 k y0 y1 y2) (dragnetref13_Docs.l0 (k + 1) y0 y1 y2))
 | 0 => fun _ _ _ r h => by simp [dragnetref13_Docs.l0] at h
 | k + 1 => by
  have ih0 := dragnetref13_Docs.mono_l k
  ·intro y0 y1 y2
   unfold dragnetref13_Docs.l0
   repeat' first
   | (with_reducible exact ih0 _ _ _)
   | (with_reducible exact LeO.refl _)
   | (with_reducible exact LeO.none _)
   | (with_reducible refine LeO.ite ?_ ?_)
   | (with_reducible refine LeO.bind ?_ (fun _ => ?_))
theorem dragnetref13_Docs.mono : ∀ a0 k, LeO (dragnetref13_Docs.f k a0) (dragnetref13_Docs.f (k + 1) a0) := by
 intro a0 k
 have ih0 := dragnetref13_Docs.mono_l k
 unfold dragnetref13_Docs.f
 repeat' first
   | (with_reducible exact ih0 _ _ _)
   | (with_reducible exact LeO.refl _)
   | (with_reducible exact LeO.none _)
   | (with_reducible refine LeO.ite ?_ ?_)
   | (with_reducible refine LeO.bind ?_ (fun _ => ?_))
set_option maxHeartbeats 8000000 in
set_option maxRecDepth 100000 in
theorem dragnetref13_Docs.calls (k : Nat) (A0 : Option Addr) (c0 : Nat) (l0 : List (S37)) (r : List Int) (w : World) (hr0 : Kd.C k37 w A0 l0.length l0) (hc0 : l0.length ≤ c0) (h : dragnetref13_Docs.f k l0 = some r) :
  Calls Try.prog 30 #[.slice A0 l0.length c0] w fun e w' => ∃ v0_ : Value, e = .returned (v0_) ∧ Kd.R (Kd.int .i64) 3 w' w.heap.size (fun _ => True) v0_ r ∧ Below w.heap.size w w' := by
 have HR0 := Aside0.mk hr0
 have HC0 := Aside0.mk hc0
 clear hr0 hc0
 have HB := Aside0.mk (Below.refl w.heap.size w)
 have H : (dragnetref13_Docs.l0 k l0 ([] : List Int) 0) = some r := h
 clear h
 have H' := Aside0.mk H
 clear H
 go_enter Try.func30, Try.ntmps30
 go_wp2
 go_loopg [3, 4] k (fun kq v3 v4 w' => ∃ (x3_1 : List Int) (x4_1 : Int), v4 = .int .i64 x4_1 ∧ Aside0 (dragnetref13_Docs.l0 kq l0 x3_1 x4_1 = some r) ∧ Aside0 (kq ≤ k) ∧ Aside0 (Kd.R (Kd.int .i64) 3 w' w.heap.size (fun _ => True) v3 x3_1) ∧ Aside0 (Below w.heap.size w w'))
 case atStart => exact ⟨(([] : List Int)), (0), (by first | rfl | (simp; done) | (simp [*]; done)), H', ⟨Nat.le_refl _⟩, ⟨ni_⟩, ⟨bw_⟩⟩
 case round =>
  clear H'
  obtain ⟨x3_1, x4_1, rfl, HA, HK1, HO_3, HB⟩ := hrel
  cases gk with
  | zero => exact absurd HA.out (by simp [dragnetref13_Docs.l0])
  | succ k1 =>
   have H := HA.out
   clear HA
   simp only [dragnetref13_Docs.l0] at H
   by_cases c2 : x4_1 < (l0.length : Int)
   rotate_left
   ·rw [if_neg c2] at H
    have c2b0 : decide (x4_1 < (l0.length : Int)) = false := decide_eq_false c2
    clear c2
    obtain rfl := Option.some.inj H
    go_wp2
    go_ret
    exact ⟨_, rf_, by (with_reducible repeat (first | apply Kd.rA_ | apply Kd.rN_ | apply Kd.rD_)); exact HO_3.out, bw_⟩
   rw [if_pos c2] at H
   have c2b0 : decide (x4_1 < (l0.length : Int)) = true := decide_eq_true c2
   clear c2
   by_cases c3 : 0 ≤ x4_1
   rotate_left
   ·rw [if_neg c3] at H
    exact absurd H (by simp)
   rw [if_pos c3] at H
   have c3b0 : decide (0 ≤ x4_1) = true := decide_eq_true c3
   clear c3
   by_cases c4 : x3_1.length < 17592186044416
   rotate_left
   ·rw [if_neg c4] at H
    exact absurd H (by simp)
   rw [if_pos c4] at H
   have LMc4 := Aside0.mk c4
   clear c4
   obtain ⟨y367, hy367⟩ : ∃ y_ : List Int, y_ = (x3_1 ++ [(rd_T37 l0 x4_1).f0]) := ⟨_, rfl⟩
   replace H : (dragnetref13_Docs.l0 k1 l0 y367 (wrap64 (x4_1 + 1))) = some r := by first | (rw [hy367]; with_reducible exact H) | (have H2_ := (Option.bind_some _ _).symm.trans H; rw [hy367]; with_reducible exact H2_) | (have H2_ := (Option.bind_some _ _).symm.trans H; with_reducible exact H2_) | with_reducible exact H | (rw [hy367]; exact H) | exact H
   have Ny367 := Aside0.mk hy367
   clear hy367
   have H' := Aside0.mk H
   clear H
   have p366 : 0 ≤ (x4_1 : Int) := od_
   have q366 : x4_1 < (l0.length : Int) := od_
   obtain ⟨ad366, A366_1, c366_1, e366, hx366_0, hx366_1, hl366_1, hi366_1⟩ := at_T37 HR0.out x4_1 p366 q366
   cases e366
   replace hx366_0 := (HB.out.cell (World.block_lt_of_cell? w _ hx366_0)).trans hx366_0
   replace hx366_1 := (HB.out.cell (World.block_lt_of_cell? w _ hx366_1)).trans hx366_1
   have HR366_1 := Aside0.mk hi366_1
   have HC366_1 := Aside0.mk hl366_1
   clear hi366_1 hl366_1
   replace p366 := eq_true p366
   replace q366 := eq_true q366
   go_wp2_with (first | ((with_reducible refine gate_builtin (b := .append) (xs := #[.tmp 11, .tmp 17]) rfl ?_); at_builtin; refine Kd.R_append (Kd.int .i64) (w0 := w) w.heap.size rfl (.tmp 11) (.tmp 17) 35 3 (.int .i64 0) 8 rfl Try.underlying35 info3 rfl (by decide) (by omega) u3 x3_1 ((rd_T37 l0 x4_1).f0) [.int .i64 ((rd_T37 l0 x4_1).f0)] (fun _ => True) (fun _ => False) rfl rfl ?aP (fun _ hk => hk.elim) ?aF ?aO ?aB ?aS ?aL ?_; (case aP => exact rfl); (case aB => exact bw_); (case aF => exact (fun _ _ => trivial)); (case aO => exact (Kd.ru_ HO_3.out)); (case aS => exact (pbS_ bw_)); (case aL => have := LMc4.out; omega); intro v368 w5 ho hb hg hat; rw [← Ny367.out] at ho; have n0_ := Aside0.mk (hb); have n1_ := Aside0.mk (ho); clear HB; clear HO_3; have HB := n0_; have HO369 := n1_; clear n0_ n1_; clear ho hb hg hat))
   go_roundg k1
   case measure => have := HK1.out; omega
   case rel => exact ⟨(y367), (wrap64 (x4_1 + 1)), (by first | rfl | (simp; done) | (simp [*]; done)), H', ⟨by have := HK1.out; omega⟩, ⟨Kd.ru_ HO369.out⟩, ⟨bw_⟩⟩
def dragnetref13_Formed.l0 : Nat → List (S37) → Int → Option (Bool)
 | 0, _, _ => none
 | k + 1, x0, x3 => if x3 < (x0.length : Int) then (if 0 ≤ x3 then (if (((rd_T37 x0 x3).f1).length : Int) = 0 then (some false) else ((dragnetref13_rises.f k ((rd_T37 x0 x3).f1) 2147483647).bind fun t372 => (if t372 = true then (dragnetref13_Formed.l0 k x0 (wrap64 (x3 + 1))) else (some false)))) else (none)) else ((dragnetref13_Docs.f k x0).bind fun t373 => ((dragnetref13_rises.f k t373 4095).bind fun t376 => (some t376)))
def dragnetref13_Formed.f (k : Nat) (l0 : List (S37)) : Option (Bool) := dragnetref13_Formed.l0 k l0 0
theorem dragnetref13_Formed.mono_l : ∀ k, (∀ y0 y1, LeO (dragnetref13_Formed.l0 k y0 y1) (dragnetref13_Formed.l0 (k + 1) y0 y1))
 | 0 => fun _ _ r h => by simp [dragnetref13_Formed.l0] at h
 | k + 1 => by
  have ih0 := dragnetref13_Formed.mono_l k
  ·intro y0 y1
   unfold dragnetref13_Formed.l0
   repeat' first
   | (with_reducible exact ih0 _ _)
   | (with_reducible exact dragnetref13_Docs.mono _ _)
   | (with_reducible exact dragnetref13_rises.mono _ _ _)
   | (with_reducible exact LeO.refl _)
   | (with_reducible exact LeO.none _)
   | (with_reducible refine LeO.ite ?_ ?_)
   | (with_reducible refine LeO.bind ?_ (fun _ => ?_))
theorem dragnetref13_Formed.mono : ∀ a0 k, LeO (dragnetref13_Formed.f k a0) (dragnetref13_Formed.f (k + 1) a0) := by
 intro a0 k
 have ih0 := dragnetref13_Formed.mono_l k
 unfold dragnetref13_Formed.f
 repeat' first
   | (with_reducible exact ih0 _ _)
   | (with_reducible exact dragnetref13_Docs.mono _ _)
   | (with_reducible exact dragnetref13_rises.mono _ _ _)
   | (with_reducible exact LeO.refl _)
   | (with_reducible exact LeO.none _)
   | (with_reducible refine LeO.ite ?_ ?_)
   | (with_reducible refine LeO.bind ?_ (fun _ => ?_))
set_option maxHeartbeats 8000000 in
set_option maxRecDepth 100000 in
theorem dragnetref13_Formed.calls (k : Nat) (A0 : Option Addr) (c0 : Nat) (l0 : List (S37)) (r : Bool) (w : World) (hr0 : Kd.C k37 w A0 l0.length l0) (hc0 : l0.length ≤ c0) (h : dragnetref13_Formed.f k l0 = some r) :
  Calls Try.prog 17 #[.slice A0 l0.length c0] w fun e w' => e = .returned (.bool r) ∧ Below w.heap.size w w' := by
 have HR0 := Aside0.mk hr0
 have HC0 := Aside0.mk hc0
 clear hr0 hc0
 have HB := Aside0.mk (Below.refl w.heap.size w)
 have H : (dragnetref13_Formed.l0 k l0 0) = some r := h
 clear h
 have H' := Aside0.mk H
 clear H
 go_enter Try.func17, Try.ntmps17
 go_wp2
 go_loopg [3] k (fun kq v3 w' => ∃ (x3_1 : Int), v3 = .int .i64 x3_1 ∧ Aside0 (dragnetref13_Formed.l0 kq l0 x3_1 = some r) ∧ Aside0 (kq ≤ k) ∧ Aside0 (Below w.heap.size w w'))
 case atStart => exact ⟨(0), (by first | rfl | (simp; done) | (simp [*]; done)), H', ⟨Nat.le_refl _⟩, ⟨bw_⟩⟩
 case round =>
  clear H'
  obtain ⟨x3_1, rfl, HA, HK1, HB⟩ := hrel
  cases gk with
  | zero => exact absurd HA.out (by simp [dragnetref13_Formed.l0])
  | succ k1 =>
   have H := HA.out
   clear HA
   simp only [dragnetref13_Formed.l0] at H
   by_cases c2 : x3_1 < (l0.length : Int)
   rotate_left
   ·rw [if_neg c2] at H
    have c2b0 : decide (x3_1 < (l0.length : Int)) = false := decide_eq_false c2
    clear c2
    replace H := Option.bind_eq_some_iff.mp H
    obtain ⟨t373, A70, H⟩ := H
    replace H : ((dragnetref13_rises.f k1 t373 4095).bind fun t376 => (some t376)) = some r := H
    have A7 := Aside0.mk A70
    clear A70
    replace H := Option.bind_eq_some_iff.mp H
    obtain ⟨t376, A80, H⟩ := H
    replace H : (some t376) = some r := H
    have A8 := Aside0.mk A80
    clear A80
    obtain rfl := Option.some.inj H
    go_wp2_with (first | ((with_reducible refine gaC_ (f := 30) rfl ?_); refine goesL_ (some 27) rfl rfl Try.func30 (by kernel_rfl) rfl #[.slice A0 l0.length c0] rfl (by (try simp only [List.map_toArray, List.map_cons, List.map_nil]); first | done | rfl | (simp only [List.length_drop, List.length_take]; rfl)) ?_; (with_reducible refine (dragnetref13_Docs.calls k1 _ _ l0 t373 _ ?side1 ?side2 A7.out).mono ?_); (case side1 => exact Kd.cu_ (Kd.C_below HR0.out HB.out)); (case side2 => exact HC0.out); rintro e w9 ⟨v374, rfl, ho0, hb⟩; refine ⟨_, rfl, ?_⟩; have HO375 := Aside0.mk (Kd.R_lower ho0 (pbS_ bw_)); replace HB := Aside0.mk (below_step bw_ hb); (try clear hb); (try clear hb2); (try clear hk); (try clear hi); (try clear ho0); obtain ⟨Ao10, co10, eo10⟩ := Kd.R_slice HO375.out; subst eo10) | ((with_reducible refine gaC_ (f := 29) rfl ?_); refine goesL_ (some 28) rfl rfl Try.func29 (by kernel_rfl) rfl #[.slice Ao10 t373.length co10, .int .i64 4095] rfl (by (try simp only [List.map_toArray, List.map_cons, List.map_nil]); first | done | rfl | (simp only [List.length_drop, List.length_take]; rfl)) ?_; (with_reducible refine (dragnetref13_rises.calls k1 _ _ t373 4095 t376 _ ?side1 ?side2 A8.out).mono ?_); (case side1 => exact Kd.cu_ (Kd.R_reads' HO375.out).2.2); (case side2 => exact (Kd.R_reads' HO375.out).2.1); rintro e w' ⟨rfl, ⟨nd, rfl⟩⟩; refine ⟨_, rfl, ?_⟩))
    go_ret
    exact ⟨rf_, bw_⟩
   rw [if_pos c2] at H
   have c2b0 : decide (x3_1 < (l0.length : Int)) = true := decide_eq_true c2
   clear c2
   by_cases c3 : 0 ≤ x3_1
   rotate_left
   ·rw [if_neg c3] at H
    exact absurd H (by simp)
   rw [if_pos c3] at H
   have c3b0 : decide (0 ≤ x3_1) = true := decide_eq_true c3
   clear c3
   by_cases c4 : (((rd_T37 l0 x3_1).f1).length : Int) = 0
   ·rw [if_pos c4] at H
    have c4b0 : ((((rd_T37 l0 x3_1).f1).length : Int) == 0) = true := beq_iff_eq.mpr c4
    have c4b1 : ((((rd_T37 l0 x3_1).f1).length : Int) != 0) = false := bne_eq_false_iff_eq.mpr c4
    clear c4
    obtain rfl := Option.some.inj H
    have p370 : 0 ≤ (x3_1 : Int) := od_
    have q370 : x3_1 < (l0.length : Int) := od_
    obtain ⟨ad370, A370_1, c370_1, e370, hx370_0, hx370_1, hl370_1, hi370_1⟩ := at_T37 HR0.out x3_1 p370 q370
    cases e370
    replace hx370_0 := (HB.out.cell (World.block_lt_of_cell? w _ hx370_0)).trans hx370_0
    replace hx370_1 := (HB.out.cell (World.block_lt_of_cell? w _ hx370_1)).trans hx370_1
    have HR370_1 := Aside0.mk hi370_1
    have HC370_1 := Aside0.mk hl370_1
    clear hi370_1 hl370_1
    replace p370 := eq_true p370
    replace q370 := eq_true q370
    go_wp2
    go_ret
    exact ⟨rf_, bw_⟩
   ·rw [if_neg c4] at H
    have c4b0 : ((((rd_T37 l0 x3_1).f1).length : Int) == 0) = false := beq_eq_false_iff_ne.mpr c4
    have c4b1 : ((((rd_T37 l0 x3_1).f1).length : Int) != 0) = true := bne_iff_ne.mpr c4
    have c4b2 : ¬ (((rd_T37 l0 x3_1).f1) = []) := fun h_ => c4 (by rw [h_]; rfl)
    replace H := Option.bind_eq_some_iff.mp H
    obtain ⟨t372, A50, H⟩ := H
    replace H : (if t372 = true then (dragnetref13_Formed.l0 k1 l0 (wrap64 (x3_1 + 1))) else (some false)) = some r := H
    have A5 := Aside0.mk A50
    clear A50
    by_cases c6 : t372 = true
    rotate_left
    ·replace c6 := Bool.eq_false_iff.mpr c6
     subst c6
     have H1 : (some false) = some r := by rw [if_neg (show ¬ (false = true) by decide)] at H; exact H
     clear H
     have H := H1
     clear H1
     obtain rfl := Option.some.inj H
     have p370 : 0 ≤ (x3_1 : Int) := od_
     have q370 : x3_1 < (l0.length : Int) := od_
     obtain ⟨ad370, A370_1, c370_1, e370, hx370_0, hx370_1, hl370_1, hi370_1⟩ := at_T37 HR0.out x3_1 p370 q370
     cases e370
     replace hx370_0 := (HB.out.cell (World.block_lt_of_cell? w _ hx370_0)).trans hx370_0
     replace hx370_1 := (HB.out.cell (World.block_lt_of_cell? w _ hx370_1)).trans hx370_1
     have HR370_1 := Aside0.mk hi370_1
     have HC370_1 := Aside0.mk hl370_1
     clear hi370_1 hl370_1
     replace p370 := eq_true p370
     replace q370 := eq_true q370
     have p371 : 0 ≤ (x3_1 : Int) := od_
     have q371 : x3_1 < (l0.length : Int) := od_
     obtain ⟨ad371, A371_1, c371_1, e371, hx371_0, hx371_1, hl371_1, hi371_1⟩ := at_T37 HR0.out x3_1 p371 q371
     obtain rfl : ad370 = ad371 := (by injection e371)
     replace hx371_0 := (HB.out.cell (World.block_lt_of_cell? w _ hx371_0)).trans hx371_0
     replace hx371_1 := (HB.out.cell (World.block_lt_of_cell? w _ hx371_1)).trans hx371_1
     have HR371_1 := Aside0.mk hi371_1
     have HC371_1 := Aside0.mk hl371_1
     clear hi371_1 hl371_1
     replace p371 := eq_true p371
     replace q371 := eq_true q371
     have ea_ := Option.some.inj (hx370_1.symm.trans hx371_1)
     injection ea_ with ea_ en_ ec_
     subst ea_
     subst ec_
     clear en_
     go_wp2_with (first | (go_at_call 29; (with_reducible refine (dragnetref13_rises.calls k1 _ _ ((rd_T37 l0 x3_1).f1) 2147483647 false _ ?side1 ?side2 A5.out).mono ?_); (case side1 => exact Kd.cu_ (Kd.C_below HR371_1.out HB.out)); (case side2 => exact HC371_1.out); rintro e w' ⟨rfl, ⟨nd, rfl⟩⟩))
     go_ret
     exact ⟨rf_, bw_⟩
    subst c6
    have H1 : (dragnetref13_Formed.l0 k1 l0 (wrap64 (x3_1 + 1))) = some r := by rw [if_pos rfl] at H; exact H
    clear H
    have H := H1
    clear H1
    have H' := Aside0.mk H
    clear H
    have p370 : 0 ≤ (x3_1 : Int) := od_
    have q370 : x3_1 < (l0.length : Int) := od_
    obtain ⟨ad370, A370_1, c370_1, e370, hx370_0, hx370_1, hl370_1, hi370_1⟩ := at_T37 HR0.out x3_1 p370 q370
    cases e370
    replace hx370_0 := (HB.out.cell (World.block_lt_of_cell? w _ hx370_0)).trans hx370_0
    replace hx370_1 := (HB.out.cell (World.block_lt_of_cell? w _ hx370_1)).trans hx370_1
    have HR370_1 := Aside0.mk hi370_1
    have HC370_1 := Aside0.mk hl370_1
    clear hi370_1 hl370_1
    replace p370 := eq_true p370
    replace q370 := eq_true q370
    have p371 : 0 ≤ (x3_1 : Int) := od_
    have q371 : x3_1 < (l0.length : Int) := od_
    obtain ⟨ad371, A371_1, c371_1, e371, hx371_0, hx371_1, hl371_1, hi371_1⟩ := at_T37 HR0.out x3_1 p371 q371
    obtain rfl : ad370 = ad371 := (by injection e371)
    replace hx371_0 := (HB.out.cell (World.block_lt_of_cell? w _ hx371_0)).trans hx371_0
    replace hx371_1 := (HB.out.cell (World.block_lt_of_cell? w _ hx371_1)).trans hx371_1
    have HR371_1 := Aside0.mk hi371_1
    have HC371_1 := Aside0.mk hl371_1
    clear hi371_1 hl371_1
    replace p371 := eq_true p371
    replace q371 := eq_true q371
    have ea_ := Option.some.inj (hx370_1.symm.trans hx371_1)
    injection ea_ with ea_ en_ ec_
    subst ea_
    subst ec_
    clear en_
    go_wp2_with (first | (go_at_call 29; (with_reducible refine (dragnetref13_rises.calls k1 _ _ ((rd_T37 l0 x3_1).f1) 2147483647 true _ ?side1 ?side2 A5.out).mono ?_); (case side1 => exact Kd.cu_ (Kd.C_below HR371_1.out HB.out)); (case side2 => exact HC371_1.out); rintro e w' ⟨rfl, ⟨nd, rfl⟩⟩))
    go_roundg k1
    case measure => have := HK1.out; omega
    case rel => exact ⟨(wrap64 (x3_1 + 1)), (by first | rfl | (simp; done) | (simp [*]; done)), H', ⟨by have := HK1.out; omega⟩, ⟨bw_⟩⟩
noncomputable def dragnetlaw13_PostBack.f (k : Nat) (l0 : List (S37)) (l1 : List Int) : Option (Bool) := (dragnetlaw13_alive.f k).bind fun t785 => (if t785 = true then ((dragnetlaw13_great.f k l0).bind fun t786 => (if t786 = true then (some true) else ((post_Put.f k ([] : List Int) l0).bind fun bt787 => (if bt787.2 = 0 then ((dragnetref01_Copy.f bt787.1).bind fun t791 => (if t791.length + l1.length < 140737488355328 then ((post_Take.f k (t791 ++ l1)).bind fun bt797 => (if bt797.2.2 = 0 then (if bt797.2.1 = (bt787.1.length : Int) then ((dragnetref13_Same.f k l0 bt797.1).bind fun t802 => (some t802)) else (some false)) else (some false))) else (none))) else ((dragnetref13_Formed.f k l0).bind fun t803 => (some (!t803))))))) else (some false))
theorem dragnetlaw13_PostBack.mono : ∀ a0 a1 k, LeO (dragnetlaw13_PostBack.f k a0 a1) (dragnetlaw13_PostBack.f (k + 1) a0 a1) := by
 intro a0 a1 k
 unfold dragnetlaw13_PostBack.f
 repeat' first
   | (with_reducible exact dragnetlaw13_alive.mono _)
   | (with_reducible exact dragnetlaw13_great.mono _ _)
   | (with_reducible exact dragnetref13_Formed.mono _ _)
   | (with_reducible exact dragnetref13_Same.mono _ _ _)
   | (with_reducible exact post_Put.mono _ _ _)
   | (with_reducible exact post_Take.mono _ _)
   | (with_reducible exact LeO.refl _)
   | (with_reducible exact LeO.none _)
   | (with_reducible refine LeO.ite ?_ ?_)
   | (with_reducible refine LeO.bind ?_ (fun _ => ?_))
set_option maxHeartbeats 8000000 in
set_option maxRecDepth 100000 in
theorem dragnetlaw13_PostBack.calls (k : Nat) (A0 : Option Addr) (c0 : Nat) (l0 : List (S37)) (A1 : Option Addr) (c1 : Nat) (l1 : List Int) (r : Bool) (w : World) (hr0 : Kd.C k37 w A0 l0.length l0) (hc0 : l0.length ≤ c0) (hr1 : Kd.C (Kd.int .u8) w A1 l1.length l1) (hc1 : l1.length ≤ c1) (h : dragnetlaw13_PostBack.f k l0 l1 = some r) (hr_ : Aside0 (r = true)) :
  Calls Try.prog 8 #[.slice A0 l0.length c0, .slice A1 l1.length c1] w fun e w' => e = .returned (.bool r) ∧ Below w.heap.size w w' := by
 have HR0 := Aside0.mk hr0
 have HC0 := Aside0.mk hc0
 clear hr0 hc0
 have HR1 := Aside0.mk hr1
 have HC1 := Aside0.mk hc1
 clear hr1 hc1
 have HB := Aside0.mk (Below.refl w.heap.size w)
 have H : ((dragnetlaw13_alive.f k).bind fun t785 => (if t785 = true then ((dragnetlaw13_great.f k l0).bind fun t786 => (if t786 = true then (some true) else ((post_Put.f k ([] : List Int) l0).bind fun bt787 => (if bt787.2 = 0 then ((dragnetref01_Copy.f bt787.1).bind fun t791 => (if t791.length + l1.length < 140737488355328 then ((post_Take.f k (t791 ++ l1)).bind fun bt797 => (if bt797.2.2 = 0 then (if bt797.2.1 = (bt787.1.length : Int) then ((dragnetref13_Same.f k l0 bt797.1).bind fun t802 => (some t802)) else (some false)) else (some false))) else (none))) else ((dragnetref13_Formed.f k l0).bind fun t803 => (some (!t803))))))) else (some false))) = some r := h
 clear h
 replace H := Option.bind_eq_some_iff.mp H
 obtain ⟨t785, A30, H⟩ := H
 replace H : (if t785 = true then ((dragnetlaw13_great.f k l0).bind fun t786 => (if t786 = true then (some true) else ((post_Put.f k ([] : List Int) l0).bind fun bt787 => (if bt787.2 = 0 then ((dragnetref01_Copy.f bt787.1).bind fun t791 => (if t791.length + l1.length < 140737488355328 then ((post_Take.f k (t791 ++ l1)).bind fun bt797 => (if bt797.2.2 = 0 then (if bt797.2.1 = (bt787.1.length : Int) then ((dragnetref13_Same.f k l0 bt797.1).bind fun t802 => (some t802)) else (some false)) else (some false))) else (none))) else ((dragnetref13_Formed.f k l0).bind fun t803 => (some (!t803))))))) else (some false)) = some r := H
 have A3 := Aside0.mk A30
 clear A30
 by_cases c4 : t785 = true
 rotate_left
 ·replace c4 := Bool.eq_false_iff.mpr c4
  subst c4
  have H1 : (some false) = some r := by rw [if_neg (show ¬ (false = true) by decide)] at H; exact H
  clear H
  have H := H1
  clear H1
  obtain rfl := Option.some.inj H
  cases hr_.out
 subst c4
 have H1 : ((dragnetlaw13_great.f k l0).bind fun t786 => (if t786 = true then (some true) else ((post_Put.f k ([] : List Int) l0).bind fun bt787 => (if bt787.2 = 0 then ((dragnetref01_Copy.f bt787.1).bind fun t791 => (if t791.length + l1.length < 140737488355328 then ((post_Take.f k (t791 ++ l1)).bind fun bt797 => (if bt797.2.2 = 0 then (if bt797.2.1 = (bt787.1.length : Int) then ((dragnetref13_Same.f k l0 bt797.1).bind fun t802 => (some t802)) else (some false)) else (some false))) else (none))) else ((dragnetref13_Formed.f k l0).bind fun t803 => (some (!t803))))))) = some r := by rw [if_pos rfl] at H; exact H
 clear H
 have H := H1
 clear H1
 replace H := Option.bind_eq_some_iff.mp H
 obtain ⟨t786, A50, H⟩ := H
 replace H : (if t786 = true then (some true) else ((post_Put.f k ([] : List Int) l0).bind fun bt787 => (if bt787.2 = 0 then ((dragnetref01_Copy.f bt787.1).bind fun t791 => (if t791.length + l1.length < 140737488355328 then ((post_Take.f k (t791 ++ l1)).bind fun bt797 => (if bt797.2.2 = 0 then (if bt797.2.1 = (bt787.1.length : Int) then ((dragnetref13_Same.f k l0 bt797.1).bind fun t802 => (some t802)) else (some false)) else (some false))) else (none))) else ((dragnetref13_Formed.f k l0).bind fun t803 => (some (!t803)))))) = some r := H
 have A5 := Aside0.mk A50
 clear A50
 by_cases c6 : t786 = true
 ·subst c6
  have H1 : (some true) = some r := by rw [if_pos rfl] at H; exact H
  clear H
  have H := H1
  clear H1
  obtain rfl := Option.some.inj H
  go_enter Try.func8, Try.ntmps8
  go_wp2_with (first | ((with_reducible refine gaC_ (f := 9) rfl ?_); refine goesL_ (some 10) rfl rfl Try.func9 (by kernel_rfl) rfl #[] rfl (by (try simp only [List.map_toArray, List.map_cons, List.map_nil]); first | done | rfl | (simp only [List.length_drop, List.length_take]; rfl)) ?_; (with_reducible refine (dragnetlaw13_alive.calls k  true _ A3.out ⟨rfl⟩).mono ?_); rintro e w7 ⟨rfl, hb⟩; refine ⟨_, rfl, ?_⟩; replace HB := Aside0.mk (below_step bw_ hb); (try clear hb); (try clear hb2); (try clear hk); (try clear hi)) | ((with_reducible refine gaC_ (f := 10) rfl ?_); refine goesL_ (some 13) rfl rfl Try.func10 (by kernel_rfl) rfl #[.slice A0 l0.length c0] rfl (by (try simp only [List.map_toArray, List.map_cons, List.map_nil]); first | done | rfl | (simp only [List.length_drop, List.length_take]; rfl)) ?_; (with_reducible refine (dragnetlaw13_great.calls k _ _ l0 true _ ?side1 ?side2 A5.out).mono ?_); (case side1 => exact Kd.cu_ (Kd.C_below HR0.out HB.out)); (case side2 => exact HC0.out); rintro e w' ⟨rfl, ⟨nd, rfl⟩⟩; refine ⟨_, rfl, ?_⟩))
  go_ret
  exact ⟨rf_, bw_⟩
 ·replace c6 := Bool.eq_false_iff.mpr c6
  subst c6
  have H1 : ((post_Put.f k ([] : List Int) l0).bind fun bt787 => (if bt787.2 = 0 then ((dragnetref01_Copy.f bt787.1).bind fun t791 => (if t791.length + l1.length < 140737488355328 then ((post_Take.f k (t791 ++ l1)).bind fun bt797 => (if bt797.2.2 = 0 then (if bt797.2.1 = (bt787.1.length : Int) then ((dragnetref13_Same.f k l0 bt797.1).bind fun t802 => (some t802)) else (some false)) else (some false))) else (none))) else ((dragnetref13_Formed.f k l0).bind fun t803 => (some (!t803))))) = some r := by rw [if_neg (show ¬ (false = true) by decide)] at H; exact H
  clear H
  have H := H1
  clear H1
  replace H := Option.bind_eq_some_iff.mp H
  obtain ⟨⟨t787, t788⟩, A80, H⟩ := H
  replace H : (if t788 = 0 then ((dragnetref01_Copy.f t787).bind fun t791 => (if t791.length + l1.length < 140737488355328 then ((post_Take.f k (t791 ++ l1)).bind fun bt797 => (if bt797.2.2 = 0 then (if bt797.2.1 = (t787.length : Int) then ((dragnetref13_Same.f k l0 bt797.1).bind fun t802 => (some t802)) else (some false)) else (some false))) else (none))) else ((dragnetref13_Formed.f k l0).bind fun t803 => (some (!t803)))) = some r := H
  have A8 := Aside0.mk A80
  clear A80
  by_cases c9 : t788 = 0
  rotate_left
  ·rw [if_neg c9] at H
   have c9b0 : (t788 == 0) = false := beq_eq_false_iff_ne.mpr c9
   have c9b1 : (t788 != 0) = true := bne_iff_ne.mpr c9
   replace H := Option.bind_eq_some_iff.mp H
   obtain ⟨t803, A390, H⟩ := H
   replace H : (some (!t803)) = some r := H
   have A39 := Aside0.mk A390
   clear A390
   obtain rfl := Option.some.inj H
   go_enter Try.func8, Try.ntmps8
   go_wp2_with (first | ((with_reducible refine gaC_ (f := 9) rfl ?_); refine goesL_ (some 10) rfl rfl Try.func9 (by kernel_rfl) rfl #[] rfl (by (try simp only [List.map_toArray, List.map_cons, List.map_nil]); first | done | rfl | (simp only [List.length_drop, List.length_take]; rfl)) ?_; (with_reducible refine (dragnetlaw13_alive.calls k  true _ A3.out ⟨rfl⟩).mono ?_); rintro e w40 ⟨rfl, hb⟩; refine ⟨_, rfl, ?_⟩; replace HB := Aside0.mk (below_step bw_ hb); (try clear hb); (try clear hb2); (try clear hk); (try clear hi)) | ((with_reducible refine gaC_ (f := 10) rfl ?_); refine goesL_ (some 13) rfl rfl Try.func10 (by kernel_rfl) rfl #[.slice A0 l0.length c0] rfl (by (try simp only [List.map_toArray, List.map_cons, List.map_nil]); first | done | rfl | (simp only [List.length_drop, List.length_take]; rfl)) ?_; (with_reducible refine (dragnetlaw13_great.calls k _ _ l0 false _ ?side1 ?side2 A5.out).mono ?_); (case side1 => exact Kd.cu_ (Kd.C_below HR0.out HB.out)); (case side2 => exact HC0.out); rintro e w' ⟨rfl, ⟨nd, rfl⟩⟩; refine ⟨_, rfl, ?_⟩) | ((with_reducible refine gaC_ (f := 13) rfl ?_); refine goesL_ (some 16) rfl rfl Try.func13 (by kernel_rfl) rfl #[.slice none 0 0, .slice A0 l0.length c0] rfl (by (try simp only [List.map_toArray, List.map_cons, List.map_nil]); first | done | rfl | (simp only [List.length_drop, List.length_take]; rfl)) ?_; (refine (post_Put.calls k _ _ ([] : List Int) _ _ l0 t787 t788 _ ?side1 ?side2 ?side3 ?side4 A8.out).mono ?_); (case side1 => exact Kd.C_nil _ _); (case side2 => exact Nat.le_refl _); (case side3 => exact Kd.cu_ (Kd.C_below HR0.out bw_)); (case side4 => exact HC0.out); rintro e w41 ⟨v789, rfl, ho0, hb⟩; refine ⟨_, rfl, ?_⟩; have HO790 := Aside0.mk (Kd.R_lower ho0 (pbS_ bw_)); replace HB := Aside0.mk (below_step bw_ hb); (try clear hb); (try clear hb2); (try clear hk); (try clear hi); (try clear ho0)) | ((with_reducible refine gaC_ (f := 17) rfl ?_); refine goesL_ (some 22) rfl rfl Try.func17 (by kernel_rfl) rfl #[.slice A0 l0.length c0] rfl (by (try simp only [List.map_toArray, List.map_cons, List.map_nil]); first | done | rfl | (simp only [List.length_drop, List.length_take]; rfl)) ?_; (with_reducible refine (dragnetref13_Formed.calls k _ _ l0 t803 _ ?side1 ?side2 A39.out).mono ?_); (case side1 => exact Kd.cu_ (Kd.C_below HR0.out HB.out)); (case side2 => exact HC0.out); rintro e w42 ⟨rfl, hb⟩; refine ⟨_, rfl, ?_⟩; replace HO790 := Aside0.mk (Kd.R_below (Kd.ru_ HO790.out) hb); replace HB := Aside0.mk (below_step bw_ hb); (try clear hb); (try clear hb2); (try clear hk); (try clear hi)))
   go_ret
   exact ⟨rf_, bw_⟩
  rw [if_pos c9] at H
  have c9b0 : (t788 == 0) = true := beq_iff_eq.mpr c9
  have c9b1 : (t788 != 0) = false := bne_eq_false_iff_eq.mpr c9
  clear c9
  replace H := Option.bind_eq_some_iff.mp H
  obtain ⟨t791, A100, H⟩ := H
  replace H : (if t791.length + l1.length < 140737488355328 then ((post_Take.f k (t791 ++ l1)).bind fun bt797 => (if bt797.2.2 = 0 then (if bt797.2.1 = (t787.length : Int) then ((dragnetref13_Same.f k l0 bt797.1).bind fun t802 => (some t802)) else (some false)) else (some false))) else (none)) = some r := H
  have A10 := Aside0.mk A100
  clear A100
  by_cases c11 : t791.length + l1.length < 140737488355328
  rotate_left
  ·rw [if_neg c11] at H
   exact absurd H (by simp)
  rw [if_pos c11] at H
  have LMc11 := Aside0.mk c11
  clear c11
  obtain ⟨y794, hy794⟩ : ∃ y_ : List Int, y_ = (t791 ++ l1) := ⟨_, rfl⟩
  replace H : ((post_Take.f k y794).bind fun bt797 => (if bt797.2.2 = 0 then (if bt797.2.1 = (t787.length : Int) then ((dragnetref13_Same.f k l0 bt797.1).bind fun t802 => (some t802)) else (some false)) else (some false))) = some r := by first | (rw [hy794]; with_reducible exact H) | (have H2_ := (Option.bind_some _ _).symm.trans H; rw [hy794]; with_reducible exact H2_) | (have H2_ := (Option.bind_some _ _).symm.trans H; with_reducible exact H2_) | with_reducible exact H | (rw [hy794]; exact H) | exact H
  have Ny794 := Aside0.mk hy794
  clear hy794
  replace H := Option.bind_eq_some_iff.mp H
  obtain ⟨⟨t797, t798, t799⟩, A120, H⟩ := H
  replace H : (if t799 = 0 then (if t798 = (t787.length : Int) then ((dragnetref13_Same.f k l0 t797).bind fun t802 => (some t802)) else (some false)) else (some false)) = some r := H
  have A12 := Aside0.mk A120
  clear A120
  by_cases c13 : t799 = 0
  rotate_left
  ·rw [if_neg c13] at H
   have c13b0 : (t799 == 0) = false := beq_eq_false_iff_ne.mpr c13
   have c13b1 : (t799 != 0) = true := bne_iff_ne.mpr c13
   obtain rfl := Option.some.inj H
   cases hr_.out
  rw [if_pos c13] at H
  have c13b0 : (t799 == 0) = true := beq_iff_eq.mpr c13
  have c13b1 : (t799 != 0) = false := bne_eq_false_iff_eq.mpr c13
  clear c13
  by_cases c14 : t798 = (t787.length : Int)
  rotate_left
  ·rw [if_neg c14] at H
   have c14b0 : (t798 == (t787.length : Int)) = false := beq_eq_false_iff_ne.mpr c14
   have c14b1 : (t798 != (t787.length : Int)) = true := bne_iff_ne.mpr c14
   obtain rfl := Option.some.inj H
   cases hr_.out
  rw [if_pos c14] at H
  have c14b0 : (t798 == (t787.length : Int)) = true := beq_iff_eq.mpr c14
  have c14b1 : (t798 != (t787.length : Int)) = false := bne_eq_false_iff_eq.mpr c14
  clear c14
  replace H := Option.bind_eq_some_iff.mp H
  obtain ⟨t802, A150, H⟩ := H
  replace H : (some t802) = some r := H
  have A15 := Aside0.mk A150
  clear A150
  obtain rfl := Option.some.inj H
  go_enter Try.func8, Try.ntmps8
  go_wp2_with (first | ((with_reducible refine gaC_ (f := 9) rfl ?_); refine goesL_ (some 10) rfl rfl Try.func9 (by kernel_rfl) rfl #[] rfl (by (try simp only [List.map_toArray, List.map_cons, List.map_nil]); first | done | rfl | (simp only [List.length_drop, List.length_take]; rfl)) ?_; (with_reducible refine (dragnetlaw13_alive.calls k  true _ A3.out ⟨rfl⟩).mono ?_); rintro e w16 ⟨rfl, hb⟩; refine ⟨_, rfl, ?_⟩; replace HB := Aside0.mk (below_step bw_ hb); (try clear hb); (try clear hb2); (try clear hk); (try clear hi)) | ((with_reducible refine gaC_ (f := 10) rfl ?_); refine goesL_ (some 13) rfl rfl Try.func10 (by kernel_rfl) rfl #[.slice A0 l0.length c0] rfl (by (try simp only [List.map_toArray, List.map_cons, List.map_nil]); first | done | rfl | (simp only [List.length_drop, List.length_take]; rfl)) ?_; (with_reducible refine (dragnetlaw13_great.calls k _ _ l0 false _ ?side1 ?side2 A5.out).mono ?_); (case side1 => exact Kd.cu_ (Kd.C_below HR0.out HB.out)); (case side2 => exact HC0.out); rintro e w' ⟨rfl, ⟨nd, rfl⟩⟩; refine ⟨_, rfl, ?_⟩) | ((with_reducible refine gaC_ (f := 13) rfl ?_); refine goesL_ (some 16) rfl rfl Try.func13 (by kernel_rfl) rfl #[.slice none 0 0, .slice A0 l0.length c0] rfl (by (try simp only [List.map_toArray, List.map_cons, List.map_nil]); first | done | rfl | (simp only [List.length_drop, List.length_take]; rfl)) ?_; (refine (post_Put.calls k _ _ ([] : List Int) _ _ l0 t787 t788 _ ?side1 ?side2 ?side3 ?side4 A8.out).mono ?_); (case side1 => exact Kd.C_nil _ _); (case side2 => exact Nat.le_refl _); (case side3 => exact Kd.cu_ (Kd.C_below HR0.out bw_)); (case side4 => exact HC0.out); rintro e w17 ⟨v789, rfl, ho0, hb⟩; refine ⟨_, rfl, ?_⟩; have HO790 := Aside0.mk (Kd.R_lower ho0 (pbS_ bw_)); replace HB := Aside0.mk (below_step bw_ hb); (try clear hb); (try clear hb2); (try clear hk); (try clear hi); (try clear ho0); obtain ⟨Ao18, co18, eo18⟩ := Kd.R_slice HO790.out; subst eo18) | ((with_reducible refine gaC_ (f := 11) rfl ?_); refine goesL_ (some 26) rfl rfl Try.func11 (by kernel_rfl) rfl #[.slice Ao18 t787.length co18] rfl (by (try simp only [List.map_toArray, List.map_cons, List.map_nil]); first | done | rfl | (simp only [List.length_drop, List.length_take]; rfl)) ?_; (with_reducible refine (dragnetref01_Copy.calls _ _ t787 t791 _ ?side1 ?side2 A10.out).mono ?_); (case side1 => exact Kd.cu_ (Kd.R_reads' HO790.out).2.2); (case side2 => exact (Kd.R_reads' HO790.out).2.1); rintro e w19 ⟨v792, rfl, ho0, hb⟩; refine ⟨_, rfl, ?_⟩; have n0_ := Aside0.mk (Kd.R_elder' (Kd.ru_ HO790.out) (Kd.R_base ho0) hb); have n1_ := Aside0.mk (Kd.R_lower (Kd.R_new' ho0 (Kd.R_lt (Kd.ru_ HO790.out))) (pbS_ bw_)); have n2_ := Aside0.mk (below_step bw_ hb); clear HO790; clear HB; have HO790 := n0_; have HO793 := n1_; have HB := n2_; clear n0_ n1_ n2_; (try clear hb); (try clear hb2); (try clear hk); (try clear hi); (try clear ho0)) | ((with_reducible refine gate_builtin (b := .append) (xs := #[.tmp 26, .tmp 27]) rfl ?_); (try (refine gate_guard (by rfl) ?_; dsimp only)); at_builtin; refine Kd.R_append_rows (Kd.int .u8) (w0 := w) w.heap.size rfl (.tmp 26) (.tmp 27) 22 5 (.int .u8 0) 1 rfl Try.underlying22 info5 rfl (by decide) (by omega) v792 t791 l1 _ _ _ (fun k_ => some k_ ≠ (.slice Ao18 t787.length co18 : Value).ownBlock) (fun _ => False) rfl rfl ?aO ?aR (fun _ _ h => h) (fun _ h => h.elim) ?aF ?aB ?aS ?aL ?_; (case aR => exact Kd.cu_ (Kd.C_below HR1.out HB.out)); (case aB => exact bw_); (case aF => exact (fun k_ hk => Kd.fresh' (Kd.R_lt (Kd.ru_ HO790.out)) k_ hk)); (case aO => exact (by (with_reducible repeat (first | apply Kd.rA_ | apply Kd.rN_ | apply Kd.rD_)); exact Kd.R_mono HO793.out (fun _ hk => hk.2))); (case aS => exact (pbS_ bw_)); (case aL => have := LMc11.out; omega); intro v795 w20 ho hb hg hat; rw [← Ny794.out] at ho; have n0_ := Aside0.mk (Kd.R_after (ok := (fun _ => True)) (Kd.ru_ HO790.out) hg hat); have n1_ := Aside0.mk (hb); have n2_ := Aside0.mk (ho); clear HO790; clear HB; clear HO793; have HO790 := n0_; have HB := n1_; have HO796 := n2_; clear n0_ n1_ n2_; clear ho hb hg hat; obtain ⟨Ao21, co21, eo21⟩ := Kd.R_slice HO796.out; subst eo21) | ((with_reducible refine gaC_ (f := 22) rfl ?_); refine goesL_ (some 29) rfl rfl Try.func22 (by kernel_rfl) rfl #[.slice Ao21 y794.length co21] rfl (by (try simp only [List.map_toArray, List.map_cons, List.map_nil]); first | done | rfl | (simp only [List.length_drop, List.length_take]; rfl)) ?_; (with_reducible refine (post_Take.calls k _ _ y794 t797 t798 t799 _ ?side1 ?side2 A12.out).mono ?_); (case side1 => exact Kd.cu_ (Kd.R_reads' HO796.out).2.2); (case side2 => exact (Kd.R_reads' HO796.out).2.1); rintro e w22 ⟨v800, rfl, ho0, hb⟩; refine ⟨_, rfl, ?_⟩; replace HO790 := Aside0.mk (Kd.R_below (Kd.ru_ HO790.out) hb); replace HO796 := Aside0.mk (Kd.R_below (Kd.ru_ HO796.out) hb); have HO801 := Aside0.mk (Kd.N_lower ho0 (pbS_ bw_)); replace HB := Aside0.mk (below_step bw_ hb); (try clear hb); (try clear hb2); (try clear hk); (try clear hi); (try clear ho0); obtain ⟨Ao23, co23, eo23⟩ := Kd.N_slice HO801.out; subst eo23) | (go_at_call 15; (with_reducible refine (dragnetref13_Same.calls k _ _ l0 _ _ t797 t802 _ ?side1 ?side2 ?side3 ?side4 A15.out).mono ?_); (case side1 => exact Kd.cu_ (Kd.C_below HR0.out HB.out)); (case side2 => exact HC0.out); (case side3 => exact Kd.cu_ (Kd.N_reads' HO801.out).2.2); (case side4 => exact (Kd.N_reads' HO801.out).2.1); rintro e w24 ⟨rfl, hb⟩; replace HO790 := Aside0.mk (Kd.R_below (Kd.ru_ HO790.out) hb); replace HO796 := Aside0.mk (Kd.R_below (Kd.ru_ HO796.out) hb); replace HO801 := Aside0.mk (Kd.N_below (by (with_reducible repeat (first | apply Kd.N_alloc | apply Kd.N_drewN | apply Kd.N_drew)); exact HO801.out) hb); replace HB := Aside0.mk (below_step bw_ hb); (try clear hb); (try clear hb2); (try clear hk); (try clear hi)))
  go_ret
  exact ⟨rf_, bw_⟩
end Go.Proofs.Ytooeclfeallkkaa.P
end
