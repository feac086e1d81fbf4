/- Words and proofs that UpPforBack leans on; put together by wip/tools/shake.py. -/
import Derived.Test.YtkcjjennlhgmhaaZUpPforBack11
import Derived.Test.YtkcjjennlhgmhaaZUpPforBack12
import Derived.ArgAppend
import Derived.Below
import Derived.BigQuiet
import Derived.Deep.AppendLies
import Derived.Deep.CutBlock
import Derived.Deep.DeepCutAuto
import Derived.Deep.Draws
import Derived.Deep.LoopGhost
import Derived.Deep.OwnRows
import Derived.Deep.QuietTactic
import Derived.Deep.RegionHeld3
import Derived.KernelRfl
import Derived.Laws.BitsLemmas
import Derived.Laws.BytesArg
import Derived.Laws.Cover1
import Derived.Laws.IdiomCopy
import Derived.Laws.MakeOwn
import Derived.Laws.OwnMore
import Derived.Laws.Rows
import Derived.Laws.Slices
import Derived.Laws.StructEq
import Derived.Lib.AppendStr
import Derived.Lib.BitFns
import Derived.Lib.ConvBytes
import Derived.Lib.Slices
import Derived.Lib.Small
import Derived.Lib.Strings
import Derived.Lib.Walk
import Derived.LoopIn
import Derived.LoopNIn
import Derived.Maps.AppendAt
import Derived.OrdersHeld
import Derived.OwnWalk
import Derived.OwnWalkIn
import Derived.RangeFuncBound
import Derived.RangeFuncBox
import Derived.RangeFuncCalls
import Derived.RangeFuncFrom
import Derived.RangeFuncLeaves
import Derived.RangeFuncNested
import Derived.RowKit
import Derived.RowKit3
import Derived.ScopeJumps
import Derived.Shelf.Abstract
import Derived.Sort.QuietIn
import Derived.Tactics
import Derived.TacticsInMore
import Derived.Test.YtkcjjennlhgmhaaChecked
import Derived.Test.YtkcjjennlhgmhaaProg
import Derived.WalkKit
import Derived.WalkMore
import Derived.WalkSpells
import Derived.WideLaws
section
namespace Go.Proofs.Ytkcjjennlhgmhaa.P
open Go.RowKit Go.Proofs.YtkcjjennlhgmhaaW.PrintWords Go.Proofs.YtkcjjennlhgmhaaW.PrintLast Go.Proofs.YtkcjjennlhgmhaaW.PrintMore
attribute [local go_sem] max2_int min2_int max_two min_two max_three min_three max_four min_four
set_option linter.unusedVariables false
set_option linter.unusedSimpArgs false
section
attribute [local go_sem] Oper.semAt_some
set_option maxHeartbeats 1000000 in
theorem chunk_in (n : Nat) (A : Option Addr) (len cap : Nat) (w : World) :
  CallsIn Fence.wide n Try.prog 43 #[.slice A len cap, .int .i64 32] w fun e w' => e = .returned (.func (.func 56) #[] #[.pointer (some ⟨w.heap.size, 0, none⟩), .pointer (some ⟨w.heap.size + 1, 0, none⟩)]) ∧ w' = (w.alloc (.cells #[.slice A len cap] 23)).alloc (.cells #[.int .i64 32] 3) := by
 refine callsIn_of_wp Try.func43 rfl trivial ?_ rfl
 simp only [Try.ntmps43, List.size_toArray, List.length_cons, List.length_nil, Nat.reduceAdd, Nat.reduceSub, Array.replicate_succ, Array.replicate_zero, List.push_toArray, List.append_toArray, List.nil_append, List.cons_append]
 gi_wp2
 go_ret
 exact ⟨rfl, rfl⟩
abbrev ChunkNo (len : Nat) := { j : Nat // 32 * j < len }
theorem chunk_cut (a : Addr) (len cap s m : Nat) (hm : 0 < m) (hj : s + m ≤ len) (hc : len ≤ cap) (W : World) :
  (Instr.slice 23 (.slice (some a) len cap) (some (.int .i64 (s : Int))) (some (.int .i64 ((s : Int) + (m : Int)))) (some (.int .i64 ((s : Int) + (m : Int))))).run Try.prog W = .ok (.slice (some (a.add s)) m m) W := by
 obtain ⟨i0, hi0, _, hsz, _⟩ := info_parts info50
 have hel : Try.prog.elem 23 = 50 := by simp [Program.elem, Try.underlying23]
 have hu : Try.prog.underlying 23 = some (.slice (Try.prog.elem 23)) := by rw [hel]; exact Try.underlying23
 rw [run_slice_lhm W 23 (some a) len cap hu .i64 .i64 .i64 _ _ _ (by omega) (by omega) (by omega) (by omega), hel, ← Int.natCast_add, Int.toNat_natCast, Int.toNat_natCast]
 simp [sizeOf, typeInfo, hi0, hsz, sliced, Result.andThen]
 omega
theorem chunk_tail (a : Addr) (len cap s : Nat) (hj : s < len) (hc : len ≤ cap) (W : World) :
  (Instr.slice 23 (.slice (some a) len cap) (some (.int .i64 (s : Int))) none none).run Try.prog W = .ok (.slice (some (a.add s)) (len - s) (cap - s)) W := by
 obtain ⟨i0, hi0, _, hsz, _⟩ := info_parts info50
 have hel : Try.prog.elem 23 = 50 := by simp [Program.elem, Try.underlying23]
 have hu : Try.prog.underlying 23 = some (.slice (Try.prog.elem 23)) := by rw [hel]; exact Try.underlying23
 rw [run_slice_l W 23 (some a) len cap hu .i64 _ (by omega) (by omega), hel, Int.toNat_natCast]
 simp [sizeOf, typeInfo, hi0, hsz, sliced, Result.andThen]
 omega
theorem grown_drewN (W : World) (n : Nat) : W.grownBy (W.drewN n) none := ⟨rfl, rfl, rfl, Nat.le_refl _, fun k _ _ => rfl⟩
def KpC (n₀ Bs Bn : Nat) (W W' : World) : Prop := Below n₀ W W' ∧ W'.heap[Bs]? = W.heap[Bs]? ∧ W'.heap[Bn]? = W.heap[Bn]?
theorem KpC.trans {n₀ Bs Bn : Nat} {A B C : World} (h : KpC n₀ Bs Bn A B) (k : KpC n₀ Bs Bn B C) : KpC n₀ Bs Bn A C := ⟨h.1.trans k.1, k.2.1.trans h.2.1, k.2.2.trans h.2.2⟩
theorem KpC.refl (n₀ Bs Bn : Nat) (W : World) : KpC n₀ Bs Bn W W := ⟨Below.refl _ _, rfl, rfl⟩
theorem KpC.drewN {n₀ Bs Bn : Nat} {A B : World} (h : KpC n₀ Bs Bn A B) (n : Nat) : KpC n₀ Bs Bn A (B.drewN n) := ⟨pbN_ h.1 n, h.2.1, h.2.2⟩
theorem KpC.cell1 {n₀ Bs Bn : Nat} {A B : World} (h : KpC n₀ Bs Bn A B) {v : Value} (hc : A.cell? ⟨Bs, 0, none⟩ = some v) : B.cell? ⟨Bs, 0, none⟩ = some v := by
 unfold World.cell? at hc ⊢
 simp only [h.2.1]
 exact hc
theorem KpC.cell2 {n₀ Bs Bn : Nat} {A B : World} (h : KpC n₀ Bs Bn A B) {v : Value} (hc : A.cell? ⟨Bn, 0, none⟩ = some v) : B.cell? ⟨Bn, 0, none⟩ = some v := by
 unfold World.cell? at hc ⊢
 simp only [h.2.2]
 exact hc
theorem kpC_b {n₀ Bs Bn : Nat} {w : World} (hn : n₀ ≤ w.heap.size) (h1 : Bs < w.heap.size) (h2 : Bn < w.heap.size) (W : World) (l : Nat) (o o' : Obj) (hl : w.heap.size ≤ l) (h : W.heap[l]? = some o) (hc : o.isCells = false) (hw : o.isWalk = false) : KpC n₀ Bs Bn W (W.putObj l o') :=
 ⟨belowK_b hn W l o o' hl h hc hw, World.putObj_heap_other (by omega), World.putObj_heap_other (by omega)⟩
def encChunk (a : Option Addr) (len : Nat) (x : ChunkNo len) : Array Value := #[.slice (a.map (·.add (32 * x.1))) (min 32 (len - 32 * x.1)) (min 32 (len - 32 * x.1))]
set_option maxRecDepth 100000 in
set_option maxHeartbeats 2000000 in
theorem chunk1_in (l Bs Bn n₀ : Nat) (a : Addr) (len cap : Nat) (hc : len ≤ cap) (hreach : len ≤ 140737488351232) (J Jx : List (ChunkNo len) → World → Prop)
  (hY : ∀ pre x W, J pre W → pre.length < len → YieldAt Fence.wide 7 Try.prog l (encChunk (some a) len x) W fun e W' =>
   (e = .returned (.bool true) ∧ J (pre ++ [x]) W' ∧ KpC n₀ Bs Bn W W') ∨ (e = .returned (.bool false) ∧ Jx (pre ++ [x]) W'))
  (B : Nat) (hA : AbidesFrom B J) (W : World) (hBs : W.cell? ⟨Bs, 0, none⟩ = some (.slice (some a) len cap)) (hBn : W.cell? ⟨Bn, 0, none⟩ = some (.int .i64 32)) (h0 : J [] W) :
  CallsIn Fence.wide 8 Try.prog 56 #[.func (.yield l) #[] #[], .pointer (some ⟨Bs, 0, none⟩), .pointer (some ⟨Bn, 0, none⟩)] W fun e W' => (∃ v, e = .returned v) ∧
   ((∃ ys : List (ChunkNo len), ys.map (·.1) = List.range ((len + 31) / 32) ∧ J ys W') ∨ (∃ pre, True ∧ Jx pre W')) := by
 refine callsIn_of_wp Try.func56 rfl trivial ?_ rfl
 simp only [Try.ntmps56, List.size_toArray, List.length_cons, List.length_nil, Nat.reduceAdd, Nat.reduceSub, Array.replicate_succ, Array.replicate_zero, List.push_toArray, List.append_toArray, List.nil_append, List.cons_append]
 gi_wp2
 gi_loopw [4] (fun i wr => ∃ (k s : Nat) (pre : List (ChunkNo len)), Aside0 (s = 32 * k) ∧ k ≤ (len + 31) / 32 ∧ i = .int .i64 (s : Int) ∧ pre.map (·.1) = List.range k ∧ J pre wr ∧ KpC n₀ Bs Bn W wr)
  (fun i _ => len + 32 - (intOf i).toNat)
 case atStart => exact ⟨0, 0, [], ⟨rfl⟩, Nat.zero_le _, rfl, rfl, h0, KpC.refl _ _ _ _⟩
 case round =>
  obtain ⟨k, s, pre, hs, hk, rfl, hpre, hJs, hnx⟩ := hrel
  have hcs : wr.cell? ⟨Bs, 0, none⟩ = some (.slice (some a) len cap) := hnx.cell1 hBs
  have hcn : wr.cell? ⟨Bn, 0, none⟩ = some (.int .i64 32) := hnx.cell2 hBn
  by_cases hlt : s < len
  ·have hlt' : 32 * k < len := by have := hs.out; omega
   obtain ⟨m, hm⟩ : ∃ m : Nat, Aside0 (m = min 32 (len - s)) := ⟨_, ⟨rfl⟩⟩
   have hpl : Aside0 (pre.length = k) := ⟨by have := congrArg List.length hpre; simpa using this⟩
   have hPre := Aside0.mk hpre
   clear hpre
   have hcut := chunk_cut a len cap s m (by have := hm.out; omega) (by have := hm.out; omega) hc
   obtain ⟨q, hq⟩ : ∃ q : Nat, Aside0 (q = len - s) := ⟨_, ⟨rfl⟩⟩
   have htail := chunk_tail a len cap s hlt hc
   rw [← hq.out] at htail
   have hm0 : 0 < m := by have := hm.out; omega
   have hm1 : s + m ≤ len := by have := hm.out; omega
   have hmn : min 32 (q : Int) = (m : Int) := by have := hm.out; have := hq.out; omega
   have hmi : (if (q : Int) < 32 then (q : Int) else 32) = (m : Int) := by have := hm.out; have := hq.out; split <;> omega
   gi_wp2
   gi_quiet (fail)
   have hJ2 : J pre (wr.drewN nq) := hA pre wr _ none hJs (grown_drewN wr nq) (fun r e => by cases e)
   obtain ⟨fn, tmps, assign, body, hy, hR⟩ := hY pre ⟨k, hlt'⟩ (wr.drewN nq) hJ2 (by have := hpl.out; omega)
   have hy2 : (Instr.yield l #[.slice (some (a.add s)) m m]).run Try.prog (wr.drewN nq) = .ok (.round l fn tmps assign body) (wr.drewN nq) := by
    have e1 := hs.out
    have e2 := hm.out
    rw [e1] at e2
    rw [e1, e2]
    exact hy
   clear hy
   gi_wp2
   refine hR.mono ?_
   rintro e W3 (⟨rfl, hJ3, hk3⟩ | ⟨rfl, hJx3⟩)
   ·have hnx3 : KpC n₀ Bs Bn W W3 := (hnx.drewN nq).trans hk3
    have hcn3 : W3.cell? ⟨Bn, 0, none⟩ = some (.int .i64 32) := hnx3.cell2 hBn
    gi_wp2
    go_roundw
    case rel => exact ⟨k + 1, s + 32, pre ++ [⟨k, hlt'⟩], ⟨by have := hs.out; omega⟩, by omega, by simp, by rw [List.map_append, hPre.out, List.range_succ]; rfl, hJ3, hnx3⟩
    case measure => simp [intOf]; omega
   ·gi_wp2
    refine bodyPost_ret (results_none rfl _ _ _) rfl ?_
    exact ⟨⟨_, rfl⟩, .inr ⟨_, trivial, hJx3⟩⟩
  ·gi_wp2
   go_end0
   refine ⟨⟨_, rfl⟩, .inl ⟨pre, ?_, hJs⟩⟩
   rw [hpre, show k = (len + 31) / 32 by have := hs.out; omega]
set_option maxRecDepth 100000 in
set_option maxHeartbeats 1000000 in
theorem chunk1_nil_in (l Bs Bn cap : Nat) {α : Type} (J : List α → World → Prop) (W : World) (hBs : W.cell? ⟨Bs, 0, none⟩ = some (.slice none 0 cap)) (h0 : J [] W) :
  CallsIn Fence.wide 8 Try.prog 56 #[.func (.yield l) #[] #[], .pointer (some ⟨Bs, 0, none⟩), .pointer (some ⟨Bn, 0, none⟩)] W fun e W' => (∃ v, e = .returned v) ∧ J [] W' := by
 refine callsIn_of_wp Try.func56 rfl trivial ?_ rfl
 simp only [Try.ntmps56, List.size_toArray, List.length_cons, List.length_nil, Nat.reduceAdd, Nat.reduceSub, Array.replicate_succ, Array.replicate_zero, List.push_toArray, List.append_toArray, List.nil_append, List.cons_append]
 gi_wp2
 gi_loopw [4] (fun i wr => i = .int .i64 0 ∧ wr.cell? ⟨Bs, 0, none⟩ = some (.slice none 0 cap) ∧ J [] wr) (fun _ _ => 0)
 case atStart => exact ⟨rfl, hBs, h0⟩
 case round =>
  obtain ⟨rfl, hc, hJs⟩ := hrel
  gi_wp2
  go_end0
  exact ⟨⟨_, rfl⟩, hJs⟩
theorem chunk_stops (Bs Bn n₀ : Nat) (a : Option Addr) (len cap : Nat) (ha : a = none → len = 0) (hc : len ≤ cap) (hreach : len ≤ 140737488351232) (w : World) (hB : Bs < w.heap.size) (hB2 : Bn < w.heap.size)
  (hBs : w.cell? ⟨Bs, 0, none⟩ = some (.slice a len cap)) (hBn : w.cell? ⟨Bn, 0, none⟩ = some (.int .i64 32)) :
  SeqStopsK Fence.wide 8 Try.prog 56 #[.pointer (some ⟨Bs, 0, none⟩), .pointer (some ⟨Bn, 0, none⟩)] (encChunk a len) (KpC n₀ Bs Bn) (fun ys => ys.map (·.1) = List.range ((len + 31) / 32)) (fun _ => True) len w := fun l J Jx W hW hJ _ hY h0 => by
 have h1 := (hW.cell (p := ⟨Bs, 0, none⟩) hB).trans hBs
 cases a with
 | none =>
  obtain rfl := ha rfl
  exact (chunk1_nil_in l Bs Bn cap J W h1 h0).mono fun e W' ⟨he, hj⟩ => ⟨he, .inl ⟨[], rfl, hj⟩⟩
 | some a => exact chunk1_in l Bs Bn n₀ a len cap hc hreach J Jx hY W.heap.size hJ W h1 ((hW.cell (p := ⟨Bn, 0, none⟩) hB2).trans hBn) h0
noncomputable def pfor_PutList.l0 : Nat → List Int → List Int → Option (List Int)
 | 0, _, _ => none
 | k + 1, out, rest => if rest.length = 0 then some out else (pfor_PutBlock.f k out (rest.take 32)).bind fun bt => pfor_PutList.l0 k bt.1 (rest.drop 32)
def pfor_PutList.Ok (l0 l1 : List Int) : Prop := (∀ x ∈ l0, 0 ≤ x ∧ x ≤ 255) ∧ l0.length + 1000 * l1.length ≤ 140737488350000 ∧ ∀ acc : List Int, (∀ x ∈ acc, 0 ≤ x ∧ x ≤ 255) → acc.length ≤ l0.length + 1000 + 1000 * l1.length → ∀ j, 32 * j < l1.length →
 ∃ k y, pfor_PutBlock.f k acc ((l1.drop (32 * j)).take 32) = some y ∧ (∀ x ∈ y.1, 0 ≤ x ∧ x ≤ 255) ∧ y.1.length ≤ acc.length + 1000
noncomputable def pfor_PutList.f (k : Nat) (l0 l1 : List Int) : Option (List Int) :=
 @ite _ (pfor_PutList.Ok l0 l1) (Classical.propDecidable _) ((num_Put.f k l0 (l1.length : Int)).bind fun t => if (∀ x ∈ t, 0 ≤ x ∧ x ≤ 255) ∧ t.length ≤ l0.length + 1000 then pfor_PutList.l0 k t l1 else none) none
theorem pfor_PutList.mono_l : ∀ k a0 a1, LeO (pfor_PutList.l0 k a0 a1) (pfor_PutList.l0 (k + 1) a0 a1)
 | 0, _, _ => LeO.none _
 | k + 1, a0, a1 => by
  rw [pfor_PutList.l0, pfor_PutList.l0]
  exact LeO.ite (LeO.refl _) (LeO.bind (pfor_PutBlock.mono _ _ _) (fun _ => pfor_PutList.mono_l k _ _))
theorem pfor_PutList.mono : ∀ a0 a1 k, LeO (pfor_PutList.f k a0 a1) (pfor_PutList.f (k + 1) a0 a1) := by
 intro a0 a1 k
 unfold pfor_PutList.f
 by_cases h : pfor_PutList.Ok a0 a1
 ·rw [if_pos h, if_pos h]
  exact LeO.bind (num_Put.mono _ _ _) (fun _ => LeO.ite (pfor_PutList.mono_l k _ _) (LeO.none _))
 ·rw [if_neg h]
  exact LeO.none _
theorem keeps_below {W W' : World} (h : Below W.heap.size W W') : KeepsOthers W W' := ⟨h.size, fun k o hk _ => (h.block k (Array.getElem?_eq_some_iff.1 hk).1).trans hk⟩
def pfor_PutList.Held (w : World) (l0 l1 : List Int) (k : Nat) (r : List Int) (B : Nat) (pre : List (ChunkNo l1.length)) (W : World) : Prop :=
 (∃ (acc : List Int) (v : Value), Aside0 ((∀ x ∈ acc, 0 ≤ x ∧ x ≤ 255) ∧ acc.length ≤ l0.length + 1000 + 1000 * pre.length ∧ (pre.map (·.1) = List.range pre.length → ∃ kq, pfor_PutList.l0 kq acc (l1.drop (32 * pre.length)) = some r)) ∧ Boxed W B 22 v ∧ Kd.R (Kd.int .u8) 5 W w.heap.size (fun _ => True) v acc ∧ B + 3 ≤ W.heap.size) ∧ Below w.heap.size w W
theorem pfor_PutList.held_own (w : World) (l0 l1 : List Int) (k : Nat) (r : List Int) (B : Nat) (B0 : Nat) (h : w.heap.size ≤ B0) : OwnFrom B0 (pfor_PutList.Held w l0 l1 k r B) := by
 refine OwnFrom.and (Own.from ?_ _) (ownFrom_below (Nat.le_refl _) h)
 rintro s X Y row ⟨acc, v, hp, hv, hR, hz⟩ hg hrow
 obtain ⟨v', hv', hr', rfl⟩ := holdsRow_own (β := Unit) w.heap.size B 22 5 1 (fun _ => acc.length) (fun _ => encs (Value.int .u8) acc) (fun _ u => u = v) () X Y row ⟨v, hv, Kd.own_of_R hR, rfl⟩ hg hrow
 exact ⟨acc, _, hp, hv', Kd.R_of_own hr' (fun _ _ => trivial), Nat.le_trans hz hg.size⟩
theorem pfor_PutList.step {l1 acc : List Int} {r y : List Int} {pl : Nat} (hl : 32 * pl < l1.length) (h : ∃ kq, pfor_PutList.l0 kq acc (l1.drop (32 * pl)) = some r) {k' : Nat} {e : Int} (hy : pfor_PutBlock.f k' acc ((l1.drop (32 * pl)).take 32) = some (y, e)) :
  ∃ kq, pfor_PutList.l0 kq y (l1.drop (32 * (pl + 1))) = some r := by
 obtain ⟨kq, h⟩ := h
 cases kq with
 | zero => cases h
 | succ kq =>
  rw [pfor_PutList.l0, if_neg (by rw [List.length_drop]; omega)] at h
  obtain ⟨bt, h1, h2⟩ := Option.bind_eq_some_iff.1 h
  have e1 : bt = (y, e) := by
   have a1 : ∀ n, pfor_PutBlock.f (kq + n) acc ((l1.drop (32 * pl)).take 32) = some bt := by
    intro n
    induction n with
    | zero => exact h1
    | succ n ih => exact pfor_PutBlock.mono _ _ _ _ ih
   have a2 : ∀ n, pfor_PutBlock.f (k' + n) acc ((l1.drop (32 * pl)).take 32) = some (y, e) := by
    intro n
    induction n with
    | zero => exact hy
    | succ n ih => exact pfor_PutBlock.mono _ _ _ _ ih
   have := (a1 k').symm.trans ((Nat.add_comm kq k') ▸ a2 kq)
   exact Option.some.inj this
  subst e1
  refine ⟨kq, ?_⟩
  rw [List.drop_drop] at h2
  exact h2
theorem pfor_PutList.last {l1 acc : List Int} {r : List Int} {pl : Nat} (hl : l1.length ≤ 32 * pl) (h : ∃ kq, pfor_PutList.l0 kq acc (l1.drop (32 * pl)) = some r) : acc = r := by
 obtain ⟨kq, h⟩ := h
 cases kq with
 | zero => cases h
 | succ kq =>
  rw [pfor_PutList.l0, if_pos (by rw [List.length_drop]; omega)] at h
  exact Option.some.inj h
theorem chunk_reads {W : World} {a : Option Addr} {c1 : Nat} {l1 : List Int} (h : Kd.C (Kd.int .u64) W a l1.length l1) (hc : l1.length ≤ c1) (j : Nat) (hj : 32 * j < l1.length) : Kd.C (Kd.int .u64) W (a.map (·.add (32 * j))) ((l1.drop (32 * j)).take 32).length ((l1.drop (32 * j)).take 32) := by
 have h1 := Kd.C_drop (c := c1) h (show 32 * j ≤ l1.length by omega) hc
 rw [if_neg (by omega), show (Kd.int .u64).sz = 1 from rfl, Nat.mul_one] at h1
 by_cases h2 : 32 ≤ (l1.drop (32 * j)).length
 ·exact Kd.C_take h1 h2
 ·rw [List.take_of_length_le (by omega)]
  exact h1
theorem range_snoc {l : List Nat} {x : Nat} (h : l ++ [x] = List.range (l.length + 1)) : l = List.range l.length ∧ x = l.length := by
 rw [List.range_succ] at h
 have := List.append_inj h (by simp)
 exact ⟨this.1, (List.cons.inj this.2).1⟩
set_option maxRecDepth 100000 in
set_option maxHeartbeats 4000000 in
theorem pfor_PutList.calls (k : Nat) (A0 : Option Addr) (c0 : Nat) (l0 : List Int) (A1 : Option Addr) (c1 : Nat) (l1 : List Int) (r : List Int) (w : World) (hr0 : Kd.C (Kd.int .u8) w A0 l0.length l0) (hc0 : l0.length ≤ c0) (hr1 : Kd.C (Kd.int .u64) w A1 l1.length l1) (hc1 : l1.length ≤ c1) (h : pfor_PutList.f k l0 l1 = some r) :
  Calls Try.prog 19 #[.slice A0 l0.length c0, .slice A1 l1.length c1] w fun e w' => ∃ v0_ : Value, e = .returned (v0_) ∧ Kd.R (Kd.int .u8) 5 w' w.heap.size (fun _ => True) v0_ r ∧ Below w.heap.size w w' := by
 by_cases hok : pfor_PutList.Ok l0 l1
 case neg => unfold pfor_PutList.f at h; rw [if_neg hok] at h; cases h
 unfold pfor_PutList.f at h
 rw [if_pos hok] at h
 obtain ⟨t, ht, h⟩ := Option.bind_eq_some_iff.1 h
 by_cases hb8 : (∀ x ∈ t, 0 ≤ x ∧ x ≤ 255) ∧ t.length ≤ l0.length + 1000
 case neg => rw [if_neg hb8] at h; cases h
 rw [if_pos hb8] at h
 have HT := Aside0.mk ht
 have HH := Aside0.mk h
 have HB8 := Aside0.mk hb8
 have HOK := Aside0.mk hok
 have HR0 := Aside0.mk hr0
 have HR1 := Aside0.mk hr1
 have hln : l1.length ≤ 140737488350 := by have := hok.2.1; omega
 have hnone : A1 = none → l1.length = 0 := by
  rintro rfl
  rcases Nat.eq_zero_or_pos l1.length with h_ | h_
  ·exact h_
  ·obtain ⟨ad, e, _⟩ := hr1.2.2 h_
   cases e
 clear ht h hb8 hok hr0 hr1
 refine (callsIn_wide (n := 9)).1 ?_
 refine callsIn_of_wp_marks Try.func19 rfl trivial ?_ rfl
 simp only [Try.ntmps19, List.size_toArray, List.length_cons, List.length_nil, Nat.reduceAdd, Nat.reduceSub, Array.replicate_succ, Array.replicate_zero, List.push_toArray, List.append_toArray, List.nil_append, List.cons_append]
 gi_wp2_with (first | (refine ⟨trivial, ?_⟩; gi_at_call 31; (with_reducible refine (callsIn_wide.2 (num_Put.calls k A0 c0 l0 (l1.length : Int) t w HR0.out hc0 HT.out)).mono ?_); rintro e w1 ⟨v0, rfl, hR, hB⟩; obtain ⟨At, ct, rfl⟩ := Kd.R_slice hR; have HRt := Aside0.mk hR; have HBt := Aside0.mk hB; clear hR hB) | (refine ⟨trivial, ?_⟩; gi_at_call 43; (with_reducible refine (chunk_in _ A1 l1.length c1 _).mono ?_); rintro e w2 ⟨rfl, rfl⟩) | fail)
 obtain ⟨n1, hn1⟩ : ∃ n1 : Nat, Aside0 (n1 = w1.heap.size) := ⟨_, ⟨rfl⟩⟩
 have hsz : w.heap.size ≤ n1 := by rw [hn1.out]; exact HBt.out.size
 obtain ⟨W0, hW0⟩ : ∃ W0, Aside0 (W0 = ((w1.alloc (Obj.cells #[Value.slice At t.length ct] 22)).alloc (Obj.cells #[Value.slice A1 l1.length c1] 23)).alloc (Obj.cells #[Value.int IntKind.i64 32] 3)) := ⟨_, ⟨rfl⟩⟩
 have hW0s : W0.heap.size = n1 + 3 := by rw [hW0.out, hn1.out]; simp
 have hBel : Below w.heap.size w W0 := by rw [hW0.out]; exact pbA_ (pbA_ (pbA_ HBt.out _) _) _
 have hb0 : Boxed W0 n1 22 (.slice At t.length ct) := by rw [hW0.out, hn1.out]; exact ((Boxed.new w1 22 _).alloc _).alloc _
 have hR0 : Kd.R (Kd.int .u8) 5 W0 w.heap.size (fun _ => True) (.slice At t.length ct) t := by rw [hW0.out]; exact Kd.rA_ (Kd.rA_ (Kd.rA_ HRt.out _) _) _
 have hc1' : W0.cell? ⟨n1 + 1, 0, none⟩ = some (.slice A1 l1.length c1) := by
  have h_ := ((Boxed.new (w1.alloc (Obj.cells #[Value.slice At t.length ct] 22)) 23 (.slice A1 l1.length c1)).alloc (Obj.cells #[Value.int IntKind.i64 32] 3)).cell
  rw [World.size_alloc] at h_
  rw [hW0.out, hn1.out]
  exact h_
 have hc2' : W0.cell? ⟨n1 + 2, 0, none⟩ = some (.int .i64 32) := by
  have h_ := (Boxed.new ((w1.alloc (Obj.cells #[Value.slice At t.length ct] 22)).alloc (Obj.cells #[Value.slice A1 l1.length c1] 23)) 3 (.int .i64 32)).cell
  rw [World.size_alloc, World.size_alloc] at h_
  rw [hW0.out, hn1.out]
  exact h_
 rw [← hW0.out, ← hn1.out]
 refine wpIn_rangeFunc_ownF (F := Fence.wide) rfl (by decide) (gf := 56) (lb := #[.pointer (some ⟨n1 + 1, 0, none⟩), .pointer (some ⟨n1 + 2, 0, none⟩)]) rfl trivial (enters_of Try.func56 (by kernel_rfl) rfl)
  (chunk_stops (n1 + 1) (n1 + 2) w.heap.size A1 l1.length c1 hnone hc1 (by omega) W0 (by omega) (by omega) hc1' hc2') (fun h k => KpC.trans h k) (kpC_b (by omega) (by omega) (by omega)) (Below.refl _ _) (fun _ => rfl)
  (pfor_PutList.Held w l0 l1 k r n1) (fun _ _ _ => False) (pfor_PutList.held_own w l0 l1 k r n1 W0.heap.size (by omega)) (fun _ _ _ _ _ hs _ _ => hs)
  ⟨⟨t, _, ⟨HB8.out.1, by have := HB8.out.2; simp; omega, fun _ => ⟨k, HH.out⟩⟩, hb0, hR0, by omega⟩, hBel⟩
  (fun x => { tmps := #[Value.slice A0 l0.length c0, Value.slice A1 l1.length c1, undef, undef, Value.slice none 0 0,
     Value.pointer (some { block := n1, off := 0 }), .slice (A1.map (·.add (32 * x.1))) (min 32 (l1.length - 32 * x.1)) (min 32 (l1.length - 32 * x.1)), Value.slice A0 l0.length c0,
     Value.slice A1 l1.length c1, Value.int IntKind.i64 ↑l1.length, Value.int IntKind.u64 ↑l1.length,
     Value.slice At t.length ct, Value.slice A1 l1.length c1,
     Value.func (Fn.func 56) #[] #[Value.pointer (some { block := n1 + 1, off := 0 }), Value.pointer (some { block := n1 + 2, off := 0 })],
     .slice (A1.map (·.add (32 * x.1))) (min 32 (l1.length - 32 * x.1)) (min 32 (l1.length - 32 * x.1)), undef, undef, undef, undef, undef, undef, undef], defers := [] }) ?assign ?body ?done ?stop
 case assign =>
  intro l x W K hK
  dsimp only [encChunk]
  gi_wp2
  exact hK
 case stop =>
  intro D c pre W _ _ h _
  exact h.elim
 case body =>
  rintro l pre x W ⟨⟨acc, v, hp, hv, hR, hz⟩, hB⟩ hlen
  obtain ⟨A, c, rfl⟩ := Kd.R_slice hR
  obtain ⟨-, hcap, hC⟩ := Kd.R_reads' hR
  obtain ⟨k', y, hy, hy8, hyl⟩ := HOK.out.2.2 acc hp.out.1 (by have := hp.out.2.1; omega) x.1 x.2
  have hch := chunk_reads (Kd.C_below HR1.out hB) hc1 x.1 x.2
  have hcl : ((l1.drop (32 * x.1)).take 32).length = min 32 (l1.length - 32 * x.1) := by simp
  have hcall := pfor_PutBlock.calls k' A c acc (A1.map (·.add (32 * x.1))) ((l1.drop (32 * x.1)).take 32).length ((l1.drop (32 * x.1)).take 32) y.1 y.2 W hC hcap hch (Nat.le_refl _) hy
  rw [hcl] at hcall
  have HCl := Aside0.mk hcl
  have HY := Aside0.mk hy
  have HC_ := Aside0.mk hC
  have HCh := Aside0.mk hch
  have HRa := Aside0.mk hR
  have HBa := Aside0.mk hB
  have HCall := Aside0.mk hcall
  clear hcl hy hC hch hR hB hcall
  have hcv := hv.cell
  gi_wp2_with (first | (refine ⟨trivial, ?_⟩; gi_at_call 12; (with_reducible refine (CallsIn.inRound l (callsIn_wide.2 HCall.out)).mono ?_); rintro e w2 ⟨v2, rfl, hR2, hB2⟩; obtain ⟨A2, c2, rfl⟩ := Kd.R_slice hR2; have hv2 : Boxed w2 n1 22 (.slice A acc.length c) := (hB2.block n1 hv.lt).trans hv; have hcv2 := hv2.cell; have hfv2 := hv2.frozen; have HR2 := Aside0.mk hR2; have HB2 := Aside0.mk hB2; clear hR2 hB2) | fail)
  have hs1 := HBa.out.size
  have hbl : Below w.heap.size W w2 := HB2.out.mono hs1
  have hown := Kd.own_of_R (Kd.R_lower HR2.out hs1)
  refine ⟨(keeps_below HB2.out).trans (KeepsOthers.setCell _ _ _), ⟨hbl.setCell (p := ⟨n1, 0, none⟩) hsz _, ?_, ?_⟩, ⟨y.1, _, ⟨hy8, ?_, ?_⟩, hv2.set _, Kd.R_of_own (hown.kept (grownBy_setCell' w2 n1 _) (.inr (hv2.not_row (by decide) hown).symm)) (fun _ _ => trivial), ?_⟩, (HBa.out.trans hbl).setCell (p := ⟨n1, 0, none⟩) hsz _⟩
  ·exact (Below.heap_setCell _ _ _ _ (by simp)).trans (HB2.out.block _ (by omega))
  ·exact (Below.heap_setCell _ _ _ _ (by simp)).trans (HB2.out.block _ (by omega))
  ·have := hp.out.2.1
   rw [List.length_append, List.length_singleton]
   omega
  ·intro he
   rw [List.map_append, List.length_append, List.length_singleton, List.map_cons, List.map_nil] at he
   have h3 := range_snoc (l := pre.map (·.1)) (by rw [List.length_map]; exact he)
   rw [List.length_map] at h3
   rw [List.length_append, List.length_singleton]
   have hx := x.2
   refine pfor_PutList.step (by have := h3.2; omega) (hp.out.2.2 h3.1) (k' := k') (e := y.2) ?_
   rw [← h3.2]
   exact HY.out
  ·have := HB2.out.size
   simp
   omega
 case done =>
  rintro D ys W hD hS ⟨⟨acc, v, hp, hv, hR, hz⟩, hB⟩ hK
  have hyl : ys.length = (l1.length + 31) / 32 := by have := congrArg List.length hS; simpa using this
  have hacc := pfor_PutList.last (by omega) (hp.out.2.2 (by rw [hyl]; exact hS))
  subst hacc
  obtain ⟨A, c, rfl⟩ := Kd.R_slice hR
  have hcv := hv.cell
  have HRa := Aside0.mk hR
  have HBa := Aside0.mk hB
  clear hR hB
  gi_wp2
  refine ⟨by simp, .inl ⟨_, _, rfl, run_takeDeferred hK, ?_⟩⟩
  refine ⟨_, results_tmp rfl _ _ _, _, rfl, ?_, ?_⟩
  ·exact Kd.R_of_own (ownsRow_putObj (Kd.own_of_R HRa.out) _ hK rfl) (fun _ _ => trivial)
  ·exact HBa.out.trans (belowK_b (w := w) (Nat.le_refl _) W D _ _ (by omega) hK rfl rfl)
end
end Go.Proofs.Ytkcjjennlhgmhaa.P
end
section
namespace Go.Proofs.Ytkcjjennlhgmhaa.P
open Go.RowKit Go.Proofs.YtkcjjennlhgmhaaW.PrintWords Go.Proofs.YtkcjjennlhgmhaaW.PrintLast Go.Proofs.YtkcjjennlhgmhaaW.PrintMore
attribute [local go_sem] max2_int min2_int max_two min_two max_three min_three max_four min_four
set_option linter.unusedVariables false
set_option linter.unusedSimpArgs false
noncomputable def pfor_TakeList.l0 : Nat → List Int → Int → List Int → Int → Option (List Int × Int × Int)
 | 0, _, _, _, _ => none
 | k + 1, x0, x8, x10, x11 => if x11 > 0 then (if 0 ≤ x8 then (if x8 ≤ (x0.length : Int) then ((pfor_TakeBlock.f k (x0.drop (x8 : Int).toNat)).bind fun bt452 => (if bt452.2.2 = 0 then (if (bt452.1.length : Int) = (mn x11 32) then (if x10.length + bt452.1.length < 17592186044416 then (pfor_TakeList.l0 k x0 (wrap64 (x8 + bt452.2.1)) (x10 ++ bt452.1) (wrap64 (x11 - (bt452.1.length : Int)))) else (none)) else (some (([] : List Int), 0, 2))) else (some (([] : List Int), 0, 2)))) else (none)) else (none)) else (some (x10, x8, 0))
noncomputable def pfor_TakeList.f (k : Nat) (l0 : List Int) (a1 : Int) : Option (List Int × Int × Int) := if a1 < 0 then (some (([] : List Int), 0, 1)) else ((num_Take.f k l0).bind fun bt448 => (if bt448.2.2 = 0 then (if bt448.1 > (IntKind.u64.wrap (a1)) then (some (([] : List Int), 0, 5)) else (pfor_TakeList.l0 k l0 bt448.2.1 ([] : List Int) (wrap64 (bt448.1)))) else (some (([] : List Int), 0, 2))))
theorem pfor_TakeList.mono_l : ∀ k, (∀ y0 y1 y2 y3, LeO (pfor_TakeList.l0 k y0 y1 y2 y3) (pfor_TakeList.l0 (k + 1) y0 y1 y2 y3))
 | 0 => fun _ _ _ _ r h => by simp [pfor_TakeList.l0] at h
 | k + 1 => by
  have ih0 := pfor_TakeList.mono_l k
  ·intro y0 y1 y2 y3
   unfold pfor_TakeList.l0
   repeat' first
   | (with_reducible exact ih0 _ _ _ _)
   | (with_reducible exact num_Take.mono _ _)
   | (with_reducible exact pfor_TakeBlock.mono _ _)
   | (with_reducible exact LeO.refl _)
   | (with_reducible exact LeO.none _)
   | (with_reducible refine LeO.ite ?_ ?_)
   | (with_reducible refine LeO.bind ?_ (fun _ => ?_))
   | exact ih0 _ _ _ _
   | exact num_Take.mono _ _
   | exact pfor_TakeBlock.mono _ _
   | exact LeO.none _
   | refine LeO.ite ?_ ?_
   | refine LeO.bind ?_ (fun _ => ?_)
theorem pfor_TakeList.mono : ∀ a0 a1 k, LeO (pfor_TakeList.f k a0 a1) (pfor_TakeList.f (k + 1) a0 a1) := by
 intro a0 a1 k
 have ih0 := pfor_TakeList.mono_l k
 unfold pfor_TakeList.f
 repeat' first
   | (with_reducible exact ih0 _ _ _ _)
   | (with_reducible exact num_Take.mono _ _)
   | (with_reducible exact pfor_TakeBlock.mono _ _)
   | (with_reducible exact LeO.refl _)
   | (with_reducible exact LeO.none _)
   | (with_reducible refine LeO.ite ?_ ?_)
   | (with_reducible refine LeO.bind ?_ (fun _ => ?_))
   | exact ih0 _ _ _ _
   | exact num_Take.mono _ _
   | exact pfor_TakeBlock.mono _ _
   | exact LeO.none _
   | refine LeO.ite ?_ ?_
   | refine LeO.bind ?_ (fun _ => ?_)
set_option maxHeartbeats 8000000 in
set_option maxRecDepth 100000 in
theorem pfor_TakeList.calls (k : Nat) (A0 : Option Addr) (c0 : Nat) (l0 : List Int) (a1 : Int) (r1 : List Int) (r2 : Int) (r3 : Int) (w : World) (hr0 : Kd.C (Kd.int .u8) w A0 l0.length l0) (hc0 : l0.length ≤ c0) (h : pfor_TakeList.f k l0 a1 = some (r1, r2, r3)) :
  Calls Try.prog 20 #[.slice A0 l0.length c0, .int .i64 a1] w fun e w' => ∃ v0_ : Value, e = .returned (.tuple #[v0_, .int .i64 r2, .int .i64 r3]) ∧ Kd.R (Kd.int .u64) 50 w' w.heap.size (fun _ => True) v0_ r1 ∧ Below w.heap.size w w' := by
 have HR0 := Aside0.mk hr0
 have HC0 := Aside0.mk hc0
 clear hr0 hc0
 have HB := Aside0.mk (Below.refl w.heap.size w)
 have H : (if a1 < 0 then (some (([] : List Int), 0, 1)) else ((num_Take.f k l0).bind fun bt448 => (if bt448.2.2 = 0 then (if bt448.1 > (IntKind.u64.wrap (a1)) then (some (([] : List Int), 0, 5)) else (pfor_TakeList.l0 k l0 bt448.2.1 ([] : List Int) (wrap64 (bt448.1)))) else (some (([] : List Int), 0, 2))))) = some (r1, r2, r3) := h
 clear h
 by_cases c3 : a1 < 0
 ·rw [if_pos c3] at H
  have c3b0 : decide (a1 < 0) = true := decide_eq_true c3
  clear c3
  simp only [Option.some.injEq, Prod.mk.injEq] at H
  obtain ⟨rfl, rfl, rfl⟩ := H
  go_enter Try.func20, Try.ntmps20
  go_wp2
  go_ret3
  exact ⟨_, by first | rfl | (simp [eWn_, eWs_] <;> rfl) | (simp [*, eWn_, eWs_] <;> rfl), by first | exact Kd.R_nil _ _ _ _ _ | exact Kd.N_nil _ _ _ _ _ | exact Kd.V_nil _ _ _ _ _ | exact Kd.Q_nil _ _ _ _ _ | exact Kd.S_nil _ _ _ _ _, by repeat (first | (with_reducible first | exact HB.out | apply pbA_ | apply pbN_ | apply pb1_) | exact HB.out)⟩
 ·rw [if_neg c3] at H
  have c3b0 : decide (a1 < 0) = false := decide_eq_false c3
  clear c3
  replace H := Option.bind_eq_some_iff.mp H
  obtain ⟨⟨t448, t449, t450⟩, A40, H⟩ := H
  replace H : (if t450 = 0 then (if t448 > (IntKind.u64.wrap (a1)) then (some (([] : List Int), 0, 5)) else (pfor_TakeList.l0 k l0 t449 ([] : List Int) (wrap64 (t448)))) else (some (([] : List Int), 0, 2))) = some (r1, r2, r3) := H
  have A4 := Aside0.mk A40
  clear A40
  by_cases c5 : t450 = 0
  ·rw [if_pos c5] at H
   have c5b0 : (t450 == 0) = true := beq_iff_eq.mpr c5
   have c5b1 : (t450 != 0) = false := bne_eq_false_iff_eq.mpr c5
   clear c5
   by_cases c6 : t448 > (IntKind.u64.wrap (a1))
   ·rw [if_pos c6] at H
    have c6b0 : decide ((IntKind.u64.wrap (a1)) < t448) = true := decide_eq_true c6
    clear c6
    simp only [Option.some.injEq, Prod.mk.injEq] at H
    obtain ⟨rfl, rfl, rfl⟩ := H
    go_enter Try.func20, Try.ntmps20
    go_wp2_with (first | ((with_reducible refine gaC_ (f := 44) rfl ?_); refine goesL_ (some 19) rfl rfl Try.func44 (by kernel_rfl) rfl #[.slice A0 l0.length c0] rfl (by (try simp only [List.map_toArray, List.map_cons, List.map_nil]); first | done | rfl | (simp only [List.length_drop, List.length_take]; rfl)) ?_; (with_reducible refine (num_Take.calls k _ _ l0 t448 t449 t450 _ ?side1 ?side2 A4.out).mono ?_); (case side1 => repeat (first | exact HR0.out | (with_reducible refine Kd.cA_ ?_ _) | (with_reducible refine Kd.cN_ ?_ _) | (with_reducible refine Kd.cD_ ?_))); (case side2 => exact HC0.out); rintro e w' ⟨rfl, ⟨nd, rfl⟩⟩; refine ⟨_, rfl, ?_⟩))
    go_ret3
    exact ⟨_, by first | rfl | (simp [eWn_, eWs_] <;> rfl) | (simp [*, eWn_, eWs_] <;> rfl), by first | exact Kd.R_nil _ _ _ _ _ | exact Kd.N_nil _ _ _ _ _ | exact Kd.V_nil _ _ _ _ _ | exact Kd.Q_nil _ _ _ _ _ | exact Kd.S_nil _ _ _ _ _, by repeat (first | (with_reducible first | exact HB.out | apply pbA_ | apply pbN_ | apply pb1_) | exact HB.out)⟩
   ·rw [if_neg c6] at H
    have c6b0 : decide ((IntKind.u64.wrap (a1)) < t448) = false := decide_eq_false c6
    clear c6
    have H' := Aside0.mk H
    clear H
    go_enter Try.func20, Try.ntmps20
    go_wp2_with (first | ((with_reducible refine gaC_ (f := 44) rfl ?_); refine goesL_ (some 19) rfl rfl Try.func44 (by kernel_rfl) rfl #[.slice A0 l0.length c0] rfl (by (try simp only [List.map_toArray, List.map_cons, List.map_nil]); first | done | rfl | (simp only [List.length_drop, List.length_take]; rfl)) ?_; (with_reducible refine (num_Take.calls k _ _ l0 t448 t449 t450 _ ?side1 ?side2 A4.out).mono ?_); (case side1 => repeat (first | exact HR0.out | (with_reducible refine Kd.cA_ ?_ _) | (with_reducible refine Kd.cN_ ?_ _) | (with_reducible refine Kd.cD_ ?_))); (case side2 => exact HC0.out); rintro e w' ⟨rfl, ⟨nd, rfl⟩⟩; refine ⟨_, rfl, ?_⟩))
    go_loopg [8, 10, 11] k (fun kq v8 v10 v11 w' => ∃ (x8_1 : Int) (x10_1 : List Int) (x11_1 : Int), v8 = .int .i64 x8_1 ∧ v11 = .int .i64 x11_1 ∧ Aside0 (pfor_TakeList.l0 kq l0 x8_1 x10_1 x11_1 = some (r1, r2, r3)) ∧ Aside0 (kq ≤ k) ∧ Aside0 (Kd.R (Kd.int .u64) 50 w' w.heap.size (fun _ => True) v10 x10_1) ∧ Aside0 (Below w.heap.size w w'))
    case atStart => exact ⟨(t449), (([] : List Int)), (wrap64 (t448)), (by first | rfl | (simp; done) | (simp [*]; done)), (by first | rfl | (simp; done) | (simp [*]; done)), H', ⟨Nat.le_refl _⟩, ⟨by first | exact Kd.R_nil _ _ _ _ _ | exact Kd.N_nil _ _ _ _ _ | exact Kd.V_nil _ _ _ _ _ | exact Kd.Q_nil _ _ _ _ _ | exact Kd.S_nil _ _ _ _ _⟩, ⟨by repeat (first | (with_reducible first | exact HB.out | apply pbA_ | apply pbN_ | apply pb1_) | exact HB.out)⟩⟩
    case round =>
     clear H'
     try clear c2
     try clear p2
     try clear c3
     try clear c3b0
     try clear c4
     try clear c5
     try clear c5b0
     try clear c5b1
     try clear c6
     try clear c6b0
     try clear p6
     obtain ⟨x8_1, x10_1, x11_1, rfl, rfl, HA, HK1, HO_10, HB⟩ := hrel
     cases gk with
     | zero => exact absurd HA.out (by simp [pfor_TakeList.l0])
     | succ k1 =>
      have H := HA.out
      clear HA
      simp only [pfor_TakeList.l0] at H
      by_cases c7 : x11_1 > 0
      ·rw [if_pos c7] at H
       have c7b0 : decide (0 < x11_1) = true := decide_eq_true c7
       clear c7
       by_cases c8 : 0 ≤ x8_1
       ·rw [if_pos c8] at H
        have c8b0 := eq_true c8
        have c8b1 : decide (0 ≤ x8_1) = true := decide_eq_true c8
        clear c8
        by_cases c9 : x8_1 ≤ (l0.length : Int)
        ·rw [if_pos c9] at H
         have c9b0 := eq_true c9
         have c9b1 : decide (x8_1 ≤ (l0.length : Int)) = true := decide_eq_true c9
         clear c9
         replace H := Option.bind_eq_some_iff.mp H
         obtain ⟨⟨t452, t453, t454⟩, A100, H⟩ := H
         replace H : (if t454 = 0 then (if (t452.length : Int) = (mn x11_1 32) then (if x10_1.length + t452.length < 17592186044416 then (pfor_TakeList.l0 k1 l0 (wrap64 (x8_1 + t453)) (x10_1 ++ t452) (wrap64 (x11_1 - (t452.length : Int)))) else (none)) else (some (([] : List Int), 0, 2))) else (some (([] : List Int), 0, 2))) = some (r1, r2, r3) := H
         have A10 := Aside0.mk A100
         clear A100
         by_cases c11 : t454 = 0
         ·rw [if_pos c11] at H
          have c11b0 : (t454 == 0) = true := beq_iff_eq.mpr c11
          have c11b1 : (t454 != 0) = false := bne_eq_false_iff_eq.mpr c11
          clear c11
          obtain ⟨ji12, hji12⟩ : ∃ j_ : Int, (mn x11_1 32) = j_ := ⟨_, rfl⟩
          replace H : (if (t452.length : Int) = (ji12) then (if x10_1.length + t452.length < 17592186044416 then (pfor_TakeList.l0 k1 l0 (wrap64 (x8_1 + t453)) (x10_1 ++ t452) (wrap64 (x11_1 - (t452.length : Int)))) else (none)) else (some (([] : List Int), 0, 2))) = some (r1, r2, r3) := by first | (rw [hji12] at H; exact H) | (simp only [hji12] at H ⊢; exact H)
          (try rw [hji12] at A10)
          have hji12_ : (if 32 < x11_1 then 32 else x11_1) = ji12 := hji12
          by_cases c13 : (t452.length : Int) = (ji12)
          ·rw [if_pos c13] at H
           have c13b0 : ((t452.length : Int) == (ji12)) = true := beq_iff_eq.mpr c13
           have c13b1 : ((t452.length : Int) != (ji12)) = false := bne_eq_false_iff_eq.mpr c13
           clear c13
           by_cases c14 : x10_1.length + t452.length < 17592186044416
           ·rw [if_pos c14] at H
            have LMc14 := Aside0.mk c14
            clear c14
            obtain ⟨y457, hy457⟩ : ∃ y_ : List Int, y_ = (x10_1 ++ t452) := ⟨_, rfl⟩
            replace H : (pfor_TakeList.l0 k1 l0 (wrap64 (x8_1 + t453)) y457 (wrap64 (x11_1 - (t452.length : Int)))) = some (r1, r2, r3) := by first | (rw [hy457]; with_reducible exact H) | (have H2_ := (Option.bind_some _ _).symm.trans H; rw [hy457]; with_reducible exact H2_) | (have H2_ := (Option.bind_some _ _).symm.trans H; with_reducible exact H2_) | with_reducible exact H | (rw [hy457]; exact H) | exact H
            have Ny457 := Aside0.mk hy457
            clear hy457
            have H' := Aside0.mk H
            clear H
            obtain ⟨i015, hi015, _, hsz15, _⟩ := info_parts info5
            obtain ⟨A15, hcut15, hA15, hC15⟩ := print_drop_of (P := Try.prog) (Value.int .u8) 0 22 5 .i64 Try.underlying22 hi015 hsz15 A0 c0 l0 x8_1 (of_decide_eq_true (by first | (with_reducible assumption) | assumption)) (of_decide_eq_true (by first | (with_reducible assumption) | assumption)) HC0.out
            have HR451 := Aside0.mk (Kd.C_of_reads (h1 := fun _ => rfl) (hA15 _ (Kd.reads_of_C HR0.out)))
            have HC451 := Aside0.mk hC15
            clear hA15 hC15 hi015 hsz15
            go_wp2_with (first | ((with_reducible refine gaC_ (f := 16) rfl ?_); refine goesL_ (some 37) rfl rfl Try.func16 (by kernel_rfl) rfl #[.slice A15 (l0.drop (x8_1 : Int).toNat).length (c0 - x8_1.toNat)] rfl (by (try simp only [List.map_toArray, List.map_cons, List.map_nil]); first | done | (rw [show (l0.drop (x8_1 : Int).toNat).length = (l0.length - x8_1.toNat) from List.length_drop] <;> rfl) | rfl | (simp only [List.length_drop, List.length_take]; rfl)) ?_; (with_reducible refine (pfor_TakeBlock.calls k1 _ _ (l0.drop (x8_1 : Int).toNat) t452 t453 t454 _ ?side1 ?side2 A10.out).mono ?_); (case side1 => repeat (first | exact (Kd.C_below HR451.out HB.out) | (with_reducible refine Kd.cA_ ?_ _) | (with_reducible refine Kd.cN_ ?_ _) | (with_reducible refine Kd.cD_ ?_))); (case side2 => exact HC451.out); rintro e w16 ⟨v455, rfl, ho0, hb⟩; refine ⟨_, rfl, ?_⟩; have n0_ := Aside0.mk (Kd.R_elder' (by (with_reducible repeat (first | apply Kd.rA_ | apply Kd.rN_ | apply Kd.rD_)); exact HO_10.out) (Kd.R_base ho0) hb); have n1_ := Aside0.mk (Kd.R_lower (Kd.R_new' ho0 (Kd.R_lt (by (with_reducible repeat (first | apply Kd.rA_ | apply Kd.rN_ | apply Kd.rD_)); exact HO_10.out))) (pbS_ (by repeat (first | (with_reducible first | exact HB.out | apply pbA_ | apply pbN_ | apply pb1_) | exact HB.out)))); have n2_ := Aside0.mk (below_step (by repeat (first | (with_reducible first | exact HB.out | apply pbA_ | apply pbN_ | apply pb1_) | exact HB.out)) hb); clear HO_10; clear HB; have HO_10 := n0_; have HO456 := n1_; have HB := n2_; clear n0_ n1_ n2_; (try clear hb); (try clear hb2); (try clear hk); (try clear hi); (try clear ho0); obtain ⟨Ao17, co17, eo17⟩ := Kd.R_slice HO456.out; subst eo17) | ((with_reducible refine gate_builtin (b := .append) (xs := #[.tmp 50, .tmp 51]) rfl ?_); (try (refine gate_guard (by rfl) ?_; dsimp only)); at_builtin; refine Kd.R_append_rows (Kd.int .u64) (w0 := w) w.heap.size rfl (.tmp 50) (.tmp 51) 23 50 (.int .u64 0) 8 rfl Try.underlying23 info50 rfl (by decide) (by omega) u10 x10_1 t452 _ _ _ (fun k_ => some k_ ≠ (.slice Ao17 t452.length co17 : Value).ownBlock) (fun _ => False) rfl rfl ?aO ?aR (fun _ _ h => h) (fun _ h => h.elim) ?aF ?aB ?aS ?aL ?_; (case aR => repeat (first | exact (Kd.R_reads' HO456.out).2.2 | (with_reducible refine Kd.cA_ ?_ _) | (with_reducible refine Kd.cN_ ?_ _) | (with_reducible refine Kd.cD_ ?_))); (case aB => exact (by repeat (first | (with_reducible first | exact HB.out | apply pbA_ | apply pbN_ | apply pb1_) | exact HB.out))); (case aF => exact (fun k_ hk => Kd.fresh' (Kd.R_lt (by (with_reducible repeat (first | apply Kd.rA_ | apply Kd.rN_ | apply Kd.rD_)); exact HO456.out)) k_ hk)); (case aO => exact (by (with_reducible repeat (first | apply Kd.rA_ | apply Kd.rN_ | apply Kd.rD_)); exact Kd.R_mono HO_10.out (fun _ hk => hk.2))); (case aS => exact (pbS_ (by repeat (first | (with_reducible first | exact HB.out | apply pbA_ | apply pbN_ | apply pb1_) | exact HB.out)))); (case aL => have := LMc14.out; omega); intro v458 w18 ho hb hg hat; rw [← Ny457.out] at ho; have n0_ := Aside0.mk (Kd.R_after (ok := (fun _ => True)) (by (with_reducible repeat (first | apply Kd.rA_ | apply Kd.rN_ | apply Kd.rD_)); exact HO456.out) hg hat); have n1_ := Aside0.mk (hb); have n2_ := Aside0.mk (ho); clear HO456; clear HB; clear HO_10; have HO456 := n0_; have HB := n1_; have HO459 := n2_; clear n0_ n1_ n2_; clear ho hb hg hat))
            (try subst hji12)
            go_roundg k1
            case measure => have := HK1.out; omega
            case rel => exact ⟨(wrap64 (x8_1 + t453)), (y457), (wrap64 (x11_1 - (t452.length : Int))), (by first | rfl | (simp; done) | (simp [*]; done)), (by first | rfl | (simp; done) | (simp [*]; done)), H', ⟨by have := HK1.out; omega⟩, ⟨by (with_reducible repeat (first | apply Kd.rA_ | apply Kd.rN_ | apply Kd.rD_)); exact Kd.R_mono HO459.out (fun _ hk => trivial)⟩, ⟨by repeat (first | (with_reducible first | exact HB.out | apply pbA_ | apply pbN_ | apply pb1_) | exact HB.out)⟩⟩
           ·rw [if_neg c14] at H
            exact absurd H (by simp)
          ·rw [if_neg c13] at H
           have c13b0 : ((t452.length : Int) == (ji12)) = false := beq_eq_false_iff_ne.mpr c13
           have c13b1 : ((t452.length : Int) != (ji12)) = true := bne_iff_ne.mpr c13
           simp only [Option.some.injEq, Prod.mk.injEq] at H
           obtain ⟨rfl, rfl, rfl⟩ := H
           obtain ⟨i019, hi019, _, hsz19, _⟩ := info_parts info5
           obtain ⟨A19, hcut19, hA19, hC19⟩ := print_drop_of (P := Try.prog) (Value.int .u8) 0 22 5 .i64 Try.underlying22 hi019 hsz19 A0 c0 l0 x8_1 (of_decide_eq_true (by first | (with_reducible assumption) | assumption)) (of_decide_eq_true (by first | (with_reducible assumption) | assumption)) HC0.out
           have HR451 := Aside0.mk (Kd.C_of_reads (h1 := fun _ => rfl) (hA19 _ (Kd.reads_of_C HR0.out)))
           have HC451 := Aside0.mk hC19
           clear hA19 hC19 hi019 hsz19
           go_wp2_with (first | ((with_reducible refine gaC_ (f := 16) rfl ?_); refine goesL_ (some 37) rfl rfl Try.func16 (by kernel_rfl) rfl #[.slice A19 (l0.drop (x8_1 : Int).toNat).length (c0 - x8_1.toNat)] rfl (by (try simp only [List.map_toArray, List.map_cons, List.map_nil]); first | done | (rw [show (l0.drop (x8_1 : Int).toNat).length = (l0.length - x8_1.toNat) from List.length_drop] <;> rfl) | rfl | (simp only [List.length_drop, List.length_take]; rfl)) ?_; (with_reducible refine (pfor_TakeBlock.calls k1 _ _ (l0.drop (x8_1 : Int).toNat) t452 t453 t454 _ ?side1 ?side2 A10.out).mono ?_); (case side1 => repeat (first | exact (Kd.C_below HR451.out HB.out) | (with_reducible refine Kd.cA_ ?_ _) | (with_reducible refine Kd.cN_ ?_ _) | (with_reducible refine Kd.cD_ ?_))); (case side2 => exact HC451.out); rintro e w20 ⟨v455, rfl, ho0, hb⟩; refine ⟨_, rfl, ?_⟩; have n0_ := Aside0.mk (Kd.R_elder' (by (with_reducible repeat (first | apply Kd.rA_ | apply Kd.rN_ | apply Kd.rD_)); exact HO_10.out) (Kd.R_base ho0) hb); have n1_ := Aside0.mk (Kd.R_lower (Kd.R_new' ho0 (Kd.R_lt (by (with_reducible repeat (first | apply Kd.rA_ | apply Kd.rN_ | apply Kd.rD_)); exact HO_10.out))) (pbS_ (by repeat (first | (with_reducible first | exact HB.out | apply pbA_ | apply pbN_ | apply pb1_) | exact HB.out)))); have n2_ := Aside0.mk (below_step (by repeat (first | (with_reducible first | exact HB.out | apply pbA_ | apply pbN_ | apply pb1_) | exact HB.out)) hb); clear HO_10; clear HB; have HO_10 := n0_; have HO456 := n1_; have HB := n2_; clear n0_ n1_ n2_; (try clear hb); (try clear hb2); (try clear hk); (try clear hi); (try clear ho0); obtain ⟨Ao21, co21, eo21⟩ := Kd.R_slice HO456.out; subst eo21))
           go_ret3
           exact ⟨_, by first | rfl | (simp [eWn_, eWs_] <;> rfl) | (simp only [← hji12]; first | rfl | (simp [eWn_, eWs_] <;> rfl)) | (simp [*, eWn_, eWs_] <;> rfl), by first | exact Kd.R_nil _ _ _ _ _ | exact Kd.N_nil _ _ _ _ _ | exact Kd.V_nil _ _ _ _ _ | exact Kd.Q_nil _ _ _ _ _ | exact Kd.S_nil _ _ _ _ _, by repeat (first | (with_reducible first | exact HB.out | apply pbA_ | apply pbN_ | apply pb1_) | exact HB.out)⟩
         ·rw [if_neg c11] at H
          have c11b0 : (t454 == 0) = false := beq_eq_false_iff_ne.mpr c11
          have c11b1 : (t454 != 0) = true := bne_iff_ne.mpr c11
          simp only [Option.some.injEq, Prod.mk.injEq] at H
          obtain ⟨rfl, rfl, rfl⟩ := H
          obtain ⟨i022, hi022, _, hsz22, _⟩ := info_parts info5
          obtain ⟨A22, hcut22, hA22, hC22⟩ := print_drop_of (P := Try.prog) (Value.int .u8) 0 22 5 .i64 Try.underlying22 hi022 hsz22 A0 c0 l0 x8_1 (of_decide_eq_true (by first | (with_reducible assumption) | assumption)) (of_decide_eq_true (by first | (with_reducible assumption) | assumption)) HC0.out
          have HR451 := Aside0.mk (Kd.C_of_reads (h1 := fun _ => rfl) (hA22 _ (Kd.reads_of_C HR0.out)))
          have HC451 := Aside0.mk hC22
          clear hA22 hC22 hi022 hsz22
          go_wp2_with (first | ((with_reducible refine gaC_ (f := 16) rfl ?_); refine goesL_ (some 37) rfl rfl Try.func16 (by kernel_rfl) rfl #[.slice A22 (l0.drop (x8_1 : Int).toNat).length (c0 - x8_1.toNat)] rfl (by (try simp only [List.map_toArray, List.map_cons, List.map_nil]); first | done | (rw [show (l0.drop (x8_1 : Int).toNat).length = (l0.length - x8_1.toNat) from List.length_drop] <;> rfl) | rfl | (simp only [List.length_drop, List.length_take]; rfl)) ?_; (with_reducible refine (pfor_TakeBlock.calls k1 _ _ (l0.drop (x8_1 : Int).toNat) t452 t453 t454 _ ?side1 ?side2 A10.out).mono ?_); (case side1 => repeat (first | exact (Kd.C_below HR451.out HB.out) | (with_reducible refine Kd.cA_ ?_ _) | (with_reducible refine Kd.cN_ ?_ _) | (with_reducible refine Kd.cD_ ?_))); (case side2 => exact HC451.out); rintro e w23 ⟨v455, rfl, ho0, hb⟩; refine ⟨_, rfl, ?_⟩; have n0_ := Aside0.mk (Kd.R_elder' (by (with_reducible repeat (first | apply Kd.rA_ | apply Kd.rN_ | apply Kd.rD_)); exact HO_10.out) (Kd.R_base ho0) hb); have n1_ := Aside0.mk (Kd.R_lower (Kd.R_new' ho0 (Kd.R_lt (by (with_reducible repeat (first | apply Kd.rA_ | apply Kd.rN_ | apply Kd.rD_)); exact HO_10.out))) (pbS_ (by repeat (first | (with_reducible first | exact HB.out | apply pbA_ | apply pbN_ | apply pb1_) | exact HB.out)))); have n2_ := Aside0.mk (below_step (by repeat (first | (with_reducible first | exact HB.out | apply pbA_ | apply pbN_ | apply pb1_) | exact HB.out)) hb); clear HO_10; clear HB; have HO_10 := n0_; have HO456 := n1_; have HB := n2_; clear n0_ n1_ n2_; (try clear hb); (try clear hb2); (try clear hk); (try clear hi); (try clear ho0)))
          go_ret3
          exact ⟨_, by first | rfl | (simp [eWn_, eWs_] <;> rfl) | (simp [*, eWn_, eWs_] <;> rfl), by first | exact Kd.R_nil _ _ _ _ _ | exact Kd.N_nil _ _ _ _ _ | exact Kd.V_nil _ _ _ _ _ | exact Kd.Q_nil _ _ _ _ _ | exact Kd.S_nil _ _ _ _ _, by repeat (first | (with_reducible first | exact HB.out | apply pbA_ | apply pbN_ | apply pb1_) | exact HB.out)⟩
        ·rw [if_neg c9] at H
         exact absurd H (by simp)
       ·rw [if_neg c8] at H
        exact absurd H (by simp)
      ·rw [if_neg c7] at H
       have c7b0 : decide (0 < x11_1) = false := decide_eq_false c7
       clear c7
       simp only [Option.some.injEq, Prod.mk.injEq] at H
       obtain ⟨rfl, rfl, rfl⟩ := H
       go_wp2
       go_ret3
       exact ⟨_, by first | rfl | (simp [eWn_, eWs_] <;> rfl) | (simp [*, eWn_, eWs_] <;> rfl), by (with_reducible repeat (first | apply Kd.rA_ | apply Kd.rN_ | apply Kd.rD_)); exact HO_10.out, by repeat (first | (with_reducible first | exact HB.out | apply pbA_ | apply pbN_ | apply pb1_) | exact HB.out)⟩
  ·rw [if_neg c5] at H
   have c5b0 : (t450 == 0) = false := beq_eq_false_iff_ne.mpr c5
   have c5b1 : (t450 != 0) = true := bne_iff_ne.mpr c5
   simp only [Option.some.injEq, Prod.mk.injEq] at H
   obtain ⟨rfl, rfl, rfl⟩ := H
   go_enter Try.func20, Try.ntmps20
   go_wp2_with (first | ((with_reducible refine gaC_ (f := 44) rfl ?_); refine goesL_ (some 19) rfl rfl Try.func44 (by kernel_rfl) rfl #[.slice A0 l0.length c0] rfl (by (try simp only [List.map_toArray, List.map_cons, List.map_nil]); first | done | rfl | (simp only [List.length_drop, List.length_take]; rfl)) ?_; (with_reducible refine (num_Take.calls k _ _ l0 t448 t449 t450 _ ?side1 ?side2 A4.out).mono ?_); (case side1 => repeat (first | exact HR0.out | (with_reducible refine Kd.cA_ ?_ _) | (with_reducible refine Kd.cN_ ?_ _) | (with_reducible refine Kd.cD_ ?_))); (case side2 => exact HC0.out); rintro e w' ⟨rfl, ⟨nd, rfl⟩⟩; refine ⟨_, rfl, ?_⟩))
   go_ret3
   exact ⟨_, by first | rfl | (simp [eWn_, eWs_] <;> rfl) | (simp [*, eWn_, eWs_] <;> rfl), by first | exact Kd.R_nil _ _ _ _ _ | exact Kd.N_nil _ _ _ _ _ | exact Kd.V_nil _ _ _ _ _ | exact Kd.Q_nil _ _ _ _ _ | exact Kd.S_nil _ _ _ _ _, by repeat (first | (with_reducible first | exact HB.out | apply pbA_ | apply pbN_ | apply pb1_) | exact HB.out)⟩
end Go.Proofs.Ytkcjjennlhgmhaa.P
end
section
namespace Go.Proofs.Ytkcjjennlhgmhaa.P
open Go.RowKit Go.Proofs.YtkcjjennlhgmhaaW.PrintWords Go.Proofs.YtkcjjennlhgmhaaW.PrintLast Go.Proofs.YtkcjjennlhgmhaaW.PrintMore
attribute [local go_sem] max2_int min2_int max_two min_two max_three min_three max_four min_four
set_option linter.unusedVariables false
set_option linter.unusedSimpArgs false
noncomputable def dragnetlaw04_PforBack.f (k : Nat) (l0 : List Int) (l1 : List Int) : Option (Bool) := (dragnetlaw04_alive.f k).bind fun t507 => (if t507 = true then (if (l0.length : Int) > 500 then (some true) else ((pfor_PutList.f k ([] : List Int) l0).bind fun t508 => ((dragnetref01_Copy.f t508).bind fun t511 => (if t511.length + l1.length < 140737488355328 then ((pfor_TakeList.f k (t511 ++ l1) (l0.length : Int)).bind fun bt517 => (if bt517.2.2 = 0 then (if bt517.2.1 = (t508.length : Int) then ((dragnetref03_Same.f k l0 bt517.1).bind fun t522 => (some t522)) else (some false)) else (some false))) else (none))))) else (some false))
theorem dragnetlaw04_PforBack.mono : ∀ a0 a1 k, LeO (dragnetlaw04_PforBack.f k a0 a1) (dragnetlaw04_PforBack.f (k + 1) a0 a1) := by
 intro a0 a1 k
 unfold dragnetlaw04_PforBack.f
 repeat' first
   | (with_reducible exact dragnetlaw04_alive.mono _)
   | (with_reducible exact dragnetref03_Same.mono _ _ _)
   | (with_reducible exact pfor_PutList.mono _ _ _)
   | (with_reducible exact pfor_TakeList.mono _ _ _)
   | (with_reducible exact LeO.refl _)
   | (with_reducible exact LeO.none _)
   | (with_reducible refine LeO.ite ?_ ?_)
   | (with_reducible refine LeO.bind ?_ (fun _ => ?_))
   | exact dragnetlaw04_alive.mono _
   | exact dragnetref03_Same.mono _ _ _
   | exact pfor_PutList.mono _ _ _
   | exact pfor_TakeList.mono _ _ _
   | exact LeO.none _
   | refine LeO.ite ?_ ?_
   | refine LeO.bind ?_ (fun _ => ?_)
set_option maxHeartbeats 8000000 in
set_option maxRecDepth 100000 in
theorem dragnetlaw04_PforBack.calls (k : Nat) (A0 : Option Addr) (c0 : Nat) (l0 : List Int) (A1 : Option Addr) (c1 : Nat) (l1 : List Int) (r : Bool) (w : World) (hr0 : Kd.C (Kd.int .u64) w A0 l0.length l0) (hc0 : l0.length ≤ c0) (hr1 : Kd.C (Kd.int .u8) w A1 l1.length l1) (hc1 : l1.length ≤ c1) (h : dragnetlaw04_PforBack.f k l0 l1 = some r) :
  Calls Try.prog 7 #[.slice A0 l0.length c0, .slice A1 l1.length c1] w fun e w' => e = .returned (.bool r) ∧ Below w.heap.size w w' := by
 have HR0 := Aside0.mk hr0
 have HC0 := Aside0.mk hc0
 clear hr0 hc0
 have HR1 := Aside0.mk hr1
 have HC1 := Aside0.mk hc1
 clear hr1 hc1
 have HB := Aside0.mk (Below.refl w.heap.size w)
 have H : ((dragnetlaw04_alive.f k).bind fun t507 => (if t507 = true then (if (l0.length : Int) > 500 then (some true) else ((pfor_PutList.f k ([] : List Int) l0).bind fun t508 => ((dragnetref01_Copy.f t508).bind fun t511 => (if t511.length + l1.length < 140737488355328 then ((pfor_TakeList.f k (t511 ++ l1) (l0.length : Int)).bind fun bt517 => (if bt517.2.2 = 0 then (if bt517.2.1 = (t508.length : Int) then ((dragnetref03_Same.f k l0 bt517.1).bind fun t522 => (some t522)) else (some false)) else (some false))) else (none))))) else (some false))) = some r := h
 clear h
 replace H := Option.bind_eq_some_iff.mp H
 obtain ⟨t507, A30, H⟩ := H
 replace H : (if t507 = true then (if (l0.length : Int) > 500 then (some true) else ((pfor_PutList.f k ([] : List Int) l0).bind fun t508 => ((dragnetref01_Copy.f t508).bind fun t511 => (if t511.length + l1.length < 140737488355328 then ((pfor_TakeList.f k (t511 ++ l1) (l0.length : Int)).bind fun bt517 => (if bt517.2.2 = 0 then (if bt517.2.1 = (t508.length : Int) then ((dragnetref03_Same.f k l0 bt517.1).bind fun t522 => (some t522)) else (some false)) else (some false))) else (none))))) else (some false)) = some r := H
 have A3 := Aside0.mk A30
 clear A30
 by_cases c4 : t507 = true
 ·subst c4
  have H1 : (if (l0.length : Int) > 500 then (some true) else ((pfor_PutList.f k ([] : List Int) l0).bind fun t508 => ((dragnetref01_Copy.f t508).bind fun t511 => (if t511.length + l1.length < 140737488355328 then ((pfor_TakeList.f k (t511 ++ l1) (l0.length : Int)).bind fun bt517 => (if bt517.2.2 = 0 then (if bt517.2.1 = (t508.length : Int) then ((dragnetref03_Same.f k l0 bt517.1).bind fun t522 => (some t522)) else (some false)) else (some false))) else (none))))) = some r := by rw [if_pos rfl] at H; exact H
  clear H
  have H := H1
  clear H1
  by_cases c5 : (l0.length : Int) > 500
  ·rw [if_pos c5] at H
   have c5b0 : decide (500 < (l0.length : Int)) = true := decide_eq_true c5
   have c5b1 : decide (500 < l0.length) = true := decide_eq_true (by omega)
   clear c5
   obtain rfl := Option.some.inj H
   go_enter Try.func7, Try.ntmps7
   go_wp2_with (first | ((with_reducible refine gaC_ (f := 9) rfl ?_); refine goesL_ (some 9) rfl rfl Try.func9 (by kernel_rfl) rfl #[] rfl (by (try simp only [List.map_toArray, List.map_cons, List.map_nil]); first | done | rfl | (simp only [List.length_drop, List.length_take]; rfl)) ?_; (with_reducible refine (dragnetlaw04_alive.calls k  true _ A3.out).mono ?_); rintro e w6 ⟨rfl, hb⟩; refine ⟨_, rfl, ?_⟩; have n0_ := Aside0.mk (below_step (by repeat (first | (with_reducible first | exact HB.out | apply pbA_ | apply pbN_ | apply pb1_) | exact HB.out)) hb); clear HB; have HB := n0_; clear n0_; (try clear hb); (try clear hb2); (try clear hk); (try clear hi)))
   go_ret
   exact ⟨by first | rfl | (simp [eWn_, eWs_] <;> rfl) | (simp [*, eWn_, eWs_] <;> rfl), by repeat (first | (with_reducible first | exact HB.out | apply pbA_ | apply pbN_ | apply pb1_) | exact HB.out)⟩
  ·rw [if_neg c5] at H
   have c5b0 : decide (500 < (l0.length : Int)) = false := decide_eq_false c5
   have c5b1 : decide (500 < l0.length) = false := decide_eq_false (by omega)
   clear c5
   replace H := Option.bind_eq_some_iff.mp H
   obtain ⟨t508, A70, H⟩ := H
   replace H : ((dragnetref01_Copy.f t508).bind fun t511 => (if t511.length + l1.length < 140737488355328 then ((pfor_TakeList.f k (t511 ++ l1) (l0.length : Int)).bind fun bt517 => (if bt517.2.2 = 0 then (if bt517.2.1 = (t508.length : Int) then ((dragnetref03_Same.f k l0 bt517.1).bind fun t522 => (some t522)) else (some false)) else (some false))) else (none))) = some r := H
   have A7 := Aside0.mk A70
   clear A70
   replace H := Option.bind_eq_some_iff.mp H
   obtain ⟨t511, A80, H⟩ := H
   replace H : (if t511.length + l1.length < 140737488355328 then ((pfor_TakeList.f k (t511 ++ l1) (l0.length : Int)).bind fun bt517 => (if bt517.2.2 = 0 then (if bt517.2.1 = (t508.length : Int) then ((dragnetref03_Same.f k l0 bt517.1).bind fun t522 => (some t522)) else (some false)) else (some false))) else (none)) = some r := H
   have A8 := Aside0.mk A80
   clear A80
   by_cases c9 : t511.length + l1.length < 140737488355328
   ·rw [if_pos c9] at H
    have LMc9 := Aside0.mk c9
    clear c9
    obtain ⟨y514, hy514⟩ : ∃ y_ : List Int, y_ = (t511 ++ l1) := ⟨_, rfl⟩
    replace H : ((pfor_TakeList.f k y514 (l0.length : Int)).bind fun bt517 => (if bt517.2.2 = 0 then (if bt517.2.1 = (t508.length : Int) then ((dragnetref03_Same.f k l0 bt517.1).bind fun t522 => (some t522)) else (some false)) else (some false))) = some r := by first | (rw [hy514]; with_reducible exact H) | (have H2_ := (Option.bind_some _ _).symm.trans H; rw [hy514]; with_reducible exact H2_) | (have H2_ := (Option.bind_some _ _).symm.trans H; with_reducible exact H2_) | with_reducible exact H | (rw [hy514]; exact H) | exact H
    have Ny514 := Aside0.mk hy514
    clear hy514
    replace H := Option.bind_eq_some_iff.mp H
    obtain ⟨⟨t517, t518, t519⟩, A100, H⟩ := H
    replace H : (if t519 = 0 then (if t518 = (t508.length : Int) then ((dragnetref03_Same.f k l0 t517).bind fun t522 => (some t522)) else (some false)) else (some false)) = some r := H
    have A10 := Aside0.mk A100
    clear A100
    by_cases c11 : t519 = 0
    ·rw [if_pos c11] at H
     have c11b0 : (t519 == 0) = true := beq_iff_eq.mpr c11
     have c11b1 : (t519 != 0) = false := bne_eq_false_iff_eq.mpr c11
     clear c11
     by_cases c12 : t518 = (t508.length : Int)
     ·rw [if_pos c12] at H
      have c12b0 : (t518 == (t508.length : Int)) = true := beq_iff_eq.mpr c12
      have c12b1 : (t518 != (t508.length : Int)) = false := bne_eq_false_iff_eq.mpr c12
      clear c12
      replace H := Option.bind_eq_some_iff.mp H
      obtain ⟨t522, A130, H⟩ := H
      replace H : (some t522) = some r := H
      have A13 := Aside0.mk A130
      clear A130
      obtain rfl := Option.some.inj H
      go_enter Try.func7, Try.ntmps7
      go_wp2_with (first | ((with_reducible refine gaC_ (f := 9) rfl ?_); refine goesL_ (some 9) rfl rfl Try.func9 (by kernel_rfl) rfl #[] rfl (by (try simp only [List.map_toArray, List.map_cons, List.map_nil]); first | done | rfl | (simp only [List.length_drop, List.length_take]; rfl)) ?_; (with_reducible refine (dragnetlaw04_alive.calls k  true _ A3.out).mono ?_); rintro e w14 ⟨rfl, hb⟩; refine ⟨_, rfl, ?_⟩; have n0_ := Aside0.mk (below_step (by repeat (first | (with_reducible first | exact HB.out | apply pbA_ | apply pbN_ | apply pb1_) | exact HB.out)) hb); clear HB; have HB := n0_; clear n0_; (try clear hb); (try clear hb2); (try clear hk); (try clear hi)) | ((with_reducible refine gaC_ (f := 19) rfl ?_); refine goesL_ (some 15) rfl rfl Try.func19 (by kernel_rfl) rfl #[.slice none 0 0, .slice A0 l0.length c0] rfl (by (try simp only [List.map_toArray, List.map_cons, List.map_nil]); first | done | rfl | (simp only [List.length_drop, List.length_take]; rfl)) ?_; (refine (pfor_PutList.calls k _ _ ([] : List Int) _ _ l0 t508 _ ?side1 ?side2 ?side3 ?side4 A7.out).mono ?_); (case side1 => exact Kd.C_nil _ _); (case side2 => exact Nat.le_refl _); (case side3 => repeat (first | exact (Kd.C_below HR0.out HB.out) | (with_reducible refine Kd.cA_ ?_ _) | (with_reducible refine Kd.cN_ ?_ _) | (with_reducible refine Kd.cD_ ?_))); (case side4 => exact HC0.out); rintro e w15 ⟨v509, rfl, ho0, hb⟩; refine ⟨_, rfl, ?_⟩; have n0_ := Aside0.mk (Kd.R_lower ho0 (pbS_ (by repeat (first | (with_reducible first | exact HB.out | apply pbA_ | apply pbN_ | apply pb1_) | exact HB.out)))); have n1_ := Aside0.mk (below_step (by repeat (first | (with_reducible first | exact HB.out | apply pbA_ | apply pbN_ | apply pb1_) | exact HB.out)) hb); clear HB; have HO510 := n0_; have HB := n1_; clear n0_ n1_; (try clear hb); (try clear hb2); (try clear hk); (try clear hi); (try clear ho0); obtain ⟨Ao16, co16, eo16⟩ := Kd.R_slice HO510.out; subst eo16) | ((with_reducible refine gaC_ (f := 10) rfl ?_); refine goesL_ (some 18) rfl rfl Try.func10 (by kernel_rfl) rfl #[.slice Ao16 t508.length co16] rfl (by (try simp only [List.map_toArray, List.map_cons, List.map_nil]); first | done | rfl | (simp only [List.length_drop, List.length_take]; rfl)) ?_; (with_reducible refine (dragnetref01_Copy.calls _ _ t508 t511 _ ?side1 ?side2 A8.out).mono ?_); (case side1 => repeat (first | exact (Kd.R_reads' HO510.out).2.2 | (with_reducible refine Kd.cA_ ?_ _) | (with_reducible refine Kd.cN_ ?_ _) | (with_reducible refine Kd.cD_ ?_))); (case side2 => exact (Kd.R_reads' HO510.out).2.1); rintro e w17 ⟨v512, rfl, ho0, hb⟩; refine ⟨_, rfl, ?_⟩; have n0_ := Aside0.mk (Kd.R_elder' (by (with_reducible repeat (first | apply Kd.rA_ | apply Kd.rN_ | apply Kd.rD_)); exact HO510.out) (Kd.R_base ho0) hb); have n1_ := Aside0.mk (Kd.R_lower (Kd.R_new' ho0 (Kd.R_lt (by (with_reducible repeat (first | apply Kd.rA_ | apply Kd.rN_ | apply Kd.rD_)); exact HO510.out))) (pbS_ (by repeat (first | (with_reducible first | exact HB.out | apply pbA_ | apply pbN_ | apply pb1_) | exact HB.out)))); have n2_ := Aside0.mk (below_step (by repeat (first | (with_reducible first | exact HB.out | apply pbA_ | apply pbN_ | apply pb1_) | exact HB.out)) hb); clear HO510; clear HB; have HO510 := n0_; have HO513 := n1_; have HB := n2_; clear n0_ n1_ n2_; (try clear hb); (try clear hb2); (try clear hk); (try clear hi); (try clear ho0)) | ((with_reducible refine gate_builtin (b := .append) (xs := #[.tmp 18, .tmp 19]) rfl ?_); (try (refine gate_guard (by rfl) ?_; dsimp only)); at_builtin; refine Kd.R_append_rows (Kd.int .u8) (w0 := w) w.heap.size rfl (.tmp 18) (.tmp 19) 22 5 (.int .u8 0) 1 rfl Try.underlying22 info5 rfl (by decide) (by omega) v512 t511 l1 _ _ _ (fun k_ => some k_ ≠ (.slice Ao16 t508.length co16 : Value).ownBlock) (fun _ => False) rfl rfl ?aO ?aR (fun _ _ h => h) (fun _ h => h.elim) ?aF ?aB ?aS ?aL ?_; (case aR => repeat (first | exact (Kd.C_below HR1.out HB.out) | (with_reducible refine Kd.cA_ ?_ _) | (with_reducible refine Kd.cN_ ?_ _) | (with_reducible refine Kd.cD_ ?_))); (case aB => exact (by repeat (first | (with_reducible first | exact HB.out | apply pbA_ | apply pbN_ | apply pb1_) | exact HB.out))); (case aF => exact (fun k_ hk => Kd.fresh' (Kd.R_lt (by (with_reducible repeat (first | apply Kd.rA_ | apply Kd.rN_ | apply Kd.rD_)); exact HO510.out)) k_ hk)); (case aO => exact (by (with_reducible repeat (first | apply Kd.rA_ | apply Kd.rN_ | apply Kd.rD_)); exact Kd.R_mono HO513.out (fun _ hk => hk.2))); (case aS => exact (pbS_ (by repeat (first | (with_reducible first | exact HB.out | apply pbA_ | apply pbN_ | apply pb1_) | exact HB.out)))); (case aL => have := LMc9.out; omega); intro v515 w18 ho hb hg hat; rw [← Ny514.out] at ho; have n0_ := Aside0.mk (Kd.R_after (ok := (fun _ => True)) (by (with_reducible repeat (first | apply Kd.rA_ | apply Kd.rN_ | apply Kd.rD_)); exact HO510.out) hg hat); have n1_ := Aside0.mk (hb); have n2_ := Aside0.mk (ho); clear HO510; clear HB; clear HO513; have HO510 := n0_; have HB := n1_; have HO516 := n2_; clear n0_ n1_ n2_; clear ho hb hg hat; obtain ⟨Ao19, co19, eo19⟩ := Kd.R_slice HO516.out; subst eo19) | ((with_reducible refine gaC_ (f := 20) rfl ?_); refine goesL_ (some 23) rfl rfl Try.func20 (by kernel_rfl) rfl #[.slice Ao19 y514.length co19, .int .i64 (l0.length : Int)] rfl (by (try simp only [List.map_toArray, List.map_cons, List.map_nil]); first | done | rfl | (simp only [List.length_drop, List.length_take]; rfl)) ?_; (with_reducible refine (pfor_TakeList.calls k _ _ y514 (l0.length : Int) t517 t518 t519 _ ?side1 ?side2 A10.out).mono ?_); (case side1 => repeat (first | exact (Kd.R_reads' HO516.out).2.2 | (with_reducible refine Kd.cA_ ?_ _) | (with_reducible refine Kd.cN_ ?_ _) | (with_reducible refine Kd.cD_ ?_))); (case side2 => exact (Kd.R_reads' HO516.out).2.1); rintro e w20 ⟨v520, rfl, ho0, hb⟩; refine ⟨_, rfl, ?_⟩; have n0_ := Aside0.mk (Kd.R_below (by (with_reducible repeat (first | apply Kd.rA_ | apply Kd.rN_ | apply Kd.rD_)); exact HO510.out) hb); have n1_ := Aside0.mk (Kd.R_below (by (with_reducible repeat (first | apply Kd.rA_ | apply Kd.rN_ | apply Kd.rD_)); exact HO516.out) hb); have n2_ := Aside0.mk (Kd.R_lower ho0 (pbS_ (by repeat (first | (with_reducible first | exact HB.out | apply pbA_ | apply pbN_ | apply pb1_) | exact HB.out)))); have n3_ := Aside0.mk (below_step (by repeat (first | (with_reducible first | exact HB.out | apply pbA_ | apply pbN_ | apply pb1_) | exact HB.out)) hb); clear HO510; clear HO516; clear HB; have HO510 := n0_; have HO516 := n1_; have HO521 := n2_; have HB := n3_; clear n0_ n1_ n2_ n3_; (try clear hb); (try clear hb2); (try clear hk); (try clear hi); (try clear ho0); obtain ⟨Ao21, co21, eo21⟩ := Kd.R_slice HO521.out; subst eo21) | (go_at_call 14; (with_reducible refine (dragnetref03_Same.calls k _ _ l0 _ _ t517 t522 _ ?side1 ?side2 ?side3 ?side4 A13.out).mono ?_); (case side1 => repeat (first | exact (Kd.C_below HR0.out HB.out) | (with_reducible refine Kd.cA_ ?_ _) | (with_reducible refine Kd.cN_ ?_ _) | (with_reducible refine Kd.cD_ ?_))); (case side2 => exact HC0.out); (case side3 => repeat (first | exact (Kd.R_reads' HO521.out).2.2 | (with_reducible refine Kd.cA_ ?_ _) | (with_reducible refine Kd.cN_ ?_ _) | (with_reducible refine Kd.cD_ ?_))); (case side4 => exact (Kd.R_reads' HO521.out).2.1); rintro e w' ⟨rfl, ⟨nd, rfl⟩⟩))
      go_ret
      exact ⟨by first | rfl | (simp [eWn_, eWs_] <;> rfl) | (simp [*, eWn_, eWs_] <;> rfl), by repeat (first | (with_reducible first | exact HB.out | apply pbA_ | apply pbN_ | apply pb1_) | exact HB.out)⟩
     ·rw [if_neg c12] at H
      have c12b0 : (t518 == (t508.length : Int)) = false := beq_eq_false_iff_ne.mpr c12
      have c12b1 : (t518 != (t508.length : Int)) = true := bne_iff_ne.mpr c12
      obtain rfl := Option.some.inj H
      go_enter Try.func7, Try.ntmps7
      go_wp2_with (first | ((with_reducible refine gaC_ (f := 9) rfl ?_); refine goesL_ (some 9) rfl rfl Try.func9 (by kernel_rfl) rfl #[] rfl (by (try simp only [List.map_toArray, List.map_cons, List.map_nil]); first | done | rfl | (simp only [List.length_drop, List.length_take]; rfl)) ?_; (with_reducible refine (dragnetlaw04_alive.calls k  true _ A3.out).mono ?_); rintro e w22 ⟨rfl, hb⟩; refine ⟨_, rfl, ?_⟩; have n0_ := Aside0.mk (below_step (by repeat (first | (with_reducible first | exact HB.out | apply pbA_ | apply pbN_ | apply pb1_) | exact HB.out)) hb); clear HB; have HB := n0_; clear n0_; (try clear hb); (try clear hb2); (try clear hk); (try clear hi)) | ((with_reducible refine gaC_ (f := 19) rfl ?_); refine goesL_ (some 15) rfl rfl Try.func19 (by kernel_rfl) rfl #[.slice none 0 0, .slice A0 l0.length c0] rfl (by (try simp only [List.map_toArray, List.map_cons, List.map_nil]); first | done | rfl | (simp only [List.length_drop, List.length_take]; rfl)) ?_; (refine (pfor_PutList.calls k _ _ ([] : List Int) _ _ l0 t508 _ ?side1 ?side2 ?side3 ?side4 A7.out).mono ?_); (case side1 => exact Kd.C_nil _ _); (case side2 => exact Nat.le_refl _); (case side3 => repeat (first | exact (Kd.C_below HR0.out HB.out) | (with_reducible refine Kd.cA_ ?_ _) | (with_reducible refine Kd.cN_ ?_ _) | (with_reducible refine Kd.cD_ ?_))); (case side4 => exact HC0.out); rintro e w23 ⟨v509, rfl, ho0, hb⟩; refine ⟨_, rfl, ?_⟩; have n0_ := Aside0.mk (Kd.R_lower ho0 (pbS_ (by repeat (first | (with_reducible first | exact HB.out | apply pbA_ | apply pbN_ | apply pb1_) | exact HB.out)))); have n1_ := Aside0.mk (below_step (by repeat (first | (with_reducible first | exact HB.out | apply pbA_ | apply pbN_ | apply pb1_) | exact HB.out)) hb); clear HB; have HO510 := n0_; have HB := n1_; clear n0_ n1_; (try clear hb); (try clear hb2); (try clear hk); (try clear hi); (try clear ho0); obtain ⟨Ao24, co24, eo24⟩ := Kd.R_slice HO510.out; subst eo24) | ((with_reducible refine gaC_ (f := 10) rfl ?_); refine goesL_ (some 18) rfl rfl Try.func10 (by kernel_rfl) rfl #[.slice Ao24 t508.length co24] rfl (by (try simp only [List.map_toArray, List.map_cons, List.map_nil]); first | done | rfl | (simp only [List.length_drop, List.length_take]; rfl)) ?_; (with_reducible refine (dragnetref01_Copy.calls _ _ t508 t511 _ ?side1 ?side2 A8.out).mono ?_); (case side1 => repeat (first | exact (Kd.R_reads' HO510.out).2.2 | (with_reducible refine Kd.cA_ ?_ _) | (with_reducible refine Kd.cN_ ?_ _) | (with_reducible refine Kd.cD_ ?_))); (case side2 => exact (Kd.R_reads' HO510.out).2.1); rintro e w25 ⟨v512, rfl, ho0, hb⟩; refine ⟨_, rfl, ?_⟩; have n0_ := Aside0.mk (Kd.R_elder' (by (with_reducible repeat (first | apply Kd.rA_ | apply Kd.rN_ | apply Kd.rD_)); exact HO510.out) (Kd.R_base ho0) hb); have n1_ := Aside0.mk (Kd.R_lower (Kd.R_new' ho0 (Kd.R_lt (by (with_reducible repeat (first | apply Kd.rA_ | apply Kd.rN_ | apply Kd.rD_)); exact HO510.out))) (pbS_ (by repeat (first | (with_reducible first | exact HB.out | apply pbA_ | apply pbN_ | apply pb1_) | exact HB.out)))); have n2_ := Aside0.mk (below_step (by repeat (first | (with_reducible first | exact HB.out | apply pbA_ | apply pbN_ | apply pb1_) | exact HB.out)) hb); clear HO510; clear HB; have HO510 := n0_; have HO513 := n1_; have HB := n2_; clear n0_ n1_ n2_; (try clear hb); (try clear hb2); (try clear hk); (try clear hi); (try clear ho0)) | ((with_reducible refine gate_builtin (b := .append) (xs := #[.tmp 18, .tmp 19]) rfl ?_); (try (refine gate_guard (by rfl) ?_; dsimp only)); at_builtin; refine Kd.R_append_rows (Kd.int .u8) (w0 := w) w.heap.size rfl (.tmp 18) (.tmp 19) 22 5 (.int .u8 0) 1 rfl Try.underlying22 info5 rfl (by decide) (by omega) v512 t511 l1 _ _ _ (fun k_ => some k_ ≠ (.slice Ao24 t508.length co24 : Value).ownBlock) (fun _ => False) rfl rfl ?aO ?aR (fun _ _ h => h) (fun _ h => h.elim) ?aF ?aB ?aS ?aL ?_; (case aR => repeat (first | exact (Kd.C_below HR1.out HB.out) | (with_reducible refine Kd.cA_ ?_ _) | (with_reducible refine Kd.cN_ ?_ _) | (with_reducible refine Kd.cD_ ?_))); (case aB => exact (by repeat (first | (with_reducible first | exact HB.out | apply pbA_ | apply pbN_ | apply pb1_) | exact HB.out))); (case aF => exact (fun k_ hk => Kd.fresh' (Kd.R_lt (by (with_reducible repeat (first | apply Kd.rA_ | apply Kd.rN_ | apply Kd.rD_)); exact HO510.out)) k_ hk)); (case aO => exact (by (with_reducible repeat (first | apply Kd.rA_ | apply Kd.rN_ | apply Kd.rD_)); exact Kd.R_mono HO513.out (fun _ hk => hk.2))); (case aS => exact (pbS_ (by repeat (first | (with_reducible first | exact HB.out | apply pbA_ | apply pbN_ | apply pb1_) | exact HB.out)))); (case aL => have := LMc9.out; omega); intro v515 w26 ho hb hg hat; rw [← Ny514.out] at ho; have n0_ := Aside0.mk (Kd.R_after (ok := (fun _ => True)) (by (with_reducible repeat (first | apply Kd.rA_ | apply Kd.rN_ | apply Kd.rD_)); exact HO510.out) hg hat); have n1_ := Aside0.mk (hb); have n2_ := Aside0.mk (ho); clear HO510; clear HB; clear HO513; have HO510 := n0_; have HB := n1_; have HO516 := n2_; clear n0_ n1_ n2_; clear ho hb hg hat; obtain ⟨Ao27, co27, eo27⟩ := Kd.R_slice HO516.out; subst eo27) | ((with_reducible refine gaC_ (f := 20) rfl ?_); refine goesL_ (some 23) rfl rfl Try.func20 (by kernel_rfl) rfl #[.slice Ao27 y514.length co27, .int .i64 (l0.length : Int)] rfl (by (try simp only [List.map_toArray, List.map_cons, List.map_nil]); first | done | rfl | (simp only [List.length_drop, List.length_take]; rfl)) ?_; (with_reducible refine (pfor_TakeList.calls k _ _ y514 (l0.length : Int) t517 t518 t519 _ ?side1 ?side2 A10.out).mono ?_); (case side1 => repeat (first | exact (Kd.R_reads' HO516.out).2.2 | (with_reducible refine Kd.cA_ ?_ _) | (with_reducible refine Kd.cN_ ?_ _) | (with_reducible refine Kd.cD_ ?_))); (case side2 => exact (Kd.R_reads' HO516.out).2.1); rintro e w28 ⟨v520, rfl, ho0, hb⟩; refine ⟨_, rfl, ?_⟩; have n0_ := Aside0.mk (Kd.R_below (by (with_reducible repeat (first | apply Kd.rA_ | apply Kd.rN_ | apply Kd.rD_)); exact HO510.out) hb); have n1_ := Aside0.mk (Kd.R_below (by (with_reducible repeat (first | apply Kd.rA_ | apply Kd.rN_ | apply Kd.rD_)); exact HO516.out) hb); have n2_ := Aside0.mk (Kd.R_lower ho0 (pbS_ (by repeat (first | (with_reducible first | exact HB.out | apply pbA_ | apply pbN_ | apply pb1_) | exact HB.out)))); have n3_ := Aside0.mk (below_step (by repeat (first | (with_reducible first | exact HB.out | apply pbA_ | apply pbN_ | apply pb1_) | exact HB.out)) hb); clear HO510; clear HO516; clear HB; have HO510 := n0_; have HO516 := n1_; have HO521 := n2_; have HB := n3_; clear n0_ n1_ n2_ n3_; (try clear hb); (try clear hb2); (try clear hk); (try clear hi); (try clear ho0)))
      go_ret
      exact ⟨by first | rfl | (simp [eWn_, eWs_] <;> rfl) | (simp [*, eWn_, eWs_] <;> rfl), by repeat (first | (with_reducible first | exact HB.out | apply pbA_ | apply pbN_ | apply pb1_) | exact HB.out)⟩
    ·rw [if_neg c11] at H
     have c11b0 : (t519 == 0) = false := beq_eq_false_iff_ne.mpr c11
     have c11b1 : (t519 != 0) = true := bne_iff_ne.mpr c11
     obtain rfl := Option.some.inj H
     go_enter Try.func7, Try.ntmps7
     go_wp2_with (first | ((with_reducible refine gaC_ (f := 9) rfl ?_); refine goesL_ (some 9) rfl rfl Try.func9 (by kernel_rfl) rfl #[] rfl (by (try simp only [List.map_toArray, List.map_cons, List.map_nil]); first | done | rfl | (simp only [List.length_drop, List.length_take]; rfl)) ?_; (with_reducible refine (dragnetlaw04_alive.calls k  true _ A3.out).mono ?_); rintro e w29 ⟨rfl, hb⟩; refine ⟨_, rfl, ?_⟩; have n0_ := Aside0.mk (below_step (by repeat (first | (with_reducible first | exact HB.out | apply pbA_ | apply pbN_ | apply pb1_) | exact HB.out)) hb); clear HB; have HB := n0_; clear n0_; (try clear hb); (try clear hb2); (try clear hk); (try clear hi)) | ((with_reducible refine gaC_ (f := 19) rfl ?_); refine goesL_ (some 15) rfl rfl Try.func19 (by kernel_rfl) rfl #[.slice none 0 0, .slice A0 l0.length c0] rfl (by (try simp only [List.map_toArray, List.map_cons, List.map_nil]); first | done | rfl | (simp only [List.length_drop, List.length_take]; rfl)) ?_; (refine (pfor_PutList.calls k _ _ ([] : List Int) _ _ l0 t508 _ ?side1 ?side2 ?side3 ?side4 A7.out).mono ?_); (case side1 => exact Kd.C_nil _ _); (case side2 => exact Nat.le_refl _); (case side3 => repeat (first | exact (Kd.C_below HR0.out HB.out) | (with_reducible refine Kd.cA_ ?_ _) | (with_reducible refine Kd.cN_ ?_ _) | (with_reducible refine Kd.cD_ ?_))); (case side4 => exact HC0.out); rintro e w30 ⟨v509, rfl, ho0, hb⟩; refine ⟨_, rfl, ?_⟩; have n0_ := Aside0.mk (Kd.R_lower ho0 (pbS_ (by repeat (first | (with_reducible first | exact HB.out | apply pbA_ | apply pbN_ | apply pb1_) | exact HB.out)))); have n1_ := Aside0.mk (below_step (by repeat (first | (with_reducible first | exact HB.out | apply pbA_ | apply pbN_ | apply pb1_) | exact HB.out)) hb); clear HB; have HO510 := n0_; have HB := n1_; clear n0_ n1_; (try clear hb); (try clear hb2); (try clear hk); (try clear hi); (try clear ho0); obtain ⟨Ao31, co31, eo31⟩ := Kd.R_slice HO510.out; subst eo31) | ((with_reducible refine gaC_ (f := 10) rfl ?_); refine goesL_ (some 18) rfl rfl Try.func10 (by kernel_rfl) rfl #[.slice Ao31 t508.length co31] rfl (by (try simp only [List.map_toArray, List.map_cons, List.map_nil]); first | done | rfl | (simp only [List.length_drop, List.length_take]; rfl)) ?_; (with_reducible refine (dragnetref01_Copy.calls _ _ t508 t511 _ ?side1 ?side2 A8.out).mono ?_); (case side1 => repeat (first | exact (Kd.R_reads' HO510.out).2.2 | (with_reducible refine Kd.cA_ ?_ _) | (with_reducible refine Kd.cN_ ?_ _) | (with_reducible refine Kd.cD_ ?_))); (case side2 => exact (Kd.R_reads' HO510.out).2.1); rintro e w32 ⟨v512, rfl, ho0, hb⟩; refine ⟨_, rfl, ?_⟩; have n0_ := Aside0.mk (Kd.R_elder' (by (with_reducible repeat (first | apply Kd.rA_ | apply Kd.rN_ | apply Kd.rD_)); exact HO510.out) (Kd.R_base ho0) hb); have n1_ := Aside0.mk (Kd.R_lower (Kd.R_new' ho0 (Kd.R_lt (by (with_reducible repeat (first | apply Kd.rA_ | apply Kd.rN_ | apply Kd.rD_)); exact HO510.out))) (pbS_ (by repeat (first | (with_reducible first | exact HB.out | apply pbA_ | apply pbN_ | apply pb1_) | exact HB.out)))); have n2_ := Aside0.mk (below_step (by repeat (first | (with_reducible first | exact HB.out | apply pbA_ | apply pbN_ | apply pb1_) | exact HB.out)) hb); clear HO510; clear HB; have HO510 := n0_; have HO513 := n1_; have HB := n2_; clear n0_ n1_ n2_; (try clear hb); (try clear hb2); (try clear hk); (try clear hi); (try clear ho0)) | ((with_reducible refine gate_builtin (b := .append) (xs := #[.tmp 18, .tmp 19]) rfl ?_); (try (refine gate_guard (by rfl) ?_; dsimp only)); at_builtin; refine Kd.R_append_rows (Kd.int .u8) (w0 := w) w.heap.size rfl (.tmp 18) (.tmp 19) 22 5 (.int .u8 0) 1 rfl Try.underlying22 info5 rfl (by decide) (by omega) v512 t511 l1 _ _ _ (fun k_ => some k_ ≠ (.slice Ao31 t508.length co31 : Value).ownBlock) (fun _ => False) rfl rfl ?aO ?aR (fun _ _ h => h) (fun _ h => h.elim) ?aF ?aB ?aS ?aL ?_; (case aR => repeat (first | exact (Kd.C_below HR1.out HB.out) | (with_reducible refine Kd.cA_ ?_ _) | (with_reducible refine Kd.cN_ ?_ _) | (with_reducible refine Kd.cD_ ?_))); (case aB => exact (by repeat (first | (with_reducible first | exact HB.out | apply pbA_ | apply pbN_ | apply pb1_) | exact HB.out))); (case aF => exact (fun k_ hk => Kd.fresh' (Kd.R_lt (by (with_reducible repeat (first | apply Kd.rA_ | apply Kd.rN_ | apply Kd.rD_)); exact HO510.out)) k_ hk)); (case aO => exact (by (with_reducible repeat (first | apply Kd.rA_ | apply Kd.rN_ | apply Kd.rD_)); exact Kd.R_mono HO513.out (fun _ hk => hk.2))); (case aS => exact (pbS_ (by repeat (first | (with_reducible first | exact HB.out | apply pbA_ | apply pbN_ | apply pb1_) | exact HB.out)))); (case aL => have := LMc9.out; omega); intro v515 w33 ho hb hg hat; rw [← Ny514.out] at ho; have n0_ := Aside0.mk (Kd.R_after (ok := (fun _ => True)) (by (with_reducible repeat (first | apply Kd.rA_ | apply Kd.rN_ | apply Kd.rD_)); exact HO510.out) hg hat); have n1_ := Aside0.mk (hb); have n2_ := Aside0.mk (ho); clear HO510; clear HB; clear HO513; have HO510 := n0_; have HB := n1_; have HO516 := n2_; clear n0_ n1_ n2_; clear ho hb hg hat; obtain ⟨Ao34, co34, eo34⟩ := Kd.R_slice HO516.out; subst eo34) | ((with_reducible refine gaC_ (f := 20) rfl ?_); refine goesL_ (some 23) rfl rfl Try.func20 (by kernel_rfl) rfl #[.slice Ao34 y514.length co34, .int .i64 (l0.length : Int)] rfl (by (try simp only [List.map_toArray, List.map_cons, List.map_nil]); first | done | rfl | (simp only [List.length_drop, List.length_take]; rfl)) ?_; (with_reducible refine (pfor_TakeList.calls k _ _ y514 (l0.length : Int) t517 t518 t519 _ ?side1 ?side2 A10.out).mono ?_); (case side1 => repeat (first | exact (Kd.R_reads' HO516.out).2.2 | (with_reducible refine Kd.cA_ ?_ _) | (with_reducible refine Kd.cN_ ?_ _) | (with_reducible refine Kd.cD_ ?_))); (case side2 => exact (Kd.R_reads' HO516.out).2.1); rintro e w35 ⟨v520, rfl, ho0, hb⟩; refine ⟨_, rfl, ?_⟩; have n0_ := Aside0.mk (Kd.R_below (by (with_reducible repeat (first | apply Kd.rA_ | apply Kd.rN_ | apply Kd.rD_)); exact HO510.out) hb); have n1_ := Aside0.mk (Kd.R_below (by (with_reducible repeat (first | apply Kd.rA_ | apply Kd.rN_ | apply Kd.rD_)); exact HO516.out) hb); have n2_ := Aside0.mk (Kd.R_lower ho0 (pbS_ (by repeat (first | (with_reducible first | exact HB.out | apply pbA_ | apply pbN_ | apply pb1_) | exact HB.out)))); have n3_ := Aside0.mk (below_step (by repeat (first | (with_reducible first | exact HB.out | apply pbA_ | apply pbN_ | apply pb1_) | exact HB.out)) hb); clear HO510; clear HO516; clear HB; have HO510 := n0_; have HO516 := n1_; have HO521 := n2_; have HB := n3_; clear n0_ n1_ n2_ n3_; (try clear hb); (try clear hb2); (try clear hk); (try clear hi); (try clear ho0)))
     go_ret
     exact ⟨by first | rfl | (simp [eWn_, eWs_] <;> rfl) | (simp [*, eWn_, eWs_] <;> rfl), by repeat (first | (with_reducible first | exact HB.out | apply pbA_ | apply pbN_ | apply pb1_) | exact HB.out)⟩
   ·rw [if_neg c9] at H
    exact absurd H (by simp)
 ·replace c4 := Bool.eq_false_iff.mpr c4
  subst c4
  have H1 : (some false) = some r := by rw [if_neg (show ¬ (false = true) by decide)] at H; exact H
  clear H
  have H := H1
  clear H1
  obtain rfl := Option.some.inj H
  go_enter Try.func7, Try.ntmps7
  go_wp2_with (first | ((with_reducible refine gaC_ (f := 9) rfl ?_); refine goesL_ (some 9) rfl rfl Try.func9 (by kernel_rfl) rfl #[] rfl (by (try simp only [List.map_toArray, List.map_cons, List.map_nil]); first | done | rfl | (simp only [List.length_drop, List.length_take]; rfl)) ?_; (with_reducible refine (dragnetlaw04_alive.calls k  false _ A3.out).mono ?_); rintro e w36 ⟨rfl, hb⟩; refine ⟨_, rfl, ?_⟩; have n0_ := Aside0.mk (below_step (by repeat (first | (with_reducible first | exact HB.out | apply pbA_ | apply pbN_ | apply pb1_) | exact HB.out)) hb); clear HB; have HB := n0_; clear n0_; (try clear hb); (try clear hb2); (try clear hk); (try clear hi)))
  go_ret
  exact ⟨by first | rfl | (simp [eWn_, eWs_] <;> rfl) | (simp [*, eWn_, eWs_] <;> rfl), by repeat (first | (with_reducible first | exact HB.out | apply pbA_ | apply pbN_ | apply pb1_) | exact HB.out)⟩
def dragnetlaw04_PforBack.Pure : Prop := ∀ (l0 : List Int) (l1 : List Int), l0.length ≤ maxLen → l0.length * 8 ≤ 140737488351232 → (∀ x ∈ l0, (Lit.int .u64 x).wf = true) → l1.length ≤ maxLen → l1.length * 1 ≤ 140737488351232 → (∀ x ∈ l1, (Lit.int .u8 x).wf = true) → ∃ k, dragnetlaw04_PforBack.f k l0 l1 = some true
theorem dragnetlaw04_PforBack.walk (P : dragnetlaw04_PforBack.Pure) (a0 : Option Addr) (len0 cap0 : Nat) (z0 : List Int) (a1 : Option Addr) (len1 cap1 : Nat) (z1 : List Int) (w : World) (w0 : (a0 = none ∧ len0 = 0 ∧ cap0 = 0 ∧ z0 = []) ∨ ∃ x, a0 = some x ∧ len0 ≤ cap0 ∧ cap0 ≤ maxLen ∧ z0.length = cap0 ∧ (∀ i, i < z0.length → w.cell? (x.add i) = some (.int .u64 (z0.getD i 0))) ∧ ∀ n ∈ z0, (Lit.int .u64 n).wf = true) (y0 : len0 * 8 ≤ 140737488351232) (w1 : (a1 = none ∧ len1 = 0 ∧ cap1 = 0 ∧ z1 = []) ∨ ∃ x, a1 = some x ∧ len1 ≤ cap1 ∧ cap1 ≤ maxLen ∧ z1.length = cap1 ∧ (∀ i, i < z1.length → w.cell? (x.add i) = some (.int .u8 (z1.getD i 0))) ∧ ∀ n ∈ z1, (Lit.int .u8 n).wf = true) (y1 : len1 * 1 ≤ 140737488351232) :
  Calls Try.prog 7 #[.slice a0 len0 cap0, .slice a1 len1 cap1] w fun e w' => e = .returned (.bool true) ∧ Below w.heap.size w w' := by
 obtain ⟨l0, rfl, hr0, hm0, hw0, hc0⟩ := ReadsInt.ofRowC w0
 obtain ⟨l1, rfl, hr1, hm1, hw1, hc1⟩ := ReadsInt.ofRowC w1
 obtain ⟨k, h⟩ := P l0 l1 hm0 y0 hw0 hm1 y1 hw1
 refine (dragnetlaw04_PforBack.calls k _ _ l0 _ _ l1 true w (Kd.C_of_reads (d := (0 : Int)) (h1 := fun _ => rfl) hr0) hc0 (Kd.C_of_reads (d := (0 : Int)) (h1 := fun _ => rfl) hr1) hc1 h).mono ?_
 rintro e w' ⟨rfl, hd⟩
 exact ⟨rfl, hd⟩
end Go.Proofs.Ytkcjjennlhgmhaa.P
end
