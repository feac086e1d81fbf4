/- Words and proofs that IntsHold leans on; put together by wip/tools/shake.py. -/
import Derived.Test.YtcjkmmajokkkfaaZIntsHold12
import Derived.Test.YtcjkmmajokkkfaaZIntsHold13
import Derived.ArgAppend
import Derived.Below
import Derived.BigQuiet
import Derived.Deep.AppendLies
import Derived.Deep.CutBlock
import Derived.Deep.DeepCutAuto
import Derived.Deep.Draws
import Derived.Deep.LoopGhost
import Derived.Deep.OwnRows
import Derived.Deep.QuietTactic
import Derived.Deep.RegionHeld3
import Derived.KernelRfl
import Derived.Laws.BitsLemmas
import Derived.Laws.BytesArg
import Derived.Laws.Cover1
import Derived.Laws.IdiomCopy
import Derived.Laws.MakeOwn
import Derived.Laws.OwnMore
import Derived.Laws.Rows
import Derived.Laws.Slices
import Derived.Laws.StructEq
import Derived.Lib.AppendStr
import Derived.Lib.BitFns
import Derived.Lib.ConvBytes
import Derived.Lib.Slices
import Derived.Lib.Small
import Derived.Lib.Strings
import Derived.Lib.Walk
import Derived.LoopIn
import Derived.LoopNIn
import Derived.Maps.AppendAt
import Derived.OrdersHeld
import Derived.OwnWalk
import Derived.OwnWalkIn
import Derived.RangeFuncBound
import Derived.RangeFuncBox
import Derived.RangeFuncCalls
import Derived.RangeFuncFrom
import Derived.RangeFuncLeaves
import Derived.RangeFuncNested
import Derived.RowKit
import Derived.RowKit3
import Derived.ScopeJumps
import Derived.Shelf.Abstract
import Derived.Sort.QuietIn
import Derived.Tactics
import Derived.TacticsInMore
import Derived.Test.YtcjkmmajokkkfaaChecked
import Derived.Test.YtcjkmmajokkkfaaProg
import Derived.WalkKit
import Derived.WalkMore
import Derived.WalkSpells
import Derived.WideLaws
section
namespace Go.Proofs.Ytcjkmmajokkkfaa.P
open Go.RowKit Go.Proofs.YtcjkmmajokkkfaaW.PrintWords Go.Proofs.YtcjkmmajokkkfaaW.PrintLast Go.Proofs.YtcjkmmajokkkfaaW.PrintMore
attribute [local go_sem] max2_int min2_int max_two min_two max_three min_three max_four min_four
set_option linter.unusedVariables false
set_option linter.unusedSimpArgs false
section
attribute [local go_sem] Oper.semAt_some
set_option maxHeartbeats 1000000 in
theorem zchunk_in (n : Nat) (A : Option Addr) (len cap : Nat) (w : World) :
  CallsIn Fence.wide n Try.prog 34 #[.slice A len cap, .int .i64 16] w fun e w' => e = .returned (.func (.func 55) #[] #[.pointer (some ⟨w.heap.size, 0, none⟩), .pointer (some ⟨w.heap.size + 1, 0, none⟩)]) ∧ w' = (w.alloc (.cells #[.slice A len cap] 23)).alloc (.cells #[.int .i64 16] 3) := by
 refine callsIn_of_wp Try.func34 rfl trivial ?_ rfl
 simp only [Try.ntmps34, List.size_toArray, List.length_cons, List.length_nil, Nat.reduceAdd, Nat.reduceSub, Array.replicate_succ, Array.replicate_zero, List.push_toArray, List.append_toArray, List.nil_append, List.cons_append]
 gi_wp2
 go_ret
 exact ⟨rfl, rfl⟩
abbrev ZChunkNo (len : Nat) := { j : Nat // 16 * j < len }
theorem zchunk_cut (a : Addr) (len cap s m : Nat) (hm : 0 < m) (hj : s + m ≤ len) (hc : len ≤ cap) (W : World) :
  (Instr.slice 23 (.slice (some a) len cap) (some (.int .i64 (s : Int))) (some (.int .i64 ((s : Int) + (m : Int)))) (some (.int .i64 ((s : Int) + (m : Int))))).run Try.prog W = .ok (.slice (some (a.add (s * 2))) m m) W := by
 obtain ⟨i0, hi0, _, hsz, _⟩ := info_parts info42
 have hel : Try.prog.elem 23 = 42 := by simp [Program.elem, Try.underlying23]
 have hu : Try.prog.underlying 23 = some (.slice (Try.prog.elem 23)) := by rw [hel]; exact Try.underlying23
 rw [run_slice_lhm W 23 (some a) len cap hu .i64 .i64 .i64 _ _ _ (by omega) (by omega) (by omega) (by omega), hel, ← Int.natCast_add, Int.toNat_natCast, Int.toNat_natCast]
 simp [sizeOf, typeInfo, hi0, hsz, sliced, Result.andThen]
 omega
theorem zchunk_tail (a : Addr) (len cap s : Nat) (hj : s < len) (hc : len ≤ cap) (W : World) :
  (Instr.slice 23 (.slice (some a) len cap) (some (.int .i64 (s : Int))) none none).run Try.prog W = .ok (.slice (some (a.add (s * 2))) (len - s) (cap - s)) W := by
 obtain ⟨i0, hi0, _, hsz, _⟩ := info_parts info42
 have hel : Try.prog.elem 23 = 42 := by simp [Program.elem, Try.underlying23]
 have hu : Try.prog.underlying 23 = some (.slice (Try.prog.elem 23)) := by rw [hel]; exact Try.underlying23
 rw [run_slice_l W 23 (some a) len cap hu .i64 _ (by omega) (by omega), hel, Int.toNat_natCast]
 simp [sizeOf, typeInfo, hi0, hsz, sliced, Result.andThen]
 omega
theorem zgrown_drewN (W : World) (n : Nat) : W.grownBy (W.drewN n) none := ⟨rfl, rfl, rfl, Nat.le_refl _, fun k _ _ => rfl⟩
def ZKpC (n₀ Bs Bn : Nat) (W W' : World) : Prop := Below n₀ W W' ∧ W'.heap[Bs]? = W.heap[Bs]? ∧ W'.heap[Bn]? = W.heap[Bn]?
theorem ZKpC.trans {n₀ Bs Bn : Nat} {A B C : World} (h : ZKpC n₀ Bs Bn A B) (k : ZKpC n₀ Bs Bn B C) : ZKpC n₀ Bs Bn A C := ⟨h.1.trans k.1, k.2.1.trans h.2.1, k.2.2.trans h.2.2⟩
theorem ZKpC.refl (n₀ Bs Bn : Nat) (W : World) : ZKpC n₀ Bs Bn W W := ⟨Below.refl _ _, rfl, rfl⟩
theorem ZKpC.drewN {n₀ Bs Bn : Nat} {A B : World} (h : ZKpC n₀ Bs Bn A B) (n : Nat) : ZKpC n₀ Bs Bn A (B.drewN n) := ⟨pbN_ h.1 n, h.2.1, h.2.2⟩
theorem ZKpC.cell1 {n₀ Bs Bn : Nat} {A B : World} (h : ZKpC n₀ Bs Bn A B) {v : Value} (hc : A.cell? ⟨Bs, 0, none⟩ = some v) : B.cell? ⟨Bs, 0, none⟩ = some v := by
 unfold World.cell? at hc ⊢
 simp only [h.2.1]
 exact hc
theorem ZKpC.cell2 {n₀ Bs Bn : Nat} {A B : World} (h : ZKpC n₀ Bs Bn A B) {v : Value} (hc : A.cell? ⟨Bn, 0, none⟩ = some v) : B.cell? ⟨Bn, 0, none⟩ = some v := by
 unfold World.cell? at hc ⊢
 simp only [h.2.2]
 exact hc
theorem zkpC_b {n₀ Bs Bn : Nat} {w : World} (hn : n₀ ≤ w.heap.size) (h1 : Bs < w.heap.size) (h2 : Bn < w.heap.size) (W : World) (l : Nat) (o o' : Obj) (hl : w.heap.size ≤ l) (h : W.heap[l]? = some o) (hc : o.isCells = false) (hw : o.isWalk = false) : ZKpC n₀ Bs Bn W (W.putObj l o') :=
 ⟨belowK_b hn W l o o' hl h hc hw, World.putObj_heap_other (by omega), World.putObj_heap_other (by omega)⟩
def zencChunk (a : Option Addr) (len : Nat) (x : ZChunkNo len) : Array Value := #[.slice (a.map (·.add (16 * x.1 * 2))) (min 16 (len - 16 * x.1)) (min 16 (len - 16 * x.1))]
set_option maxRecDepth 100000 in
set_option maxHeartbeats 2000000 in
theorem zchunk1_in (l Bs Bn n₀ : Nat) (a : Addr) (len cap : Nat) (hc : len ≤ cap) (hreach : len ≤ 140737488351216) (J Jx : List (ZChunkNo len) → World → Prop)
  (hY : ∀ pre x W, J pre W → pre.length < len → YieldAt Fence.wide 7 Try.prog l (zencChunk (some a) len x) W fun e W' =>
   (e = .returned (.bool true) ∧ J (pre ++ [x]) W' ∧ ZKpC n₀ Bs Bn W W') ∨ (e = .returned (.bool false) ∧ Jx (pre ++ [x]) W'))
  (B : Nat) (hA : AbidesFrom B J) (W : World) (hBs : W.cell? ⟨Bs, 0, none⟩ = some (.slice (some a) len cap)) (hBn : W.cell? ⟨Bn, 0, none⟩ = some (.int .i64 16)) (h0 : J [] W) :
  CallsIn Fence.wide 8 Try.prog 55 #[.func (.yield l) #[] #[], .pointer (some ⟨Bs, 0, none⟩), .pointer (some ⟨Bn, 0, none⟩)] W fun e W' => (∃ v, e = .returned v) ∧
   ((∃ ys : List (ZChunkNo len), ys.map (·.1) = List.range ((len + 15) / 16) ∧ J ys W') ∨ (∃ pre, True ∧ Jx pre W')) := by
 refine callsIn_of_wp Try.func55 rfl trivial ?_ rfl
 simp only [Try.ntmps55, List.size_toArray, List.length_cons, List.length_nil, Nat.reduceAdd, Nat.reduceSub, Array.replicate_succ, Array.replicate_zero, List.push_toArray, List.append_toArray, List.nil_append, List.cons_append]
 gi_wp2
 gi_loopw [4] (fun i wr => ∃ (k s : Nat) (pre : List (ZChunkNo len)), Aside0 (s = 16 * k) ∧ k ≤ (len + 15) / 16 ∧ i = .int .i64 (s : Int) ∧ pre.map (·.1) = List.range k ∧ J pre wr ∧ ZKpC n₀ Bs Bn W wr)
  (fun i _ => len + 16 - (intOf i).toNat)
 case atStart => exact ⟨0, 0, [], ⟨rfl⟩, Nat.zero_le _, rfl, rfl, h0, ZKpC.refl _ _ _ _⟩
 case round =>
  obtain ⟨k, s, pre, hs, hk, rfl, hpre, hJs, hnx⟩ := hrel
  have hcs : wr.cell? ⟨Bs, 0, none⟩ = some (.slice (some a) len cap) := hnx.cell1 hBs
  have hcn : wr.cell? ⟨Bn, 0, none⟩ = some (.int .i64 16) := hnx.cell2 hBn
  by_cases hlt : s < len
  ·have hlt' : 16 * k < len := by have := hs.out; omega
   obtain ⟨m, hm⟩ : ∃ m : Nat, Aside0 (m = min 16 (len - s)) := ⟨_, ⟨rfl⟩⟩
   have hpl : Aside0 (pre.length = k) := ⟨by have := congrArg List.length hpre; simpa using this⟩
   have hPre := Aside0.mk hpre
   clear hpre
   have hcut := zchunk_cut a len cap s m (by have := hm.out; omega) (by have := hm.out; omega) hc
   obtain ⟨q, hq⟩ : ∃ q : Nat, Aside0 (q = len - s) := ⟨_, ⟨rfl⟩⟩
   have htail := zchunk_tail a len cap s hlt hc
   rw [← hq.out] at htail
   have hm0 : 0 < m := by have := hm.out; omega
   have hm1 : s + m ≤ len := by have := hm.out; omega
   have hmn : min 16 (q : Int) = (m : Int) := by have := hm.out; have := hq.out; omega
   have hmi : (if (q : Int) < 16 then (q : Int) else 16) = (m : Int) := by have := hm.out; have := hq.out; split <;> omega
   gi_wp2
   gi_quiet (fail)
   have hJ2 : J pre (wr.drewN nq) := hA pre wr _ none hJs (zgrown_drewN wr nq) (fun r e => by cases e)
   obtain ⟨fn, tmps, assign, body, hy, hR⟩ := hY pre ⟨k, hlt'⟩ (wr.drewN nq) hJ2 (by have := hpl.out; omega)
   have hy2 : (Instr.yield l #[.slice (some (a.add (s * 2))) m m]).run Try.prog (wr.drewN nq) = .ok (.round l fn tmps assign body) (wr.drewN nq) := by
    have e1 := hs.out
    have e2 := hm.out
    rw [e1] at e2
    rw [e1, e2]
    exact hy
   clear hy
   gi_wp2
   refine hR.mono ?_
   rintro e W3 (⟨rfl, hJ3, hk3⟩ | ⟨rfl, hJx3⟩)
   ·have hnx3 : ZKpC n₀ Bs Bn W W3 := (hnx.drewN nq).trans hk3
    have hcn3 : W3.cell? ⟨Bn, 0, none⟩ = some (.int .i64 16) := hnx3.cell2 hBn
    gi_wp2
    go_roundw
    case rel => exact ⟨k + 1, s + 16, pre ++ [⟨k, hlt'⟩], ⟨by have := hs.out; omega⟩, by omega, by simp, by rw [List.map_append, hPre.out, List.range_succ]; rfl, hJ3, hnx3⟩
    case measure => simp [intOf]; omega
   ·gi_wp2
    refine bodyPost_ret (results_none rfl _ _ _) rfl ?_
    exact ⟨⟨_, rfl⟩, .inr ⟨_, trivial, hJx3⟩⟩
  ·gi_wp2
   go_end0
   refine ⟨⟨_, rfl⟩, .inl ⟨pre, ?_, hJs⟩⟩
   rw [hpre, show k = (len + 15) / 16 by have := hs.out; omega]
set_option maxRecDepth 100000 in
set_option maxHeartbeats 1000000 in
theorem zchunk1_nil_in (l Bs Bn cap : Nat) {α : Type} (J : List α → World → Prop) (W : World) (hBs : W.cell? ⟨Bs, 0, none⟩ = some (.slice none 0 cap)) (h0 : J [] W) :
  CallsIn Fence.wide 8 Try.prog 55 #[.func (.yield l) #[] #[], .pointer (some ⟨Bs, 0, none⟩), .pointer (some ⟨Bn, 0, none⟩)] W fun e W' => (∃ v, e = .returned v) ∧ J [] W' := by
 refine callsIn_of_wp Try.func55 rfl trivial ?_ rfl
 simp only [Try.ntmps55, List.size_toArray, List.length_cons, List.length_nil, Nat.reduceAdd, Nat.reduceSub, Array.replicate_succ, Array.replicate_zero, List.push_toArray, List.append_toArray, List.nil_append, List.cons_append]
 gi_wp2
 gi_loopw [4] (fun i wr => i = .int .i64 0 ∧ wr.cell? ⟨Bs, 0, none⟩ = some (.slice none 0 cap) ∧ J [] wr) (fun _ _ => 0)
 case atStart => exact ⟨rfl, hBs, h0⟩
 case round =>
  obtain ⟨rfl, hc, hJs⟩ := hrel
  gi_wp2
  go_end0
  exact ⟨⟨_, rfl⟩, hJs⟩
theorem zchunk_stops (Bs Bn n₀ : Nat) (a : Option Addr) (len cap : Nat) (ha : a = none → len = 0) (hc : len ≤ cap) (hreach : len ≤ 140737488351216) (w : World) (hB : Bs < w.heap.size) (hB2 : Bn < w.heap.size)
  (hBs : w.cell? ⟨Bs, 0, none⟩ = some (.slice a len cap)) (hBn : w.cell? ⟨Bn, 0, none⟩ = some (.int .i64 16)) :
  SeqStopsK Fence.wide 8 Try.prog 55 #[.pointer (some ⟨Bs, 0, none⟩), .pointer (some ⟨Bn, 0, none⟩)] (zencChunk a len) (ZKpC n₀ Bs Bn) (fun ys => ys.map (·.1) = List.range ((len + 15) / 16)) (fun _ => True) len w := fun l J Jx W hW hJ _ hY h0 => by
 have h1 := (hW.cell (p := ⟨Bs, 0, none⟩) hB).trans hBs
 cases a with
 | none =>
  obtain rfl := ha rfl
  exact (zchunk1_nil_in l Bs Bn cap J W h1 h0).mono fun e W' ⟨he, hj⟩ => ⟨he, .inl ⟨[], rfl, hj⟩⟩
 | some a => exact zchunk1_in l Bs Bn n₀ a len cap hc hreach J Jx hY W.heap.size hJ W h1 ((hW.cell (p := ⟨Bn, 0, none⟩) hB2).trans hBn) h0
def ints_Zones.step (z : S38) (c : S42) : S38 := if c.f0 = false then z else if z.f0 = false then ⟨true, c.f1, c.f1⟩ else ⟨true, mn z.f1 c.f1, mx z.f2 c.f1⟩
def ints_Zones.zone (l : List S42) : S38 := l.foldl ints_Zones.step ⟨false, 0, 0⟩
def ints_Zones.chunk (l : List S42) (j : Nat) : List S42 := (l.drop (16 * j)).take 16
def ints_Zones.all (l : List S42) : List S38 := (List.range ((l.length + 15) / 16)).map (fun j => ints_Zones.zone (ints_Zones.chunk l j))
def ints_Zones.f (k : Nat) (l : List S42) : Option (List S38) := (ints_Formed.f k l).bind fun b => if b = true then if l.length ≤ 4096 then some (ints_Zones.all l) else none else some []
theorem ints_Zones.mono : ∀ l k, LeO (ints_Zones.f k l) (ints_Zones.f (k + 1) l) := by
 intro l k
 unfold ints_Zones.f
 exact LeO.bind (ints_Formed.mono _ _) (fun _ => LeO.refl _)
def zcells (z : S38) : List Value := [.bool z.f0, .int .i64 z.f1, .int .i64 z.f2]
def zsCells (l : List S38) : List Value := l.flatMap zcells
def ZBox (W : World) (B : Nat) (z : S38) : Prop := W.heap[B]? = some (.cells (zcells z).toArray 38 (0, 0))
theorem ZBox.lt {W : World} {B : Nat} {z : S38} (h : ZBox W B z) : B < W.heap.size := (Array.getElem?_eq_some_iff.1 h).1
theorem ZBox.c0 {W : World} {B : Nat} {z : S38} (h : ZBox W B z) : W.cell? ⟨B, 0, none⟩ = some (.bool z.f0) := by simp only [World.cell?, show W.heap[B]? = _ from h]; rfl
theorem ZBox.c1 {W : World} {B : Nat} {z : S38} (h : ZBox W B z) : W.cell? ⟨B, 1, none⟩ = some (.int .i64 z.f1) := by simp only [World.cell?, show W.heap[B]? = _ from h]; rfl
theorem ZBox.c2 {W : World} {B : Nat} {z : S38} (h : ZBox W B z) : W.cell? ⟨B, 2, none⟩ = some (.int .i64 z.f2) := by simp only [World.cell?, show W.heap[B]? = _ from h]; rfl
theorem ZBox.alloc {W : World} {B : Nat} {z : S38} (h : ZBox W B z) (o : Obj) : ZBox (W.alloc o) B z := (Below.heap_alloc W o B h.lt).trans h
theorem ZBox.frozen {W : World} {B : Nat} {z : S38} (h : ZBox W B z) (j : Nat) : W.frozen? ⟨B, j, none⟩ = false := by simp [World.frozen?, show W.heap[B]? = _ from h]
def ints_Zones.Held (w : World) (l0 : List S42) (u : Value) (B : Nat) (pre : List (ZChunkNo l0.length)) (W : World) : Prop :=
 (∃ (acc : List S38) (v : Value), Aside0 (acc.length = pre.length ∧ (pre.map (·.1) = List.range pre.length → acc = (List.range pre.length).map (fun j => ints_Zones.zone (ints_Zones.chunk l0 j)))) ∧ Boxed W B 35 v ∧ W.ownsRow w.heap.size 38 3 v acc.length (zsCells acc) ∧ Boxed W (B + 1) 23 u ∧ Boxed W (B + 2) 3 (.int .i64 16)) ∧ Below w.heap.size w W
theorem ints_Zones.held_own (w : World) (l0 : List S42) (u : Value) (B : Nat) (B0 : Nat) (h : w.heap.size ≤ B0) : OwnFrom B0 (ints_Zones.Held w l0 u B) := by
 refine OwnFrom.and (Own.from ?_ _) (ownFrom_below (Nat.le_refl _) h)
 rintro s X Y row ⟨acc, v, hp, hv, hR, hz1, hz2⟩ hg hrow
 obtain ⟨v', hv', hr', rfl⟩ := holdsRow_own (β := Unit) w.heap.size B 35 38 3 (fun _ => acc.length) (fun _ => zsCells acc) (fun _ u => u = v) () X Y row ⟨v, hv, hR, rfl⟩ hg hrow
 exact ⟨acc, _, hp, hv', hr', boxed_own (B + 1) 23 (fun _ => u) s X Y row hz1 hg hrow, boxed_own (B + 2) 3 (fun _ => .int .i64 16) s X Y row hz2 hg hrow⟩
theorem zchunk_reads {W : World} {a : Option Addr} {c1 : Nat} {l1 : List S42} (h : Kd.C k42 W a l1.length l1) (hc : l1.length ≤ c1) (j : Nat) (hj : 16 * j < l1.length) : Kd.C k42 W (a.map (·.add (16 * j * 2))) (ints_Zones.chunk l1 j).length (ints_Zones.chunk l1 j) := by
 unfold ints_Zones.chunk
 have h1 := Kd.C_drop (c := l1.length) h (show 16 * j ≤ l1.length by omega) (Nat.le_refl _)
 rw [if_neg (by omega), show k42.sz = 2 from rfl] at h1
 by_cases h2 : 16 ≤ (l1.drop (16 * j)).length
 ·exact Kd.C_take h1 h2
 ·rw [List.take_of_length_le (by omega)]
  exact h1
theorem zones_R {W : World} {base : Nat} {v : Value} {acc : List S38} (h : W.ownsRow base 38 3 v acc.length (zsCells acc)) : Kd.R k38 38 W base (fun _ => True) v acc := by
 have key : ∀ (ok : Nat → Prop) (l : List S38), Reps (k38.M W base ok) 3 l (zsCells l) := by
  intro ok l
  induction l with
  | nil => exact Reps.none _ _
  | cons x l ih => exact Kd.reps_append (Reps.snoc (Reps.none _ _) (k38_mkM W base ok x) rfl) ih
 exact ⟨fun _ _ => trivial, zsCells acc, h, key _ acc⟩
theorem ownsRow_below' {W W1 : World} {base e size n : Nat} {v : Value} {xs : List Value} (h : W.ownsRow base e size v n xs) (hb : Below W.heap.size W W1) : W1.ownsRow base e size v n xs := by
 obtain ⟨h1, h2⟩ := h
 refine ⟨h1, h2.imp id fun ⟨g, cap, cur, a1, a2, a3, a4⟩ => ⟨g, cap, cur, a1, a2, (hb.block g (Array.getElem?_eq_some_iff.1 a3).1).trans a3, a4⟩⟩
theorem zkeeps_below {W W' : World} (h : Below W.heap.size W W') : KeepsOthers W W' := ⟨h.size, fun k o hk _ => (h.block k (Array.getElem?_eq_some_iff.1 hk).1).trans hk⟩
theorem zinc {i : Nat} (h : i < 17592186044416) : wrap64 ((i : Int) + 1) = ((i + 1 : Nat) : Int) := by
 unfold wrap64
 omega
theorem ztake {ch : List S42} {m i : Nat} (h0 : ch.length = m) (_ : ch.length = m) (h : i < m) : ch.take (i + 1) = ch.take i ++ [rd_T42 ch (i : Int)] := by
 rw [List.take_succ_eq_append_getElem (by omega)]
 simp [rd_T42, show i < ch.length by omega]
theorem zbelow {Bz : Nat} {W wr : World} {o : Obj} (h : Below Bz W wr) (e : Bz = W.heap.size) : Below Bz W (wr.alloc o) := by
 subst e
 exact pbA_ h _
theorem ZBox.set0 {W : World} {B : Nat} {z : S38} (h : ZBox W B z) (b : Bool) : ZBox (W.setCell ⟨B, 0, none⟩ (.bool b)) B ⟨b, z.f1, z.f2⟩ := by
 unfold ZBox at h ⊢
 simp [World.setCell, Array.getElem?_modify, h, zcells]
theorem ZBox.set1 {W : World} {B : Nat} {z : S38} (h : ZBox W B z) (x : Int) : ZBox (W.setCell ⟨B, 1, none⟩ (.int .i64 x)) B ⟨z.f0, x, z.f2⟩ := by
 unfold ZBox at h ⊢
 simp [World.setCell, Array.getElem?_modify, h, zcells]
theorem ZBox.set2 {W : World} {B : Nat} {z : S38} (h : ZBox W B z) (x : Int) : ZBox (W.setCell ⟨B, 2, none⟩ (.int .i64 x)) B ⟨z.f0, z.f1, x⟩ := by
 unfold ZBox at h ⊢
 simp [World.setCell, Array.getElem?_modify, h, zcells]
theorem wpAnyIn_round {F : Fence} {n : Nat} {P : Program} {md : Region.Mode} {ops : Array Oper} {Q : Exit → Act → World → Prop} (hro : F.round = none) (l : Nat) (hd : ∀ (j : Nat) (o : Oper), ops[j]? = some o → ∀ c, o.op ≠ .defer c) :
  ∀ (fuel : Nat) (listed : Array Bool) (a : Act) (w : World), wpAnyIn F n P md ops Q fuel listed a w → wpAnyIn (F.inRound l) n P md ops Q fuel listed a w
 | 0, _, _, _, h => h
 | fuel + 1, listed, a, w, h => by
  refine ⟨h.1, fun i hi => ?_⟩
  have h2 := h.2 i hi
  have ih := fun a w => wpAnyIn_round (n := n) (P := P) (md := md) (ops := ops) (Q := Q) hro l hd fuel (listed.setIfInBounds i true) a w
  unfold wpOpIn at h2 ⊢
  cases ho : ops[i]? with
  | none => simp only [ho] at h2 ⊢; exact ih _ _ h2
  | some o =>
   simp only [ho] at h2 ⊢
   split
   ·rename_i hw
    simp only [hw, if_true] at h2
    refine ⟨h2.1, ?_⟩
    have h3 := h2.2
    rw [hro, Oper.semAt_none] at h3
    rw [show (F.inRound l).round = some l from rfl, Oper.semAt_some l _ _ (hd i o ho)]
    generalize (execOp a.eval o).run P w = r at h3 ⊢
    cases r with
    | ok x w' =>
     cases x <;> simp only [Oper.uponIn] at h3 ⊢
     case value u => exact ih _ _ h3
     case skip => exact ih _ _ h3
     case defer d => exact ih _ _ h3
     case enter f args => exact ⟨h3.1, CallsIn.inRound l (CallsIn.mono h3.2 fun e w'' he => by
      cases e with
      | returned u => exact ih _ _ he
      | panicked c => exact he
      | outgrown => exact he)⟩
     case row row args => exact ⟨h3.1, RowsIn.mono h3.2 fun u w'' he => ih _ _ he⟩
     case round l2 f tmps assign body => exact ⟨h3.1, RoundIn.mono h3.2 fun e w'' he => by
      cases e with
      | returned u => exact ih _ _ he
      | panicked c => exact he
      | outgrown => exact he⟩
    | halt x w' => cases x <;> simp only [Oper.uponIn] at h3 ⊢ <;> exact h3
   ·rename_i hw
    simp only [hw] at h2
    exact ⟨h2.1, ih _ _ h2.2⟩
theorem wpAnyIn_taken {F : Fence} {n : Nat} {P : Program} {md : Region.Mode} {ops : Array Oper} {Q : Exit → Act → World → Prop} {i : Nat} {N : Option Tmp} {oi : Oper} {v : Value} {fuel : Nat} {listed : Array Bool} {a : Act} {w : World} (l' : Array Bool) (hro : F.round = none) (hi : ops[i]? = some oi) (hN : oi.dst = N)
  (hs : (Region.noSelect ops && Region.free md ops listed i && (Region.ready md ops listed).contains i && (listed.setIfInBounds i true == l')) = true)
  (hQ : ∀ c a w, Q (.panic c) (a.put oi.dst v) w → Q (.panic c) a w) (hy : YieldsFenced P ops oi v a) {a' : Act} (ha : a.put N v = a')
  (h : wpAnyIn F n P md ops Q fuel l' a' w) : wpAnyIn F n P md ops Q (fuel + 1) listed a w := by
 subst ha
 subst hN
 simp only [Bool.and_eq_true, beq_iff_eq] at hs
 obtain ⟨⟨⟨h1, h2⟩, h3⟩, h6⟩ := hs
 subst h6
 exact wpAnyIn_take hro hi h1 h2 h3 hQ hy h
theorem allReadyIn_step {F : Fence} {n : Nat} {P : Program} {md : Region.Mode} {ops : Array Oper} {Q : Exit → Act → World → Prop} {i : Nat} {N : Option Tmp} {oi : Oper} {fuel : Nat} {listed : Array Bool} {a : Act} {w : World} {rs : List Nat} (l' : Array Bool) (hi : ops[i]? = some oi) (hN : oi.dst = N) (hl : (listed.setIfInBounds i true == l') = true)
  (h : ∀ K' : Act → World → Prop, (∀ a w, wpAnyIn F n P md ops Q fuel l' a w → K' a w) → if Region.wanted oi (yielded ops a.tmps) = true then Oper.wpIn F n P oi a w K' Q else (∀ f, oi.about P w a.eval = some f → F.fn f) ∧ K' (a.put N undef) w)
  (hs : AllReadyIn F n P md ops Q fuel listed a w rs) : AllReadyIn F n P md ops Q fuel listed a w (i :: rs) := by
 subst hN
 have hl := beq_iff_eq.1 hl
 subst hl
 exact AllReadyIn.cons hi (fun K hK => h K hK) hs
theorem noDefer {ops : Array Oper} (h : ops.all (fun o => match o.op with | .defer _ => false | _ => true) = true) : ∀ (j : Nat) (o : Oper), ops[j]? = some o → ∀ c, o.op ≠ .defer c := by
 intro j o ho c e
 obtain ⟨hj, rfl⟩ := Array.getElem?_eq_some_iff.1 ho
 have h1 := Array.all_eq_true.1 h j hj
 rw [e] at h1
 cases h1
theorem memoJ {J' : Nat → Array Bool → Act → World → Prop} {fuel : Nat} {l : Array Bool} {a : Act} {w : World} (h : ∀ J, J = J' → ∀ a0, a0 = a → ∀ w0, w0 = w → J fuel l a0 w0) : J' fuel l a w := h _ rfl _ rfl _ rfl
theorem cells_three_new (w : World) (x y z : Value) (t : TypeId) : ∀ j u, [x, y, z][j]? = some u → (w.alloc (.cells #[x, y, z] t)).cell? ((⟨w.heap.size, 0, none⟩ : Addr).add j) = some u := by
 intro j u hj
 have hb_ := World.alloc_heap_new w (.cells #[x, y, z] t)
 match j, hj with
 | 0, hj =>
  simp at hj
  subst hj
  rw [show (⟨w.heap.size, 0, none⟩ : Addr).add 0 = ⟨w.heap.size, 0, none⟩ by simp [Addr.add]]
  simp only [World.cell?, hb_]
  rfl
 | 1, hj =>
  simp at hj
  subst hj
  rw [show (⟨w.heap.size, 0, none⟩ : Addr).add 1 = ⟨w.heap.size, 1, none⟩ by simp [Addr.add]]
  simp only [World.cell?, hb_]
  rfl
 | 2, hj =>
  simp at hj
  subst hj
  rw [show (⟨w.heap.size, 0, none⟩ : Addr).add 2 = ⟨w.heap.size, 2, none⟩ by simp [Addr.add]]
  simp only [World.cell?, hb_]
  rfl
set_option maxRecDepth 100000 in
set_option maxHeartbeats 4000000 in
theorem ints_Zones.calls (k : Nat) (A0 : Option Addr) (c0 : Nat) (l0 : List S42) (r : List S38) (w : World) (hr0 : Kd.C k42 w A0 l0.length l0) (hc0 : l0.length ≤ c0) (h : ints_Zones.f k l0 = some r) :
  Calls Try.prog 18 #[.slice A0 l0.length c0] w fun e w' => ∃ v0_ : Value, e = .returned (v0_) ∧ Kd.R k38 38 w' w.heap.size (fun _ => True) v0_ r ∧ Below w.heap.size w w' := by
 have HR0 := Aside0.mk hr0
 have HC0 := Aside0.mk hc0
 clear hr0 hc0
 unfold ints_Zones.f at h
 obtain ⟨b, hb, h⟩ := Option.bind_eq_some_iff.1 h
 have HBF := Aside0.mk hb
 clear hb
 cases b with
 | false =>
  rw [if_neg (by decide)] at h
  obtain rfl := Option.some.inj h
  go_enter Try.func18, Try.ntmps18
  go_wp2_with (first | (go_at_call 15; (with_reducible refine (ints_Formed.calls k _ _ l0 false _ ?side1 ?side2 HBF.out).mono ?_); (case side1 => exact HR0.out); (case side2 => exact HC0.out); rintro e w' ⟨rfl, hd⟩))
  go_ret
  exact ⟨_, rfl, Kd.R_nil _ _ _ _ _, by first | exact hd | exact hd.below⟩
 | true =>
  rw [if_pos rfl] at h
  by_cases hlen : l0.length ≤ 4096
  case neg => rw [if_neg hlen] at h; cases h
  rw [if_pos hlen] at h
  have HH := Aside0.mk (Option.some.inj h)
  have HL := Aside0.mk hlen
  have hnone : A0 = none → l0.length = 0 := by
   rintro rfl
   rcases Nat.eq_zero_or_pos l0.length with h_ | h_
   ·exact h_
   ·obtain ⟨ad, e, _⟩ := HR0.out.2.2 h_
    cases e
  clear h hlen
  refine (callsIn_wide (n := 9)).1 ?_
  refine callsIn_of_wp_marks Try.func18 rfl trivial ?_ rfl
  simp only [Try.ntmps18, List.size_toArray, List.length_cons, List.length_nil, Nat.reduceAdd, Nat.reduceSub, Array.replicate_succ, Array.replicate_zero, List.push_toArray, List.append_toArray, List.nil_append, List.cons_append]
  gi_wp2_with (first | (refine ⟨trivial, ?_⟩; gi_at_call 15; (with_reducible refine (callsIn_wide.2 (ints_Formed.calls k A0 c0 l0 true w HR0.out HC0.out HBF.out)).mono ?_); rintro e w1 ⟨rfl, hd⟩; have HD := Aside0.mk (show Below w.heap.size w w1 by first | exact hd | exact hd.below); clear hd) | (refine ⟨trivial, ?_⟩; gi_at_call 34; (with_reducible refine (zchunk_in _ A0 l0.length c0 _).mono ?_); rintro e w2 ⟨rfl, rfl⟩) | fail)
  obtain ⟨n1, hn1⟩ : ∃ n1 : Nat, Aside0 (n1 = w1.heap.size) := ⟨_, ⟨rfl⟩⟩
  have hsz : w.heap.size ≤ n1 := by rw [hn1.out]; exact HD.out.size
  obtain ⟨W0, hW0⟩ : ∃ W0, Aside0 (W0 = ((w1.alloc (Obj.cells #[Value.slice none 0 0] 35)).alloc (Obj.cells #[Value.slice A0 l0.length c0] 23)).alloc (Obj.cells #[Value.int IntKind.i64 16] 3)) := ⟨_, ⟨rfl⟩⟩
  have hW0s : W0.heap.size = n1 + 3 := by rw [hW0.out, hn1.out]; simp
  have hBel : Below w.heap.size w W0 := by rw [hW0.out]; exact pbA_ (pbA_ (pbA_ HD.out _) _) _
  have hb0 : Boxed W0 n1 35 (.slice none 0 0) := by rw [hW0.out, hn1.out]; exact ((Boxed.new w1 35 _).alloc _).alloc _
  have hb1 : Boxed W0 (n1 + 1) 23 (.slice A0 l0.length c0) := by
   have h_ := (Boxed.new (w1.alloc (Obj.cells #[Value.slice none 0 0] 35)) 23 (.slice A0 l0.length c0)).alloc (Obj.cells #[Value.int IntKind.i64 16] 3)
   rw [World.size_alloc] at h_
   rw [hW0.out, hn1.out]
   exact h_
  have hb2 : Boxed W0 (n1 + 2) 3 (.int .i64 16) := by
   have h_ := Boxed.new ((w1.alloc (Obj.cells #[Value.slice none 0 0] 35)).alloc (Obj.cells #[Value.slice A0 l0.length c0] 23)) 3 (.int .i64 16)
   rw [World.size_alloc, World.size_alloc] at h_
   rw [hW0.out, hn1.out]
   exact h_
  have hc1' := hb1.cell
  have hc2' := hb2.cell
  rw [← hW0.out, ← hn1.out]
  refine wpIn_rangeFunc_ownF (F := Fence.wide) rfl (by decide) (gf := 55) (lb := #[.pointer (some ⟨n1 + 1, 0, none⟩), .pointer (some ⟨n1 + 2, 0, none⟩)]) rfl trivial (enters_of Try.func55 (by kernel_rfl) rfl)
   (zchunk_stops (n1 + 1) (n1 + 2) w.heap.size A0 l0.length c0 hnone HC0.out (by have := HL.out; omega) W0 (by omega) (by omega) hc1' hc2') (fun h k => ZKpC.trans h k) (zkpC_b (by omega) (by omega) (by omega)) (Below.refl _ _) (fun _ => rfl)
   (ints_Zones.Held w l0 (.slice A0 l0.length c0) n1) (fun _ _ _ => False) (ints_Zones.held_own w l0 (.slice A0 l0.length c0) n1 W0.heap.size (by omega)) (fun _ _ _ _ _ hs _ _ => hs)
   ⟨⟨[], _, ⟨rfl, fun _ => rfl⟩, hb0, ⟨rfl, .inl ⟨rfl, rfl⟩⟩, hb1, hb2⟩, hBel⟩
   (fun x => { tmps := #[Value.slice A0 l0.length c0, undef, Value.slice none 0 0,
     Value.pointer (some { block := n1, off := 0 }), .slice (A0.map (·.add (16 * x.1 * 2))) (min 16 (l0.length - 16 * x.1)) (min 16 (l0.length - 16 * x.1)), undef, undef, undef,
     Value.slice A0 l0.length c0, Value.bool true, Value.bool false, Value.slice A0 l0.length c0,
     Value.func (Fn.func 55) #[] #[Value.pointer (some { block := n1 + 1, off := 0 }), Value.pointer (some { block := n1 + 1 + 1, off := 0 })],
     .slice (A0.map (·.add (16 * x.1 * 2))) (min 16 (l0.length - 16 * x.1)) (min 16 (l0.length - 16 * x.1)), undef, undef, undef, undef, undef, undef, undef, undef, undef, undef, undef, undef, undef, undef,
     undef, undef, undef, undef, undef, undef, undef, undef, undef, undef, undef, undef, undef, undef, undef,
     undef, undef, undef, undef, undef, undef, undef, undef], defers := [] }) ?assign ?body ?done ?stop
  case assign =>
   intro l x W K hK
   dsimp only [zencChunk]
   gi_wp2
   exact hK
  case stop =>
   intro D c pre W _ _ h _
   exact h.elim
  case body =>
   rintro l pre x W ⟨⟨acc, v, hp, hv, hR, hbx1, hbx2⟩, hB⟩ hlen
   have hch := zchunk_reads HR0.out HC0.out x.1 x.2
   have hcl : (ints_Zones.chunk l0 x.1).length = min 16 (l0.length - 16 * x.1) := by simp [ints_Zones.chunk]
   obtain ⟨m, hm⟩ : ∃ m, min 16 (l0.length - 16 * x.1) = m := ⟨_, rfl⟩
   obtain ⟨A, hA⟩ : ∃ A, A0.map (·.add (16 * x.1 * 2)) = A := ⟨_, rfl⟩
   obtain ⟨ch, hchd⟩ : ∃ ch, ints_Zones.chunk l0 x.1 = ch := ⟨_, rfl⟩
   rw [hm, hchd] at hcl
   rw [hA, hchd, hcl] at hch
   rw [hm, hA]
   have HCH := Aside0.mk hch
   have HCL := Aside0.mk hcl
   have HM := Aside0.mk (show m ≤ 16 by omega)
   have HV := Aside0.mk hv
   have HRR := Aside0.mk hR
   have HB := Aside0.mk hB
   have HP := Aside0.mk hp
   have HX1 := Aside0.mk hbx1
   have HX2 := Aside0.mk hbx2
   clear hch hcl hm hv hR hB hp hbx1 hbx2
   gi_wp2
   obtain ⟨Bz, hBz⟩ : ∃ Bz : Nat, Aside0 (Bz = W.heap.size) := ⟨_, ⟨rfl⟩⟩
   rw [← hBz.out]
   gi_loopw [16] (fun v16 wr => ∃ (i : Nat) (z : S38), v16 = .int .i64 (i : Int) ∧ Aside0 (i ≤ m) ∧ Aside0 (z = (ch.take i).foldl ints_Zones.step ⟨false, 0, 0⟩) ∧ Aside0 (ZBox wr Bz z ∧ Below Bz W wr)) (fun i _ => m - (intOf i).toNat)
   case atStart => exact ⟨0, ⟨false, 0, 0⟩, rfl, ⟨Nat.zero_le _⟩, ⟨rfl⟩, ⟨by rw [hBz.out]; exact World.alloc_heap_new W _, by rw [hBz.out]; exact pbA_ (Below.refl _ _) _⟩⟩
   case round =>
    obtain ⟨i, z, rfl, hi, hz, hW⟩ := hrel
    by_cases hlt : i < m
    ·have g : decide ((i : Int) < (m : Int)) = true := decide_eq_true (by omega)
     obtain ⟨ad, e, hx0, hx1⟩ := at_T42 HCH.out (i : Int) (by omega) (by omega)
     subst e
     have hx0 := (HB.out.cell (World.block_lt_of_cell? w _ hx0)).trans hx0
     have hx1 := (HB.out.cell (World.block_lt_of_cell? w _ hx1)).trans hx1
     rw [Int.toNat_natCast] at hx0 hx1
     have hx0 := (hW.out.2.cell (by rw [hBz.out]; exact World.block_lt_of_cell? W _ hx0)).trans hx0
     have hx1 := (hW.out.2.cell (by rw [hBz.out]; exact World.block_lt_of_cell? W _ hx1)).trans hx1
     have p := eq_true (show (0 : Int) ≤ (i : Int) by omega)
     have q := eq_true (show (i : Int) < (m : Int) by omega)
     have q' := eq_true hlt
     obtain ⟨c, hc⟩ : ∃ c, rd_T42 ch (i : Int) = c := ⟨_, rfl⟩
     rw [hc] at hx0 hx1
     obtain ⟨c0_, c1_⟩ := c
     obtain ⟨z0_, z1_, z2_⟩ := z
     dsimp only at hx0 hx1
     have hz0 : ∀ o, (wr.alloc o).cell? ⟨Bz, 0, none⟩ = some (.bool z0_) := fun o => (hW.out.1.alloc o).c0
     have hz1 : ∀ o, (wr.alloc o).cell? ⟨Bz, 1, none⟩ = some (.int .i64 z1_) := fun o => (hW.out.1.alloc o).c1
     have hz2 : ∀ o, (wr.alloc o).cell? ⟨Bz, 2, none⟩ = some (.int .i64 z2_) := fun o => (hW.out.1.alloc o).c2
     have hzf : ∀ o j, (wr.alloc o).frozen? ⟨Bz, j, none⟩ = false := fun o j => (hW.out.1.alloc o).frozen j
     cases c0_ with
     | false =>
      gi_wp2
      go_roundw
      case rel => exact ⟨i + 1, _, by rw [zinc (by have := HM.out; omega)], ⟨hlt⟩, ⟨by rw [ztake HCH.out.1 HCL.out hlt, List.foldl_append, ← hz.out]; simp [ints_Zones.step, hc]⟩, ⟨hW.out.1.alloc _, zbelow hW.out.2 hBz.out⟩⟩
      case measure => rw [zinc (by have := HM.out; omega)]; simp [intOf]; omega
     | true =>
      cases z0_ with
      | false =>
       gi_wp2
       go_roundw
       case rel => exact ⟨i + 1, ⟨true, c1_, c1_⟩, by rw [zinc (by have := HM.out; omega)], ⟨hlt⟩, ⟨by rw [ztake HCH.out.1 HCL.out hlt, List.foldl_append, ← hz.out]; simp [ints_Zones.step, hc]⟩, ⟨(((hW.out.1.alloc _).set0 true).set1 c1_).set2 c1_, (((zbelow hW.out.2 hBz.out).setCell (p := ⟨Bz, 0, none⟩) (Nat.le_refl _) _).setCell (p := ⟨Bz, 1, none⟩) (Nat.le_refl _) _).setCell (p := ⟨Bz, 2, none⟩) (Nat.le_refl _) _⟩⟩
       case measure => rw [zinc (by have := HM.out; omega)]; simp [intOf]; omega
      | true =>
       gi_wp2
       obtain ⟨wc, hwc⟩ : ∃ wc, wr.alloc (Obj.cells #[Value.bool true, Value.int IntKind.i64 c1_] 42) = wc := ⟨_, rfl⟩
       obtain ⟨Bc, hBc⟩ : ∃ Bc, wr.heap.size = Bc := ⟨_, rfl⟩
       have hbox : ZBox wc Bz ⟨true, z1_, z2_⟩ := by rw [← hwc]; exact hW.out.1.alloc _
       have hbw : Below Bz W wc := by rw [← hwc]; exact zbelow hW.out.2 hBz.out
       have hcx : wc.cell? ⟨Bc, 1, none⟩ = some (.int .i64 c1_) := by
        rw [← hwc, ← hBc]
        have hb_ := World.alloc_heap_new wr (Obj.cells #[Value.bool true, Value.int IntKind.i64 c1_] 42)
        simp only [World.cell?, hb_]
        rfl
       have hne : Bc ≠ Bz := by have := hW.out.1.lt; omega
       rw [hwc, hBc]
       clear hz0 hz1 hz2 hzf
       have hz1 := hbox.c1
       have hz2 := hbox.c2
       have hf1 := hbox.frozen 1
       have hf2 := hbox.frozen 2
       dsimp only at hz1 hz2
       have HBX := Aside0.mk (And.intro hbox hbw)
       clear hbox hbw hwc hBc
       refine wpIn_region_any (by kernel_rfl) ?_
       change wpAnyIn _ _ _ _ _ _ 14 #[false, false, false, false, false, false, false, false, false, false, false, false, false, false] _ (World.drew _)
       refine wpAnyIn_round (F := Fence.wide) rfl l (fun j o ho c e => ?df) _ _ _ _ ?_
       case df => exact noDefer (by kernel_rfl) j o ho c e
       refine memoJ (fun J hJ a0 ha0 w0 hw0 => ?_)
       have HJ := Aside0.mk hJ
       have HA0 := Aside0.mk ha0
       have hx1 : w0.cell? ⟨Bz, 1, none⟩ = some (.int .i64 z1_) := by rw [hw0]; exact hz1
       have hx2 : w0.cell? ⟨Bz, 2, none⟩ = some (.int .i64 z2_) := by rw [hw0]; exact hz2
       have hxc : w0.cell? ⟨Bc, 1, none⟩ = some (.int .i64 c1_) := by rw [hw0]; exact hcx
       have hxf1 : w0.frozen? ⟨Bz, 1, none⟩ = false := by rw [hw0]; exact hf1
       have hxf2 : (w0.setCell ⟨Bz, 1, none⟩ (.int .i64 (mn z1_ c1_))).frozen? ⟨Bz, 2, none⟩ = false := by rw [hw0]; exact ((show ZBox wc.drew Bz ⟨true, z1_, z2_⟩ from HBX.out.1).set1 _).frozen 2
       have hxc2 : (w0.setCell ⟨Bz, 1, none⟩ (.int .i64 (mn z1_ c1_))).cell? ⟨Bc, 1, none⟩ = some (.int .i64 c1_) := (World.cell?_setCell_other _ _ _ _ (by intro h; simp only [Addr.mk.injEq] at h; omega)).trans hxc
       have hxe1 : ∃ u, w0.cell? ⟨Bz, 1, none⟩ = some u := ⟨_, hx1⟩
       have HEND := Aside0.mk (And.intro (show ZBox ((w0.setCell ⟨Bz, 1, none⟩ (.int .i64 (mn z1_ c1_))).setCell ⟨Bz, 2, none⟩ (.int .i64 (mx z2_ c1_))) Bz ⟨true, mn z1_ c1_, mx z2_ c1_⟩ by rw [hw0]; exact ((show ZBox wc.drew Bz ⟨true, z1_, z2_⟩ from HBX.out.1).set1 _).set2 _) (show Below Bz W ((w0.setCell ⟨Bz, 1, none⟩ (.int .i64 (mn z1_ c1_))).setCell ⟨Bz, 2, none⟩ (.int .i64 (mx z2_ c1_))) by rw [hw0]; exact ((show Below Bz W wc.drew from pb1_ HBX.out.2).setCell (p := ⟨Bz, 1, none⟩) (Nat.le_refl _) _).setCell (p := ⟨Bz, 2, none⟩) (Nat.le_refl _) _))
       clear hw0 hz1 hz2 hcx hf1 hf2
       clear hJ ha0
       have h_1_3_6_8_11_13 : J 0 #[true, true, true, true, true, true, true, true, true, true, true, true, true, true] ((((((((((((a0.put (some 20) (.pointer (some ⟨Bz, 1, none⟩))).put (some 21) (.int .i64 z1_)).put (some 22) (.pointer (some ⟨Bc, 1, none⟩))).put (some 23) (.int .i64 c1_)).put (some 24) (.int .i64 (mn z1_ c1_))).put (some 25) (.pointer (some ⟨Bz, 2, none⟩))).put (some 26) (.int .i64 z2_)).put (some 27) (.pointer (some ⟨Bc, 1, none⟩))).put (some 28) (.int .i64 c1_)).put (some 29) (.int .i64 (mx z2_ c1_))).put (some 30) (.pointer (some ⟨Bz, 1, none⟩))).put (some 31) (.pointer (some ⟨Bz, 2, none⟩))) ((w0.setCell ⟨Bz, 1, none⟩ (.int .i64 (mn z1_ c1_))).setCell ⟨Bz, 2, none⟩ (.int .i64 (mx z2_ c1_))) := by
        rw [HJ.out, HA0.out]
        simp only [Act.put, List.setIfInBounds_toArray, List.set_cons_zero, List.set_cons_succ, i64_w, i32_w]
        refine wpAnyIn_done (by kernel_rfl) ?_ _
        gi_wp2
        go_roundw
        case rel => exact ⟨i + 1, ⟨true, mn z1_ c1_, mx z2_ c1_⟩, by rw [zinc (by have := HM.out; omega)], ⟨hlt⟩, ⟨by rw [ztake HCH.out.1 HCL.out hlt, List.foldl_append, ← hz.out]; simp [ints_Zones.step, hc]⟩, ⟨HEND.out⟩⟩
        case measure => rw [zinc (by have := HM.out; omega)]; simp [intOf]; omega
       rw [HJ.out, HA0.out] at h_1_3_6_8_11_13
       simp only [Act.put, List.setIfInBounds_toArray, List.set_cons_zero, List.set_cons_succ, i64_w, i32_w] at h_1_3_6_8_11_13
       have h_1_3_6_8_11 : J 1 #[true, true, true, true, true, true, true, true, true, true, true, true, true, false] ((((((((((((a0.put (some 20) (.pointer (some ⟨Bz, 1, none⟩))).put (some 21) (.int .i64 z1_)).put (some 22) (.pointer (some ⟨Bc, 1, none⟩))).put (some 23) (.int .i64 c1_)).put (some 24) (.int .i64 (mn z1_ c1_))).put (some 25) (.pointer (some ⟨Bz, 2, none⟩))).put (some 26) (.int .i64 z2_)).put (some 27) (.pointer (some ⟨Bc, 1, none⟩))).put (some 28) (.int .i64 c1_)).put (some 29) (.int .i64 (mx z2_ c1_))).put (some 30) (.pointer (some ⟨Bz, 1, none⟩))).put (some 31) (.pointer (some ⟨Bz, 2, none⟩))) (w0.setCell ⟨Bz, 1, none⟩ (.int .i64 (mn z1_ c1_))) := by
        rw [HJ.out, HA0.out]
        simp only [Act.put, List.setIfInBounds_toArray, List.set_cons_zero, List.set_cons_succ, i64_w, i32_w]
        refine wpAnyIn_ready (rs := [13]) (by kernel_rfl) (by simp) ?_
        refine allReadyIn_step (i := 13) (N := none) #[tT,tT,tT,tT,tT,tT,tT,tT,tT,tT,tT,tT,tT,tT] rfl rfl (by kernel_rfl) (fun K hK => ?_) ?_
        ·go_simp
         refine hK _ _ ?_
         clear hK K
         try simp only [Act.put, List.setIfInBounds_toArray, List.set_cons_zero, List.set_cons_succ, i64_w, i32_w]
         exact h_1_3_6_8_11_13
        exact AllReadyIn.nil
       rw [HJ.out, HA0.out] at h_1_3_6_8_11
       simp only [Act.put, List.setIfInBounds_toArray, List.set_cons_zero, List.set_cons_succ, i64_w, i32_w] at h_1_3_6_8_11
       have h_1_3_6_8 : J 3 #[true, true, true, true, true, true, true, true, true, true, true, false, false, false] (((((((((((a0.put (some 20) (.pointer (some ⟨Bz, 1, none⟩))).put (some 21) (.int .i64 z1_)).put (some 22) (.pointer (some ⟨Bc, 1, none⟩))).put (some 23) (.int .i64 c1_)).put (some 24) (.int .i64 (mn z1_ c1_))).put (some 25) (.pointer (some ⟨Bz, 2, none⟩))).put (some 26) (.int .i64 z2_)).put (some 27) (.pointer (some ⟨Bc, 1, none⟩))).put (some 28) (.int .i64 c1_)).put (some 29) (.int .i64 (mx z2_ c1_))).put (some 30) (.pointer (some ⟨Bz, 1, none⟩))) w0 := by
        rw [HJ.out, HA0.out]
        simp only [Act.put, List.setIfInBounds_toArray, List.set_cons_zero, List.set_cons_succ, i64_w, i32_w]
        refine wpAnyIn_ready (rs := [11]) (by kernel_rfl) (by simp) ?_
        refine allReadyIn_step (i := 11) (N := none) #[tT,tT,tT,tT,tT,tT,tT,tT,tT,tT,tT,tT,fF,fF] rfl rfl (by kernel_rfl) (fun K hK => ?_) ?_
        ·go_simp
         refine hK _ _ ?_
         clear hK K
         try simp only [Act.put, List.setIfInBounds_toArray, List.set_cons_zero, List.set_cons_succ, i64_w, i32_w]
         refine wpAnyIn_taken (i := 12) (N := (some 31)) (v := ?_) (a' := ?_) #[tT,tT,tT,tT,tT,tT,tT,tT,tT,tT,tT,tT,tT,fF] rfl rfl rfl (by kernel_rfl) (fun _ _ _ h => h) ⟨Or.inl ⟨by rfl, ?_⟩, fun _ => rfl⟩ ?_ ?_
         rotate_left
         ·intro w'
          go_simp
          with_reducible rfl
         rotate_left
         ·simp only [Act.put, List.setIfInBounds_toArray, List.set_cons_zero, List.set_cons_succ, i64_w, i32_w]
          rfl
         exact h_1_3_6_8_11
        exact AllReadyIn.nil
       rw [HJ.out, HA0.out] at h_1_3_6_8
       simp only [Act.put, List.setIfInBounds_toArray, List.set_cons_zero, List.set_cons_succ, i64_w, i32_w] at h_1_3_6_8
       have h_1_3_6_11 : J 4 #[true, true, true, true, true, true, true, true, false, false, true, true, false, false] (((((((((a0.put (some 20) (.pointer (some ⟨Bz, 1, none⟩))).put (some 21) (.int .i64 z1_)).put (some 22) (.pointer (some ⟨Bc, 1, none⟩))).put (some 23) (.int .i64 c1_)).put (some 24) (.int .i64 (mn z1_ c1_))).put (some 25) (.pointer (some ⟨Bz, 2, none⟩))).put (some 26) (.int .i64 z2_)).put (some 27) (.pointer (some ⟨Bc, 1, none⟩))).put (some 30) (.pointer (some ⟨Bz, 1, none⟩))) (w0.setCell ⟨Bz, 1, none⟩ (.int .i64 (mn z1_ c1_))) := by
        rw [HJ.out, HA0.out]
        simp only [Act.put, List.setIfInBounds_toArray, List.set_cons_zero, List.set_cons_succ, i64_w, i32_w]
        refine wpAnyIn_ready (rs := [8]) (by kernel_rfl) (by simp) ?_
        refine allReadyIn_step (i := 8) (N := (some 28)) #[tT,tT,tT,tT,tT,tT,tT,tT,tT,fF,tT,tT,fF,fF] rfl rfl (by kernel_rfl) (fun K hK => ?_) ?_
        ·go_simp
         refine hK _ _ ?_
         clear hK K
         try simp only [Act.put, List.setIfInBounds_toArray, List.set_cons_zero, List.set_cons_succ, i64_w, i32_w]
         refine wpAnyIn_taken (i := 9) (N := (some 29)) (v := ?_) (a' := ?_) #[tT,tT,tT,tT,tT,tT,tT,tT,tT,tT,tT,tT,fF,fF] rfl rfl rfl (by kernel_rfl) (fun _ _ _ h => h) ⟨Or.inl ⟨by rfl, ?_⟩, fun _ => rfl⟩ ?_ ?_
         rotate_left
         ·intro w'
          go_simp
          with_reducible rfl
         rotate_left
         ·simp only [Act.put, List.setIfInBounds_toArray, List.set_cons_zero, List.set_cons_succ, i64_w, i32_w]
          rfl
         refine wpAnyIn_taken (i := 12) (N := (some 31)) (v := ?_) (a' := ?_) #[tT,tT,tT,tT,tT,tT,tT,tT,tT,tT,tT,tT,tT,fF] rfl rfl rfl (by kernel_rfl) (fun _ _ _ h => h) ⟨Or.inl ⟨by rfl, ?_⟩, fun _ => rfl⟩ ?_ ?_
         rotate_left
         ·intro w'
          go_simp
          with_reducible rfl
         rotate_left
         ·simp only [Act.put, List.setIfInBounds_toArray, List.set_cons_zero, List.set_cons_succ, i64_w, i32_w]
          rfl
         exact h_1_3_6_8_11
        exact AllReadyIn.nil
       rw [HJ.out, HA0.out] at h_1_3_6_11
       simp only [Act.put, List.setIfInBounds_toArray, List.set_cons_zero, List.set_cons_succ, i64_w, i32_w] at h_1_3_6_11
       have h_1_3_6 : J 5 #[true, true, true, true, true, true, true, true, false, false, true, false, false, false] (((((((((a0.put (some 20) (.pointer (some ⟨Bz, 1, none⟩))).put (some 21) (.int .i64 z1_)).put (some 22) (.pointer (some ⟨Bc, 1, none⟩))).put (some 23) (.int .i64 c1_)).put (some 24) (.int .i64 (mn z1_ c1_))).put (some 25) (.pointer (some ⟨Bz, 2, none⟩))).put (some 26) (.int .i64 z2_)).put (some 27) (.pointer (some ⟨Bc, 1, none⟩))).put (some 30) (.pointer (some ⟨Bz, 1, none⟩))) w0 := by
        rw [HJ.out, HA0.out]
        simp only [Act.put, List.setIfInBounds_toArray, List.set_cons_zero, List.set_cons_succ, i64_w, i32_w]
        refine wpAnyIn_ready (rs := [8, 11]) (by kernel_rfl) (by simp) ?_
        refine allReadyIn_step (i := 8) (N := (some 28)) #[tT,tT,tT,tT,tT,tT,tT,tT,tT,fF,tT,fF,fF,fF] rfl rfl (by kernel_rfl) (fun K hK => ?_) ?_
        ·go_simp
         refine hK _ _ ?_
         clear hK K
         try simp only [Act.put, List.setIfInBounds_toArray, List.set_cons_zero, List.set_cons_succ, i64_w, i32_w]
         refine wpAnyIn_taken (i := 9) (N := (some 29)) (v := ?_) (a' := ?_) #[tT,tT,tT,tT,tT,tT,tT,tT,tT,tT,tT,fF,fF,fF] rfl rfl rfl (by kernel_rfl) (fun _ _ _ h => h) ⟨Or.inl ⟨by rfl, ?_⟩, fun _ => rfl⟩ ?_ ?_
         rotate_left
         ·intro w'
          go_simp
          with_reducible rfl
         rotate_left
         ·simp only [Act.put, List.setIfInBounds_toArray, List.set_cons_zero, List.set_cons_succ, i64_w, i32_w]
          rfl
         exact h_1_3_6_8
        refine allReadyIn_step (i := 11) (N := none) #[tT,tT,tT,tT,tT,tT,tT,tT,fF,fF,tT,tT,fF,fF] rfl rfl (by kernel_rfl) (fun K hK => ?_) ?_
        ·go_simp
         refine hK _ _ ?_
         clear hK K
         try simp only [Act.put, List.setIfInBounds_toArray, List.set_cons_zero, List.set_cons_succ, i64_w, i32_w]
         exact h_1_3_6_11
        exact AllReadyIn.nil
       rw [HJ.out, HA0.out] at h_1_3_6
       simp only [Act.put, List.setIfInBounds_toArray, List.set_cons_zero, List.set_cons_succ, i64_w, i32_w] at h_1_3_6
       have h_3_6_8 : J 6 #[true, false, true, true, false, true, true, true, true, true, false, false, false, false] ((((((((a0.put (some 20) (.pointer (some ⟨Bz, 1, none⟩))).put (some 22) (.pointer (some ⟨Bc, 1, none⟩))).put (some 23) (.int .i64 c1_)).put (some 25) (.pointer (some ⟨Bz, 2, none⟩))).put (some 26) (.int .i64 z2_)).put (some 27) (.pointer (some ⟨Bc, 1, none⟩))).put (some 28) (.int .i64 c1_)).put (some 29) (.int .i64 (mx z2_ c1_))) w0 := by
        rw [HJ.out, HA0.out]
        simp only [Act.put, List.setIfInBounds_toArray, List.set_cons_zero, List.set_cons_succ, i64_w, i32_w]
        refine wpAnyIn_ready (rs := [1]) (by kernel_rfl) (by simp) ?_
        refine allReadyIn_step (i := 1) (N := (some 21)) #[tT,tT,tT,tT,fF,tT,tT,tT,tT,tT,fF,fF,fF,fF] rfl rfl (by kernel_rfl) (fun K hK => ?_) ?_
        ·go_simp
         refine hK _ _ ?_
         clear hK K
         try simp only [Act.put, List.setIfInBounds_toArray, List.set_cons_zero, List.set_cons_succ, i64_w, i32_w]
         refine wpAnyIn_taken (i := 4) (N := (some 24)) (v := ?_) (a' := ?_) #[tT,tT,tT,tT,tT,tT,tT,tT,tT,tT,fF,fF,fF,fF] rfl rfl rfl (by kernel_rfl) (fun _ _ _ h => h) ⟨Or.inl ⟨by rfl, ?_⟩, fun _ => rfl⟩ ?_ ?_
         rotate_left
         ·intro w'
          go_simp
          with_reducible rfl
         rotate_left
         ·simp only [Act.put, List.setIfInBounds_toArray, List.set_cons_zero, List.set_cons_succ, i64_w, i32_w]
          rfl
         refine wpAnyIn_taken (i := 10) (N := (some 30)) (v := ?_) (a' := ?_) #[tT,tT,tT,tT,tT,tT,tT,tT,tT,tT,tT,fF,fF,fF] rfl rfl rfl (by kernel_rfl) (fun _ _ _ h => h) ⟨Or.inl ⟨by rfl, ?_⟩, fun _ => rfl⟩ ?_ ?_
         rotate_left
         ·intro w'
          go_simp
          with_reducible rfl
         rotate_left
         ·simp only [Act.put, List.setIfInBounds_toArray, List.set_cons_zero, List.set_cons_succ, i64_w, i32_w]
          rfl
         exact h_1_3_6_8
        exact AllReadyIn.nil
       rw [HJ.out, HA0.out] at h_3_6_8
       simp only [Act.put, List.setIfInBounds_toArray, List.set_cons_zero, List.set_cons_succ, i64_w, i32_w] at h_3_6_8
       have h_1_6_8 : J 6 #[true, true, true, false, false, true, true, true, true, true, false, false, false, false] ((((((((a0.put (some 20) (.pointer (some ⟨Bz, 1, none⟩))).put (some 21) (.int .i64 z1_)).put (some 22) (.pointer (some ⟨Bc, 1, none⟩))).put (some 25) (.pointer (some ⟨Bz, 2, none⟩))).put (some 26) (.int .i64 z2_)).put (some 27) (.pointer (some ⟨Bc, 1, none⟩))).put (some 28) (.int .i64 c1_)).put (some 29) (.int .i64 (mx z2_ c1_))) w0 := by
        rw [HJ.out, HA0.out]
        simp only [Act.put, List.setIfInBounds_toArray, List.set_cons_zero, List.set_cons_succ, i64_w, i32_w]
        refine wpAnyIn_ready (rs := [3]) (by kernel_rfl) (by simp) ?_
        refine allReadyIn_step (i := 3) (N := (some 23)) #[tT,tT,tT,tT,fF,tT,tT,tT,tT,tT,fF,fF,fF,fF] rfl rfl (by kernel_rfl) (fun K hK => ?_) ?_
        ·go_simp
         refine hK _ _ ?_
         clear hK K
         try simp only [Act.put, List.setIfInBounds_toArray, List.set_cons_zero, List.set_cons_succ, i64_w, i32_w]
         refine wpAnyIn_taken (i := 4) (N := (some 24)) (v := ?_) (a' := ?_) #[tT,tT,tT,tT,tT,tT,tT,tT,tT,tT,fF,fF,fF,fF] rfl rfl rfl (by kernel_rfl) (fun _ _ _ h => h) ⟨Or.inl ⟨by rfl, ?_⟩, fun _ => rfl⟩ ?_ ?_
         rotate_left
         ·intro w'
          go_simp
          with_reducible rfl
         rotate_left
         ·simp only [Act.put, List.setIfInBounds_toArray, List.set_cons_zero, List.set_cons_succ, i64_w, i32_w]
          rfl
         refine wpAnyIn_taken (i := 10) (N := (some 30)) (v := ?_) (a' := ?_) #[tT,tT,tT,tT,tT,tT,tT,tT,tT,tT,tT,fF,fF,fF] rfl rfl rfl (by kernel_rfl) (fun _ _ _ h => h) ⟨Or.inl ⟨by rfl, ?_⟩, fun _ => rfl⟩ ?_ ?_
         rotate_left
         ·intro w'
          go_simp
          with_reducible rfl
         rotate_left
         ·simp only [Act.put, List.setIfInBounds_toArray, List.set_cons_zero, List.set_cons_succ, i64_w, i32_w]
          rfl
         exact h_1_3_6_8
        exact AllReadyIn.nil
       rw [HJ.out, HA0.out] at h_1_6_8
       simp only [Act.put, List.setIfInBounds_toArray, List.set_cons_zero, List.set_cons_succ, i64_w, i32_w] at h_1_6_8
       have h_1_3_8 : J 6 #[true, true, true, true, true, true, false, true, true, false, false, false, false, false] ((((((((a0.put (some 20) (.pointer (some ⟨Bz, 1, none⟩))).put (some 21) (.int .i64 z1_)).put (some 22) (.pointer (some ⟨Bc, 1, none⟩))).put (some 23) (.int .i64 c1_)).put (some 24) (.int .i64 (mn z1_ c1_))).put (some 25) (.pointer (some ⟨Bz, 2, none⟩))).put (some 27) (.pointer (some ⟨Bc, 1, none⟩))).put (some 28) (.int .i64 c1_)) w0 := by
        rw [HJ.out, HA0.out]
        simp only [Act.put, List.setIfInBounds_toArray, List.set_cons_zero, List.set_cons_succ, i64_w, i32_w]
        refine wpAnyIn_ready (rs := [6]) (by kernel_rfl) (by simp) ?_
        refine allReadyIn_step (i := 6) (N := (some 26)) #[tT,tT,tT,tT,tT,tT,tT,tT,tT,fF,fF,fF,fF,fF] rfl rfl (by kernel_rfl) (fun K hK => ?_) ?_
        ·go_simp
         refine hK _ _ ?_
         clear hK K
         try simp only [Act.put, List.setIfInBounds_toArray, List.set_cons_zero, List.set_cons_succ, i64_w, i32_w]
         refine wpAnyIn_taken (i := 9) (N := (some 29)) (v := ?_) (a' := ?_) #[tT,tT,tT,tT,tT,tT,tT,tT,tT,tT,fF,fF,fF,fF] rfl rfl rfl (by kernel_rfl) (fun _ _ _ h => h) ⟨Or.inl ⟨by rfl, ?_⟩, fun _ => rfl⟩ ?_ ?_
         rotate_left
         ·intro w'
          go_simp
          with_reducible rfl
         rotate_left
         ·simp only [Act.put, List.setIfInBounds_toArray, List.set_cons_zero, List.set_cons_succ, i64_w, i32_w]
          rfl
         refine wpAnyIn_taken (i := 10) (N := (some 30)) (v := ?_) (a' := ?_) #[tT,tT,tT,tT,tT,tT,tT,tT,tT,tT,tT,fF,fF,fF] rfl rfl rfl (by kernel_rfl) (fun _ _ _ h => h) ⟨Or.inl ⟨by rfl, ?_⟩, fun _ => rfl⟩ ?_ ?_
         rotate_left
         ·intro w'
          go_simp
          with_reducible rfl
         rotate_left
         ·simp only [Act.put, List.setIfInBounds_toArray, List.set_cons_zero, List.set_cons_succ, i64_w, i32_w]
          rfl
         exact h_1_3_6_8
        exact AllReadyIn.nil
       rw [HJ.out, HA0.out] at h_1_3_8
       simp only [Act.put, List.setIfInBounds_toArray, List.set_cons_zero, List.set_cons_succ, i64_w, i32_w] at h_1_3_8
       have h_6_8 : J 7 #[true, false, true, false, false, true, true, true, true, true, false, false, false, false] (((((((a0.put (some 20) (.pointer (some ⟨Bz, 1, none⟩))).put (some 22) (.pointer (some ⟨Bc, 1, none⟩))).put (some 25) (.pointer (some ⟨Bz, 2, none⟩))).put (some 26) (.int .i64 z2_)).put (some 27) (.pointer (some ⟨Bc, 1, none⟩))).put (some 28) (.int .i64 c1_)).put (some 29) (.int .i64 (mx z2_ c1_))) w0 := by
        rw [HJ.out, HA0.out]
        simp only [Act.put, List.setIfInBounds_toArray, List.set_cons_zero, List.set_cons_succ, i64_w, i32_w]
        refine wpAnyIn_ready (rs := [1, 3]) (by kernel_rfl) (by simp) ?_
        refine allReadyIn_step (i := 1) (N := (some 21)) #[tT,tT,tT,fF,fF,tT,tT,tT,tT,tT,fF,fF,fF,fF] rfl rfl (by kernel_rfl) (fun K hK => ?_) ?_
        ·go_simp
         refine hK _ _ ?_
         clear hK K
         try simp only [Act.put, List.setIfInBounds_toArray, List.set_cons_zero, List.set_cons_succ, i64_w, i32_w]
         exact h_1_6_8
        refine allReadyIn_step (i := 3) (N := (some 23)) #[tT,fF,tT,tT,fF,tT,tT,tT,tT,tT,fF,fF,fF,fF] rfl rfl (by kernel_rfl) (fun K hK => ?_) ?_
        ·go_simp
         refine hK _ _ ?_
         clear hK K
         try simp only [Act.put, List.setIfInBounds_toArray, List.set_cons_zero, List.set_cons_succ, i64_w, i32_w]
         exact h_3_6_8
        exact AllReadyIn.nil
       rw [HJ.out, HA0.out] at h_6_8
       simp only [Act.put, List.setIfInBounds_toArray, List.set_cons_zero, List.set_cons_succ, i64_w, i32_w] at h_6_8
       have h_1_3 : J 7 #[true, true, true, true, true, true, false, true, false, false, false, false, false, false] (((((((a0.put (some 20) (.pointer (some ⟨Bz, 1, none⟩))).put (some 21) (.int .i64 z1_)).put (some 22) (.pointer (some ⟨Bc, 1, none⟩))).put (some 23) (.int .i64 c1_)).put (some 24) (.int .i64 (mn z1_ c1_))).put (some 25) (.pointer (some ⟨Bz, 2, none⟩))).put (some 27) (.pointer (some ⟨Bc, 1, none⟩))) w0 := by
        rw [HJ.out, HA0.out]
        simp only [Act.put, List.setIfInBounds_toArray, List.set_cons_zero, List.set_cons_succ, i64_w, i32_w]
        refine wpAnyIn_ready (rs := [6, 8]) (by kernel_rfl) (by simp) ?_
        refine allReadyIn_step (i := 6) (N := (some 26)) #[tT,tT,tT,tT,tT,tT,tT,tT,fF,fF,fF,fF,fF,fF] rfl rfl (by kernel_rfl) (fun K hK => ?_) ?_
        ·go_simp
         refine hK _ _ ?_
         clear hK K
         try simp only [Act.put, List.setIfInBounds_toArray, List.set_cons_zero, List.set_cons_succ, i64_w, i32_w]
         refine wpAnyIn_taken (i := 10) (N := (some 30)) (v := ?_) (a' := ?_) #[tT,tT,tT,tT,tT,tT,tT,tT,fF,fF,tT,fF,fF,fF] rfl rfl rfl (by kernel_rfl) (fun _ _ _ h => h) ⟨Or.inl ⟨by rfl, ?_⟩, fun _ => rfl⟩ ?_ ?_
         rotate_left
         ·intro w'
          go_simp
          with_reducible rfl
         rotate_left
         ·simp only [Act.put, List.setIfInBounds_toArray, List.set_cons_zero, List.set_cons_succ, i64_w, i32_w]
          rfl
         exact h_1_3_6
        refine allReadyIn_step (i := 8) (N := (some 28)) #[tT,tT,tT,tT,tT,tT,fF,tT,tT,fF,fF,fF,fF,fF] rfl rfl (by kernel_rfl) (fun K hK => ?_) ?_
        ·go_simp
         refine hK _ _ ?_
         clear hK K
         try simp only [Act.put, List.setIfInBounds_toArray, List.set_cons_zero, List.set_cons_succ, i64_w, i32_w]
         exact h_1_3_8
        exact AllReadyIn.nil
       rw [HJ.out, HA0.out] at h_1_3
       simp only [Act.put, List.setIfInBounds_toArray, List.set_cons_zero, List.set_cons_succ, i64_w, i32_w] at h_1_3
       have h_3_8 : J 8 #[true, false, true, true, false, true, false, true, true, false, false, false, false, false] ((((((a0.put (some 20) (.pointer (some ⟨Bz, 1, none⟩))).put (some 22) (.pointer (some ⟨Bc, 1, none⟩))).put (some 23) (.int .i64 c1_)).put (some 25) (.pointer (some ⟨Bz, 2, none⟩))).put (some 27) (.pointer (some ⟨Bc, 1, none⟩))).put (some 28) (.int .i64 c1_)) w0 := by
        rw [HJ.out, HA0.out]
        simp only [Act.put, List.setIfInBounds_toArray, List.set_cons_zero, List.set_cons_succ, i64_w, i32_w]
        refine wpAnyIn_ready (rs := [1, 6]) (by kernel_rfl) (by simp) ?_
        refine allReadyIn_step (i := 1) (N := (some 21)) #[tT,tT,tT,tT,fF,tT,fF,tT,tT,fF,fF,fF,fF,fF] rfl rfl (by kernel_rfl) (fun K hK => ?_) ?_
        ·go_simp
         refine hK _ _ ?_
         clear hK K
         try simp only [Act.put, List.setIfInBounds_toArray, List.set_cons_zero, List.set_cons_succ, i64_w, i32_w]
         refine wpAnyIn_taken (i := 4) (N := (some 24)) (v := ?_) (a' := ?_) #[tT,tT,tT,tT,tT,tT,fF,tT,tT,fF,fF,fF,fF,fF] rfl rfl rfl (by kernel_rfl) (fun _ _ _ h => h) ⟨Or.inl ⟨by rfl, ?_⟩, fun _ => rfl⟩ ?_ ?_
         rotate_left
         ·intro w'
          go_simp
          with_reducible rfl
         rotate_left
         ·simp only [Act.put, List.setIfInBounds_toArray, List.set_cons_zero, List.set_cons_succ, i64_w, i32_w]
          rfl
         exact h_1_3_8
        refine allReadyIn_step (i := 6) (N := (some 26)) #[tT,fF,tT,tT,fF,tT,tT,tT,tT,fF,fF,fF,fF,fF] rfl rfl (by kernel_rfl) (fun K hK => ?_) ?_
        ·go_simp
         refine hK _ _ ?_
         clear hK K
         try simp only [Act.put, List.setIfInBounds_toArray, List.set_cons_zero, List.set_cons_succ, i64_w, i32_w]
         refine wpAnyIn_taken (i := 9) (N := (some 29)) (v := ?_) (a' := ?_) #[tT,fF,tT,tT,fF,tT,tT,tT,tT,tT,fF,fF,fF,fF] rfl rfl rfl (by kernel_rfl) (fun _ _ _ h => h) ⟨Or.inl ⟨by rfl, ?_⟩, fun _ => rfl⟩ ?_ ?_
         rotate_left
         ·intro w'
          go_simp
          with_reducible rfl
         rotate_left
         ·simp only [Act.put, List.setIfInBounds_toArray, List.set_cons_zero, List.set_cons_succ, i64_w, i32_w]
          rfl
         exact h_3_6_8
        exact AllReadyIn.nil
       rw [HJ.out, HA0.out] at h_3_8
       simp only [Act.put, List.setIfInBounds_toArray, List.set_cons_zero, List.set_cons_succ, i64_w, i32_w] at h_3_8
       have h_1_8 : J 8 #[true, true, true, false, false, true, false, true, true, false, false, false, false, false] ((((((a0.put (some 20) (.pointer (some ⟨Bz, 1, none⟩))).put (some 21) (.int .i64 z1_)).put (some 22) (.pointer (some ⟨Bc, 1, none⟩))).put (some 25) (.pointer (some ⟨Bz, 2, none⟩))).put (some 27) (.pointer (some ⟨Bc, 1, none⟩))).put (some 28) (.int .i64 c1_)) w0 := by
        rw [HJ.out, HA0.out]
        simp only [Act.put, List.setIfInBounds_toArray, List.set_cons_zero, List.set_cons_succ, i64_w, i32_w]
        refine wpAnyIn_ready (rs := [3, 6]) (by kernel_rfl) (by simp) ?_
        refine allReadyIn_step (i := 3) (N := (some 23)) #[tT,tT,tT,tT,fF,tT,fF,tT,tT,fF,fF,fF,fF,fF] rfl rfl (by kernel_rfl) (fun K hK => ?_) ?_
        ·go_simp
         refine hK _ _ ?_
         clear hK K
         try simp only [Act.put, List.setIfInBounds_toArray, List.set_cons_zero, List.set_cons_succ, i64_w, i32_w]
         refine wpAnyIn_taken (i := 4) (N := (some 24)) (v := ?_) (a' := ?_) #[tT,tT,tT,tT,tT,tT,fF,tT,tT,fF,fF,fF,fF,fF] rfl rfl rfl (by kernel_rfl) (fun _ _ _ h => h) ⟨Or.inl ⟨by rfl, ?_⟩, fun _ => rfl⟩ ?_ ?_
         rotate_left
         ·intro w'
          go_simp
          with_reducible rfl
         rotate_left
         ·simp only [Act.put, List.setIfInBounds_toArray, List.set_cons_zero, List.set_cons_succ, i64_w, i32_w]
          rfl
         exact h_1_3_8
        refine allReadyIn_step (i := 6) (N := (some 26)) #[tT,tT,tT,fF,fF,tT,tT,tT,tT,fF,fF,fF,fF,fF] rfl rfl (by kernel_rfl) (fun K hK => ?_) ?_
        ·go_simp
         refine hK _ _ ?_
         clear hK K
         try simp only [Act.put, List.setIfInBounds_toArray, List.set_cons_zero, List.set_cons_succ, i64_w, i32_w]
         refine wpAnyIn_taken (i := 9) (N := (some 29)) (v := ?_) (a' := ?_) #[tT,tT,tT,fF,fF,tT,tT,tT,tT,tT,fF,fF,fF,fF] rfl rfl rfl (by kernel_rfl) (fun _ _ _ h => h) ⟨Or.inl ⟨by rfl, ?_⟩, fun _ => rfl⟩ ?_ ?_
         rotate_left
         ·intro w'
          go_simp
          with_reducible rfl
         rotate_left
         ·simp only [Act.put, List.setIfInBounds_toArray, List.set_cons_zero, List.set_cons_succ, i64_w, i32_w]
          rfl
         exact h_1_6_8
        exact AllReadyIn.nil
       rw [HJ.out, HA0.out] at h_1_8
       simp only [Act.put, List.setIfInBounds_toArray, List.set_cons_zero, List.set_cons_succ, i64_w, i32_w] at h_1_8
       have h_3_6 : J 8 #[true, false, true, true, false, true, true, true, false, false, false, false, false, false] ((((((a0.put (some 20) (.pointer (some ⟨Bz, 1, none⟩))).put (some 22) (.pointer (some ⟨Bc, 1, none⟩))).put (some 23) (.int .i64 c1_)).put (some 25) (.pointer (some ⟨Bz, 2, none⟩))).put (some 26) (.int .i64 z2_)).put (some 27) (.pointer (some ⟨Bc, 1, none⟩))) w0 := by
        rw [HJ.out, HA0.out]
        simp only [Act.put, List.setIfInBounds_toArray, List.set_cons_zero, List.set_cons_succ, i64_w, i32_w]
        refine wpAnyIn_ready (rs := [1, 8]) (by kernel_rfl) (by simp) ?_
        refine allReadyIn_step (i := 1) (N := (some 21)) #[tT,tT,tT,tT,fF,tT,tT,tT,fF,fF,fF,fF,fF,fF] rfl rfl (by kernel_rfl) (fun K hK => ?_) ?_
        ·go_simp
         refine hK _ _ ?_
         clear hK K
         try simp only [Act.put, List.setIfInBounds_toArray, List.set_cons_zero, List.set_cons_succ, i64_w, i32_w]
         refine wpAnyIn_taken (i := 4) (N := (some 24)) (v := ?_) (a' := ?_) #[tT,tT,tT,tT,tT,tT,tT,tT,fF,fF,fF,fF,fF,fF] rfl rfl rfl (by kernel_rfl) (fun _ _ _ h => h) ⟨Or.inl ⟨by rfl, ?_⟩, fun _ => rfl⟩ ?_ ?_
         rotate_left
         ·intro w'
          go_simp
          with_reducible rfl
         rotate_left
         ·simp only [Act.put, List.setIfInBounds_toArray, List.set_cons_zero, List.set_cons_succ, i64_w, i32_w]
          rfl
         refine wpAnyIn_taken (i := 10) (N := (some 30)) (v := ?_) (a' := ?_) #[tT,tT,tT,tT,tT,tT,tT,tT,fF,fF,tT,fF,fF,fF] rfl rfl rfl (by kernel_rfl) (fun _ _ _ h => h) ⟨Or.inl ⟨by rfl, ?_⟩, fun _ => rfl⟩ ?_ ?_
         rotate_left
         ·intro w'
          go_simp
          with_reducible rfl
         rotate_left
         ·simp only [Act.put, List.setIfInBounds_toArray, List.set_cons_zero, List.set_cons_succ, i64_w, i32_w]
          rfl
         exact h_1_3_6
        refine allReadyIn_step (i := 8) (N := (some 28)) #[tT,fF,tT,tT,fF,tT,tT,tT,tT,fF,fF,fF,fF,fF] rfl rfl (by kernel_rfl) (fun K hK => ?_) ?_
        ·go_simp
         refine hK _ _ ?_
         clear hK K
         try simp only [Act.put, List.setIfInBounds_toArray, List.set_cons_zero, List.set_cons_succ, i64_w, i32_w]
         refine wpAnyIn_taken (i := 9) (N := (some 29)) (v := ?_) (a' := ?_) #[tT,fF,tT,tT,fF,tT,tT,tT,tT,tT,fF,fF,fF,fF] rfl rfl rfl (by kernel_rfl) (fun _ _ _ h => h) ⟨Or.inl ⟨by rfl, ?_⟩, fun _ => rfl⟩ ?_ ?_
         rotate_left
         ·intro w'
          go_simp
          with_reducible rfl
         rotate_left
         ·simp only [Act.put, List.setIfInBounds_toArray, List.set_cons_zero, List.set_cons_succ, i64_w, i32_w]
          rfl
         exact h_3_6_8
        exact AllReadyIn.nil
       rw [HJ.out, HA0.out] at h_3_6
       simp only [Act.put, List.setIfInBounds_toArray, List.set_cons_zero, List.set_cons_succ, i64_w, i32_w] at h_3_6
       have h_1_6 : J 8 #[true, true, true, false, false, true, true, true, false, false, false, false, false, false] ((((((a0.put (some 20) (.pointer (some ⟨Bz, 1, none⟩))).put (some 21) (.int .i64 z1_)).put (some 22) (.pointer (some ⟨Bc, 1, none⟩))).put (some 25) (.pointer (some ⟨Bz, 2, none⟩))).put (some 26) (.int .i64 z2_)).put (some 27) (.pointer (some ⟨Bc, 1, none⟩))) w0 := by
        rw [HJ.out, HA0.out]
        simp only [Act.put, List.setIfInBounds_toArray, List.set_cons_zero, List.set_cons_succ, i64_w, i32_w]
        refine wpAnyIn_ready (rs := [3, 8]) (by kernel_rfl) (by simp) ?_
        refine allReadyIn_step (i := 3) (N := (some 23)) #[tT,tT,tT,tT,fF,tT,tT,tT,fF,fF,fF,fF,fF,fF] rfl rfl (by kernel_rfl) (fun K hK => ?_) ?_
        ·go_simp
         refine hK _ _ ?_
         clear hK K
         try simp only [Act.put, List.setIfInBounds_toArray, List.set_cons_zero, List.set_cons_succ, i64_w, i32_w]
         refine wpAnyIn_taken (i := 4) (N := (some 24)) (v := ?_) (a' := ?_) #[tT,tT,tT,tT,tT,tT,tT,tT,fF,fF,fF,fF,fF,fF] rfl rfl rfl (by kernel_rfl) (fun _ _ _ h => h) ⟨Or.inl ⟨by rfl, ?_⟩, fun _ => rfl⟩ ?_ ?_
         rotate_left
         ·intro w'
          go_simp
          with_reducible rfl
         rotate_left
         ·simp only [Act.put, List.setIfInBounds_toArray, List.set_cons_zero, List.set_cons_succ, i64_w, i32_w]
          rfl
         refine wpAnyIn_taken (i := 10) (N := (some 30)) (v := ?_) (a' := ?_) #[tT,tT,tT,tT,tT,tT,tT,tT,fF,fF,tT,fF,fF,fF] rfl rfl rfl (by kernel_rfl) (fun _ _ _ h => h) ⟨Or.inl ⟨by rfl, ?_⟩, fun _ => rfl⟩ ?_ ?_
         rotate_left
         ·intro w'
          go_simp
          with_reducible rfl
         rotate_left
         ·simp only [Act.put, List.setIfInBounds_toArray, List.set_cons_zero, List.set_cons_succ, i64_w, i32_w]
          rfl
         exact h_1_3_6
        refine allReadyIn_step (i := 8) (N := (some 28)) #[tT,tT,tT,fF,fF,tT,tT,tT,tT,fF,fF,fF,fF,fF] rfl rfl (by kernel_rfl) (fun K hK => ?_) ?_
        ·go_simp
         refine hK _ _ ?_
         clear hK K
         try simp only [Act.put, List.setIfInBounds_toArray, List.set_cons_zero, List.set_cons_succ, i64_w, i32_w]
         refine wpAnyIn_taken (i := 9) (N := (some 29)) (v := ?_) (a' := ?_) #[tT,tT,tT,fF,fF,tT,tT,tT,tT,tT,fF,fF,fF,fF] rfl rfl rfl (by kernel_rfl) (fun _ _ _ h => h) ⟨Or.inl ⟨by rfl, ?_⟩, fun _ => rfl⟩ ?_ ?_
         rotate_left
         ·intro w'
          go_simp
          with_reducible rfl
         rotate_left
         ·simp only [Act.put, List.setIfInBounds_toArray, List.set_cons_zero, List.set_cons_succ, i64_w, i32_w]
          rfl
         exact h_1_6_8
        exact AllReadyIn.nil
       rw [HJ.out, HA0.out] at h_1_6
       simp only [Act.put, List.setIfInBounds_toArray, List.set_cons_zero, List.set_cons_succ, i64_w, i32_w] at h_1_6
       have h_8 : J 9 #[true, false, true, false, false, true, false, true, true, false, false, false, false, false] (((((a0.put (some 20) (.pointer (some ⟨Bz, 1, none⟩))).put (some 22) (.pointer (some ⟨Bc, 1, none⟩))).put (some 25) (.pointer (some ⟨Bz, 2, none⟩))).put (some 27) (.pointer (some ⟨Bc, 1, none⟩))).put (some 28) (.int .i64 c1_)) w0 := by
        rw [HJ.out, HA0.out]
        simp only [Act.put, List.setIfInBounds_toArray, List.set_cons_zero, List.set_cons_succ, i64_w, i32_w]
        refine wpAnyIn_ready (rs := [1, 3, 6]) (by kernel_rfl) (by simp) ?_
        refine allReadyIn_step (i := 1) (N := (some 21)) #[tT,tT,tT,fF,fF,tT,fF,tT,tT,fF,fF,fF,fF,fF] rfl rfl (by kernel_rfl) (fun K hK => ?_) ?_
        ·go_simp
         refine hK _ _ ?_
         clear hK K
         try simp only [Act.put, List.setIfInBounds_toArray, List.set_cons_zero, List.set_cons_succ, i64_w, i32_w]
         exact h_1_8
        refine allReadyIn_step (i := 3) (N := (some 23)) #[tT,fF,tT,tT,fF,tT,fF,tT,tT,fF,fF,fF,fF,fF] rfl rfl (by kernel_rfl) (fun K hK => ?_) ?_
        ·go_simp
         refine hK _ _ ?_
         clear hK K
         try simp only [Act.put, List.setIfInBounds_toArray, List.set_cons_zero, List.set_cons_succ, i64_w, i32_w]
         exact h_3_8
        refine allReadyIn_step (i := 6) (N := (some 26)) #[tT,fF,tT,fF,fF,tT,tT,tT,tT,fF,fF,fF,fF,fF] rfl rfl (by kernel_rfl) (fun K hK => ?_) ?_
        ·go_simp
         refine hK _ _ ?_
         clear hK K
         try simp only [Act.put, List.setIfInBounds_toArray, List.set_cons_zero, List.set_cons_succ, i64_w, i32_w]
         refine wpAnyIn_taken (i := 9) (N := (some 29)) (v := ?_) (a' := ?_) #[tT,fF,tT,fF,fF,tT,tT,tT,tT,tT,fF,fF,fF,fF] rfl rfl rfl (by kernel_rfl) (fun _ _ _ h => h) ⟨Or.inl ⟨by rfl, ?_⟩, fun _ => rfl⟩ ?_ ?_
         rotate_left
         ·intro w'
          go_simp
          with_reducible rfl
         rotate_left
         ·simp only [Act.put, List.setIfInBounds_toArray, List.set_cons_zero, List.set_cons_succ, i64_w, i32_w]
          rfl
         exact h_6_8
        exact AllReadyIn.nil
       rw [HJ.out, HA0.out] at h_8
       simp only [Act.put, List.setIfInBounds_toArray, List.set_cons_zero, List.set_cons_succ, i64_w, i32_w] at h_8
       have h_6 : J 9 #[true, false, true, false, false, true, true, true, false, false, false, false, false, false] (((((a0.put (some 20) (.pointer (some ⟨Bz, 1, none⟩))).put (some 22) (.pointer (some ⟨Bc, 1, none⟩))).put (some 25) (.pointer (some ⟨Bz, 2, none⟩))).put (some 26) (.int .i64 z2_)).put (some 27) (.pointer (some ⟨Bc, 1, none⟩))) w0 := by
        rw [HJ.out, HA0.out]
        simp only [Act.put, List.setIfInBounds_toArray, List.set_cons_zero, List.set_cons_succ, i64_w, i32_w]
        refine wpAnyIn_ready (rs := [1, 3, 8]) (by kernel_rfl) (by simp) ?_
        refine allReadyIn_step (i := 1) (N := (some 21)) #[tT,tT,tT,fF,fF,tT,tT,tT,fF,fF,fF,fF,fF,fF] rfl rfl (by kernel_rfl) (fun K hK => ?_) ?_
        ·go_simp
         refine hK _ _ ?_
         clear hK K
         try simp only [Act.put, List.setIfInBounds_toArray, List.set_cons_zero, List.set_cons_succ, i64_w, i32_w]
         exact h_1_6
        refine allReadyIn_step (i := 3) (N := (some 23)) #[tT,fF,tT,tT,fF,tT,tT,tT,fF,fF,fF,fF,fF,fF] rfl rfl (by kernel_rfl) (fun K hK => ?_) ?_
        ·go_simp
         refine hK _ _ ?_
         clear hK K
         try simp only [Act.put, List.setIfInBounds_toArray, List.set_cons_zero, List.set_cons_succ, i64_w, i32_w]
         exact h_3_6
        refine allReadyIn_step (i := 8) (N := (some 28)) #[tT,fF,tT,fF,fF,tT,tT,tT,tT,fF,fF,fF,fF,fF] rfl rfl (by kernel_rfl) (fun K hK => ?_) ?_
        ·go_simp
         refine hK _ _ ?_
         clear hK K
         try simp only [Act.put, List.setIfInBounds_toArray, List.set_cons_zero, List.set_cons_succ, i64_w, i32_w]
         refine wpAnyIn_taken (i := 9) (N := (some 29)) (v := ?_) (a' := ?_) #[tT,fF,tT,fF,fF,tT,tT,tT,tT,tT,fF,fF,fF,fF] rfl rfl rfl (by kernel_rfl) (fun _ _ _ h => h) ⟨Or.inl ⟨by rfl, ?_⟩, fun _ => rfl⟩ ?_ ?_
         rotate_left
         ·intro w'
          go_simp
          with_reducible rfl
         rotate_left
         ·simp only [Act.put, List.setIfInBounds_toArray, List.set_cons_zero, List.set_cons_succ, i64_w, i32_w]
          rfl
         exact h_6_8
        exact AllReadyIn.nil
       rw [HJ.out, HA0.out] at h_6
       simp only [Act.put, List.setIfInBounds_toArray, List.set_cons_zero, List.set_cons_succ, i64_w, i32_w] at h_6
       have h_3 : J 9 #[true, false, true, true, false, true, false, true, false, false, false, false, false, false] (((((a0.put (some 20) (.pointer (some ⟨Bz, 1, none⟩))).put (some 22) (.pointer (some ⟨Bc, 1, none⟩))).put (some 23) (.int .i64 c1_)).put (some 25) (.pointer (some ⟨Bz, 2, none⟩))).put (some 27) (.pointer (some ⟨Bc, 1, none⟩))) w0 := by
        rw [HJ.out, HA0.out]
        simp only [Act.put, List.setIfInBounds_toArray, List.set_cons_zero, List.set_cons_succ, i64_w, i32_w]
        refine wpAnyIn_ready (rs := [1, 6, 8]) (by kernel_rfl) (by simp) ?_
        refine allReadyIn_step (i := 1) (N := (some 21)) #[tT,tT,tT,tT,fF,tT,fF,tT,fF,fF,fF,fF,fF,fF] rfl rfl (by kernel_rfl) (fun K hK => ?_) ?_
        ·go_simp
         refine hK _ _ ?_
         clear hK K
         try simp only [Act.put, List.setIfInBounds_toArray, List.set_cons_zero, List.set_cons_succ, i64_w, i32_w]
         refine wpAnyIn_taken (i := 4) (N := (some 24)) (v := ?_) (a' := ?_) #[tT,tT,tT,tT,tT,tT,fF,tT,fF,fF,fF,fF,fF,fF] rfl rfl rfl (by kernel_rfl) (fun _ _ _ h => h) ⟨Or.inl ⟨by rfl, ?_⟩, fun _ => rfl⟩ ?_ ?_
         rotate_left
         ·intro w'
          go_simp
          with_reducible rfl
         rotate_left
         ·simp only [Act.put, List.setIfInBounds_toArray, List.set_cons_zero, List.set_cons_succ, i64_w, i32_w]
          rfl
         exact h_1_3
        refine allReadyIn_step (i := 6) (N := (some 26)) #[tT,fF,tT,tT,fF,tT,tT,tT,fF,fF,fF,fF,fF,fF] rfl rfl (by kernel_rfl) (fun K hK => ?_) ?_
        ·go_simp
         refine hK _ _ ?_
         clear hK K
         try simp only [Act.put, List.setIfInBounds_toArray, List.set_cons_zero, List.set_cons_succ, i64_w, i32_w]
         exact h_3_6
        refine allReadyIn_step (i := 8) (N := (some 28)) #[tT,fF,tT,tT,fF,tT,fF,tT,tT,fF,fF,fF,fF,fF] rfl rfl (by kernel_rfl) (fun K hK => ?_) ?_
        ·go_simp
         refine hK _ _ ?_
         clear hK K
         try simp only [Act.put, List.setIfInBounds_toArray, List.set_cons_zero, List.set_cons_succ, i64_w, i32_w]
         exact h_3_8
        exact AllReadyIn.nil
       rw [HJ.out, HA0.out] at h_3
       simp only [Act.put, List.setIfInBounds_toArray, List.set_cons_zero, List.set_cons_succ, i64_w, i32_w] at h_3
       have h_1 : J 9 #[true, true, true, false, false, true, false, true, false, false, false, false, false, false] (((((a0.put (some 20) (.pointer (some ⟨Bz, 1, none⟩))).put (some 21) (.int .i64 z1_)).put (some 22) (.pointer (some ⟨Bc, 1, none⟩))).put (some 25) (.pointer (some ⟨Bz, 2, none⟩))).put (some 27) (.pointer (some ⟨Bc, 1, none⟩))) w0 := by
        rw [HJ.out, HA0.out]
        simp only [Act.put, List.setIfInBounds_toArray, List.set_cons_zero, List.set_cons_succ, i64_w, i32_w]
        refine wpAnyIn_ready (rs := [3, 6, 8]) (by kernel_rfl) (by simp) ?_
        refine allReadyIn_step (i := 3) (N := (some 23)) #[tT,tT,tT,tT,fF,tT,fF,tT,fF,fF,fF,fF,fF,fF] rfl rfl (by kernel_rfl) (fun K hK => ?_) ?_
        ·go_simp
         refine hK _ _ ?_
         clear hK K
         try simp only [Act.put, List.setIfInBounds_toArray, List.set_cons_zero, List.set_cons_succ, i64_w, i32_w]
         refine wpAnyIn_taken (i := 4) (N := (some 24)) (v := ?_) (a' := ?_) #[tT,tT,tT,tT,tT,tT,fF,tT,fF,fF,fF,fF,fF,fF] rfl rfl rfl (by kernel_rfl) (fun _ _ _ h => h) ⟨Or.inl ⟨by rfl, ?_⟩, fun _ => rfl⟩ ?_ ?_
         rotate_left
         ·intro w'
          go_simp
          with_reducible rfl
         rotate_left
         ·simp only [Act.put, List.setIfInBounds_toArray, List.set_cons_zero, List.set_cons_succ, i64_w, i32_w]
          rfl
         exact h_1_3
        refine allReadyIn_step (i := 6) (N := (some 26)) #[tT,tT,tT,fF,fF,tT,tT,tT,fF,fF,fF,fF,fF,fF] rfl rfl (by kernel_rfl) (fun K hK => ?_) ?_
        ·go_simp
         refine hK _ _ ?_
         clear hK K
         try simp only [Act.put, List.setIfInBounds_toArray, List.set_cons_zero, List.set_cons_succ, i64_w, i32_w]
         exact h_1_6
        refine allReadyIn_step (i := 8) (N := (some 28)) #[tT,tT,tT,fF,fF,tT,fF,tT,tT,fF,fF,fF,fF,fF] rfl rfl (by kernel_rfl) (fun K hK => ?_) ?_
        ·go_simp
         refine hK _ _ ?_
         clear hK K
         try simp only [Act.put, List.setIfInBounds_toArray, List.set_cons_zero, List.set_cons_succ, i64_w, i32_w]
         exact h_1_8
        exact AllReadyIn.nil
       rw [HJ.out, HA0.out] at h_1
       simp only [Act.put, List.setIfInBounds_toArray, List.set_cons_zero, List.set_cons_succ, i64_w, i32_w] at h_1
       rw [HJ.out, HA0.out]
       refine wpAnyIn_taken (i := 0) (N := (some 20)) (v := ?_) (a' := ?_) #[tT,fF,fF,fF,fF,fF,fF,fF,fF,fF,fF,fF,fF,fF] rfl rfl rfl (by kernel_rfl) (fun _ _ _ h => h) ⟨Or.inl ⟨by rfl, ?_⟩, fun _ => rfl⟩ ?_ ?_
       rotate_left
       ·intro w'
        go_simp
        with_reducible rfl
       rotate_left
       ·simp only [Act.put, List.setIfInBounds_toArray, List.set_cons_zero, List.set_cons_succ, i64_w, i32_w]
        rfl
       refine wpAnyIn_taken (i := 2) (N := (some 22)) (v := ?_) (a' := ?_) #[tT,fF,tT,fF,fF,fF,fF,fF,fF,fF,fF,fF,fF,fF] rfl rfl rfl (by kernel_rfl) (fun _ _ _ h => h) ⟨Or.inl ⟨by rfl, ?_⟩, fun _ => rfl⟩ ?_ ?_
       rotate_left
       ·intro w'
        go_simp
        with_reducible rfl
       rotate_left
       ·simp only [Act.put, List.setIfInBounds_toArray, List.set_cons_zero, List.set_cons_succ, i64_w, i32_w]
        rfl
       refine wpAnyIn_taken (i := 5) (N := (some 25)) (v := ?_) (a' := ?_) #[tT,fF,tT,fF,fF,tT,fF,fF,fF,fF,fF,fF,fF,fF] rfl rfl rfl (by kernel_rfl) (fun _ _ _ h => h) ⟨Or.inl ⟨by rfl, ?_⟩, fun _ => rfl⟩ ?_ ?_
       rotate_left
       ·intro w'
        go_simp
        with_reducible rfl
       rotate_left
       ·simp only [Act.put, List.setIfInBounds_toArray, List.set_cons_zero, List.set_cons_succ, i64_w, i32_w]
        rfl
       refine wpAnyIn_taken (i := 7) (N := (some 27)) (v := ?_) (a' := ?_) #[tT,fF,tT,fF,fF,tT,fF,tT,fF,fF,fF,fF,fF,fF] rfl rfl rfl (by kernel_rfl) (fun _ _ _ h => h) ⟨Or.inl ⟨by rfl, ?_⟩, fun _ => rfl⟩ ?_ ?_
       rotate_left
       ·intro w'
        go_simp
        with_reducible rfl
       rotate_left
       ·simp only [Act.put, List.setIfInBounds_toArray, List.set_cons_zero, List.set_cons_succ, i64_w, i32_w]
        rfl
       refine wpAnyIn_ready (rs := [1, 3, 6, 8]) (by kernel_rfl) (by simp) ?_
       refine allReadyIn_step (i := 1) (N := (some 21)) #[tT,tT,tT,fF,fF,tT,fF,tT,fF,fF,fF,fF,fF,fF] rfl rfl (by kernel_rfl) (fun K hK => ?_) ?_
       ·go_simp
        refine hK _ _ ?_
        clear hK K
        try simp only [Act.put, List.setIfInBounds_toArray, List.set_cons_zero, List.set_cons_succ, i64_w, i32_w]
        exact h_1
       refine allReadyIn_step (i := 3) (N := (some 23)) #[tT,fF,tT,tT,fF,tT,fF,tT,fF,fF,fF,fF,fF,fF] rfl rfl (by kernel_rfl) (fun K hK => ?_) ?_
       ·go_simp
        refine hK _ _ ?_
        clear hK K
        try simp only [Act.put, List.setIfInBounds_toArray, List.set_cons_zero, List.set_cons_succ, i64_w, i32_w]
        exact h_3
       refine allReadyIn_step (i := 6) (N := (some 26)) #[tT,fF,tT,fF,fF,tT,tT,tT,fF,fF,fF,fF,fF,fF] rfl rfl (by kernel_rfl) (fun K hK => ?_) ?_
       ·go_simp
        refine hK _ _ ?_
        clear hK K
        try simp only [Act.put, List.setIfInBounds_toArray, List.set_cons_zero, List.set_cons_succ, i64_w, i32_w]
        exact h_6
       refine allReadyIn_step (i := 8) (N := (some 28)) #[tT,fF,tT,fF,fF,tT,fF,tT,tT,fF,fF,fF,fF,fF] rfl rfl (by kernel_rfl) (fun K hK => ?_) ?_
       ·go_simp
        refine hK _ _ ?_
        clear hK K
        try simp only [Act.put, List.setIfInBounds_toArray, List.set_cons_zero, List.set_cons_succ, i64_w, i32_w]
        exact h_8
       exact AllReadyIn.nil
    ·have g : decide ((i : Int) < (m : Int)) = false := decide_eq_false (by omega)
     have hcv := (hW.out.2.cell (p := ⟨n1, 0, none⟩) (by rw [hBz.out]; exact HV.out.lt)).trans HV.out.cell
     obtain ⟨z0_, z1_, z2_⟩ := z
     have hz0 := hW.out.1.c0
     have hz1 := hW.out.1.c1
     have hz2 := hW.out.1.c2
     dsimp only at hz0 hz1 hz2
     have hzE : z0_ = (ints_Zones.zone ch).f0 ∧ z1_ = (ints_Zones.zone ch).f1 ∧ z2_ = (ints_Zones.zone ch).f2 := by
      have h1 := hz.out
      have h2 := hi.out
      rw [List.take_of_length_le (by have := HCL.out; omega)] at h1
      have h3 : ints_Zones.zone ch = ⟨z0_, z1_, z2_⟩ := h1.symm
      rw [h3]
      exact ⟨rfl, rfl, rfl⟩
     have HZE := Aside0.mk hzE
     clear hzE
     have hbz := hW.out.2
     rw [hBz.out] at hbz
     have hv2 : Boxed wr n1 35 v := (hbz.block n1 HV.out.lt).trans HV.out
     have hrow := ownsRow_below' HRR.out hbz
     have hx1 : Boxed wr (n1 + 1) 23 (.slice A0 l0.length c0) := (hbz.block _ HX1.out.lt).trans HX1.out
     have hx2 : Boxed wr (n1 + 2) 3 (.int .i64 16) := (hbz.block _ HX2.out.lt).trans HX2.out
     have hsW : w.heap.size ≤ W.heap.size := HB.out.size
     have hsr : W.heap.size ≤ wr.heap.size := hbz.size
     have HBZ := Aside0.mk hbz
     have HROW := Aside0.mk hrow
     have HV2 := Aside0.mk hv2
     have HY1 := Aside0.mk hx1
     have HY2 := Aside0.mk hx2
     obtain ⟨i0, hi0, hzz, hsz0, hby⟩ := info_parts info38
     have HI0 := Aside0.mk (And.intro hi0 (And.intro hzz (And.intro hsz0 hby)))
     have HLEN := Aside0.mk hlen
     clear hbz hrow hv2 hx1 hx2 hi0 hzz hsz0 hby hlen
     gi_wp2_with (first | (gi_at_builtin; refine wpListIn_append_own _ rfl _ _ 35 rfl w.heap.size 38 i0 _ 3 24 Try.underlying35 HI0.out.1 HI0.out.2.1 HI0.out.2.2.1 HI0.out.2.2.2 rfl (by decide) _ _ _ rfl (HROW.out.alloc _) ⟨wr.heap.size, 0, none⟩ 1 1 [.bool z0_, .int .i64 z1_, .int .i64 z2_] rfl rfl (cells_three_new _ _ _ _ _) (by simp [Value.oneCell']) ?b1 ?b2 ?b3 ?_; (case b1 => have := HP.out.1; have := HLEN.out; have := HL.out; unfold maxLen; omega); (case b2 => have := HP.out.1; have := HLEN.out; have := HL.out; omega); (case b3 => simp; omega); intro v' w1 hown' hgrow _; obtain ⟨g', cap', rfl⟩ := ownsRow_succ hown'; obtain ⟨hv1, hv2, hr2, hk2, hb2⟩ := HV2.out.appended (by decide) HROW.out (by omega) (by omega) hown' hgrow; have hc1 := hv1.cell; have hf1 := hv1.frozen; have HGR := Aside0.mk hgrow; have HRES := Aside0.mk (And.intro hv2 (And.intro hr2 (And.intro hk2 hb2))); clear hv1 hv2 hr2 hk2 hb2 hgrow hown') | fail)
     obtain ⟨e0, e1, e2⟩ := HZE.out
     obtain ⟨hq1, hq2, hq3, hq4⟩ := HRES.out
     have hy1 : Boxed w1 (n1 + 1) 23 (.slice A0 l0.length c0) := (HY1.out.alloc _).kept HGR.out (HY1.out.not_row (by decide) HROW.out)
     have hy2 : Boxed w1 (n1 + 2) 3 (.int .i64 16) := (HY2.out.alloc _).kept HGR.out (HY2.out.not_row (by decide) HROW.out)
     have hy1 := (Below.heap_setCell w1 ⟨n1, 0, none⟩ (Value.slice (some { block := g', off := 0 }) (acc.length + 1) cap') (n1 + 1) (by simp)).trans hy1
     have hy2 := (Below.heap_setCell w1 ⟨n1, 0, none⟩ (Value.slice (some { block := g', off := 0 }) (acc.length + 1) cap') (n1 + 2) (by simp)).trans hy2
     have hbf := (HBZ.out.mono hsW).trans hq4
     refine ⟨(zkeeps_below HBZ.out).trans hq3, ⟨hbf, hy1.trans HX1.out.symm, hy2.trans HX2.out.symm⟩, ⟨acc ++ [ints_Zones.zone ch], _, ⟨?_, fun he => ?_⟩, hq1, ?_, hy1, hy2⟩, HB.out.trans hbf⟩
     ·rw [List.length_append, List.length_append, HP.out.out.1]; rfl
     ·rw [List.map_append, List.length_append, List.length_singleton, List.map_cons, List.map_nil, List.range_succ] at he
      obtain ⟨h3, h4⟩ := List.append_inj' he rfl
      have h5 : x.1 = pre.length := by simpa using h4
      rw [List.length_append, List.length_singleton, List.range_succ, List.map_append, ← HP.out.out.2 h3, ← hchd, h5]
      rfl
     ·rw [List.length_append, List.length_singleton, show zsCells (acc ++ [ints_Zones.zone ch]) = zsCells acc ++ [Value.bool z0_, Value.int IntKind.i64 z1_, Value.int IntKind.i64 z2_] by simp [zsCells, zcells, ← e0, ← e1, ← e2]]
      exact hq2
  case done =>
   rintro D ys W hD hS ⟨⟨acc, v, hp, hv, hR, _, _⟩, hB⟩ hK
   have hyl : ys.length = (l0.length + 15) / 16 := by have := congrArg List.length hS; simpa using this
   have hacc := hp.out.2 (by rw [hyl]; exact hS)
   rw [hyl] at hacc
   have hcv := hv.cell
   have HRR := Aside0.mk hR
   have HB := Aside0.mk hB
   clear hR hB
   gi_wp2
   refine ⟨by simp, .inl ⟨_, _, rfl, run_takeDeferred hK, ?_⟩⟩
   refine ⟨_, results_tmp rfl _ _ _, _, rfl, ?_, ?_⟩
   ·rw [← HH.out]
    have hfull : acc = ints_Zones.all l0 := hacc
    rw [← hfull]
    exact zones_R (ownsRow_putObj HRR.out _ hK rfl)
   ·exact HB.out.trans (belowK_b (w := w) (Nat.le_refl _) W D _ _ (by omega) hK rfl rfl)
end
end Go.Proofs.Ytcjkmmajokkkfaa.P
end
section
namespace Go.Proofs.Ytcjkmmajokkkfaa.P
open Go.RowKit Go.Proofs.YtcjkmmajokkkfaaW.PrintWords Go.Proofs.YtcjkmmajokkkfaaW.PrintLast Go.Proofs.YtcjkmmajokkkfaaW.PrintMore
attribute [local go_sem] max2_int min2_int max_two min_two max_three min_three max_four min_four
set_option linter.unusedVariables false
set_option linter.unusedSimpArgs false
attribute [local go_sem high] eqA42
section
def where_at (t : S38 → Bool) (zs : List S38) (i : Nat) : List Int := ((List.range i).filter (fun (j : Nat) => (rd_T38 zs (j : Int)).f0 && t (rd_T38 zs (j : Int)))).map Int.ofNat
theorem where_succ (t : S38 → Bool) (zs : List S38) (i : Nat) : where_at t zs (i + 1) = if (rd_T38 zs (i : Int)).f0 && t (rd_T38 zs (i : Int)) then where_at t zs i ++ [(i : Int)] else where_at t zs i := by
 unfold where_at
 rw [List.range_succ, List.filter_append, List.map_append]
 by_cases h : ((rd_T38 zs (i : Int)).f0 && t (rd_T38 zs (i : Int))) = true <;> simp [h]
theorem where_len (t : S38 → Bool) (zs : List S38) (i : Nat) : (where_at t zs i).length ≤ i := by
 unfold where_at
 rw [List.length_map]
 exact Nat.le_trans (List.length_filter_le _ _) (by simp)
theorem where_inc {i : Nat} (h : i < 17592186044416) : wrap64 ((i : Int) + 1) = ((i + 1 : Nat) : Int) := by
 unfold wrap64
 omega
def WhereAsk (cf : Nat) (t : S38 → Bool) (B : Nat) (n : Int) : Prop :=
 ∀ (z : S38) (W : World), Boxed W B 3 (.int .i64 n) → Calls Try.prog cf #[.agg #[.bool z.f0, .int .i64 z.f1, .int .i64 z.f2], .pointer (some ⟨B, 0, none⟩)] W fun e W' => e = .returned (.bool (t z)) ∧ Below W.heap.size W W'
theorem below_ask (B : Nat) (n : Int) : WhereAsk 36 (fun z => decide (z.f1 < n)) B n := by
 intro z W hB
 obtain ⟨z0, z1, z2⟩ := z
 have hc := hB.cell
 have hc2 : ∀ o, (W.alloc o).cell? ⟨B, 0, none⟩ = some (.int .i64 n) := fun o => (hB.alloc o).cell
 have hb1 : (W.alloc (Obj.cells #[Value.bool z0, Value.int IntKind.i64 z1, Value.int IntKind.i64 z2] 38)).cell? ⟨W.heap.size, 1, none⟩ = some (.int .i64 z1) := by
  have hb_ := World.alloc_heap_new W (Obj.cells #[Value.bool z0, Value.int IntKind.i64 z1, Value.int IntKind.i64 z2] 38)
  simp only [World.cell?, hb_]
  rfl
 go_enter Try.func36, Try.ntmps36
 go_wp2
 go_ret
 exact ⟨rfl, pbA_ (Below.refl _ _) _⟩
theorem above_ask (B : Nat) (n : Int) : WhereAsk 37 (fun z => decide (z.f2 > n)) B n := by
 intro z W hB
 obtain ⟨z0, z1, z2⟩ := z
 have hc := hB.cell
 have hc2 : ∀ o, (W.alloc o).cell? ⟨B, 0, none⟩ = some (.int .i64 n) := fun o => (hB.alloc o).cell
 have hb1 : (W.alloc (Obj.cells #[Value.bool z0, Value.int IntKind.i64 z1, Value.int IntKind.i64 z2] 38)).cell? ⟨W.heap.size, 2, none⟩ = some (.int .i64 z2) := by
  have hb_ := World.alloc_heap_new W (Obj.cells #[Value.bool z0, Value.int IntKind.i64 z1, Value.int IntKind.i64 z2] 38)
  simp only [World.cell?, hb_]
  rfl
 go_enter Try.func37, Try.ntmps37
 go_wp2
 go_ret
 exact ⟨rfl, pbA_ (Below.refl _ _) _⟩
set_option maxRecDepth 100000 in
set_option maxHeartbeats 4000000 in
theorem where_calls_below (k : Nat) (t : S38 → Bool) (B : Nat) (n : Int) (A0 : Option Addr) (c0 : Nat) (l0 : List S42) (zs : List S38) (w : World)
  (hask : WhereAsk 36 t B n) (hbox : Boxed w B 3 (.int .i64 n)) (hr0 : Kd.C k42 w A0 l0.length l0) (hc0 : l0.length ≤ c0) (h : ints_Zones.f k l0 = some zs) (hz : zs.length ≤ 100000) :
  Calls Try.prog 35 #[.slice A0 l0.length c0, .func (.func 36) #[] #[.pointer (some ⟨B, 0, none⟩)]] w fun e w' => ∃ v0_ : Value, e = .returned (v0_) ∧ Kd.R (Kd.int .i64) 3 w' w.heap.size (fun _ => True) v0_ (where_at t zs zs.length) ∧ Below w.heap.size w w' := by
 have HR0 := Aside0.mk hr0
 have HC0 := Aside0.mk hc0
 have HZ := Aside0.mk h
 have HL := Aside0.mk hz
 have HASK := Aside0.mk hask
 have HBOX := Aside0.mk hbox
 clear hr0 hc0 h hz hask hbox
 go_enter Try.func35, Try.ntmps35
 go_wp2_with (first | (go_at_call 18; (with_reducible refine (ints_Zones.calls k A0 c0 l0 zs w HR0.out HC0.out HZ.out).mono ?_); rintro e w1 ⟨v9, rfl, hR9, hB1⟩; have HR9 := Aside0.mk hR9; have HB1 := Aside0.mk hB1; clear hR9 hB1; obtain ⟨A9, c9, e9⟩ := Kd.R_slice HR9.out; subst e9) | fail)
 obtain ⟨-, hcap9, hC9⟩ := Kd.R_reads' HR9.out
 have HC9 := Aside0.mk hC9
 clear hC9 hcap9
 have hbx1 : Boxed w1 B 3 (.int .i64 n) := (HB1.out.block B HBOX.out.lt).trans HBOX.out
 have HBX1 := Aside0.mk hbx1
 clear hbx1
 go_loopg [5, 11] zs.length (fun gg v5 v11 wr => ∃ (i : Nat), v11 = .int .i64 (i : Int) ∧ Aside0 (i ≤ zs.length ∧ zs.length - i ≤ gg) ∧ Aside0 (Kd.R (Kd.int .i64) 3 wr w1.heap.size (fun _ => True) v5 (where_at t zs i)) ∧ Aside0 (Below w1.heap.size w1 wr))
 case atStart => exact ⟨0, rfl, ⟨Nat.zero_le _, by omega⟩, ⟨Kd.R_nil _ _ _ _ _⟩, ⟨Below.refl _ _⟩⟩
 case round =>
  obtain ⟨i, rfl, HI, HO, HB⟩ := hrel
  by_cases hlt : i < zs.length
  ·have g : decide ((i : Int) < (zs.length : Int)) = true := decide_eq_true (by omega)
   obtain ⟨ad, e, hx0, hx1, hx2⟩ := at_T38 HC9.out (i : Int) (by omega) (by omega)
   subst e
   have hx0 := (HB.out.cell (World.block_lt_of_cell? w1 _ hx0)).trans hx0
   have hx1 := (HB.out.cell (World.block_lt_of_cell? w1 _ hx1)).trans hx1
   have hx2 := (HB.out.cell (World.block_lt_of_cell? w1 _ hx2)).trans hx2
   rw [Int.toNat_natCast] at hx0 hx1 hx2
   have p := eq_true (show (0 : Int) ≤ (i : Int) by omega)
   have q := eq_true (show (i : Int) < (zs.length : Int) by omega)
   have q' := eq_true hlt
   have hs := where_succ t zs i
   obtain ⟨z, hz⟩ : ∃ z, rd_T38 zs (i : Int) = z := ⟨_, rfl⟩
   rw [hz] at hx0 hx1 hx2 hs
   obtain ⟨z0_, z1_, z2_⟩ := z
   dsimp only at hx0 hx1 hx2
   have HS := Aside0.mk hs
   clear hs
   have hbr : Boxed wr B 3 (.int .i64 n) := (HB.out.block B HBX1.out.lt).trans HBX1.out
   have HBR := Aside0.mk hbr
   clear hbr
   have hnew := fun o => World.alloc_heap_new wr o
   have hsw : w1.heap.size ≤ wr.heap.size := HB.out.size
   have hll := where_len t zs i
   have hlz := HL.out
   cases z0_ with
   | false =>
    go_wp2
    go_roundg (zs.length - (i + 1))
    case measure => have := HI.out.2; omega
    case rel => exact ⟨i + 1, by first | rfl | rw [where_inc (by omega)], ⟨hlt, by omega⟩, ⟨by rw [HS.out]; exact Kd.rA_ HO.out _⟩, ⟨pbA_ HB.out _⟩⟩
   | true =>
    obtain ⟨A5, c5, rfl⟩ := Kd.R_slice HO.out
    have hu := Try.underlying39
    cases hb : t ⟨true, z1_, z2_⟩ with
    | false =>
     have hsk := HS.out
     rw [hb] at hsk
     go_wp2_with (first | (go_at_call 36; (have hcl_ := HASK.out ⟨true, z1_, z2_⟩ _ (HBR.out.alloc (Obj.cells #[Value.bool true, Value.int IntKind.i64 z1_, Value.int IntKind.i64 z2_] 38))); rw [hb] at hcl_; (with_reducible refine hcl_.mono ?_); rintro e w2 ⟨rfl, hb2⟩; have HB2 := Aside0.mk (show Below wr.heap.size wr w2 from (pbA_ (Below.refl _ _) _).trans (hb2.mono (by simp))); clear hb2) | fail)
     go_roundg (zs.length - (i + 1))
     case measure => have := HI.out.2; omega
     case rel => exact ⟨i + 1, by first | rfl | rw [where_inc (by omega)], ⟨hlt, by omega⟩, ⟨by rw [hsk]; exact Kd.R_below HO.out HB2.out⟩, ⟨HB.out.trans (HB2.out.mono hsw)⟩⟩
    | true =>
     have hsk := HS.out
     rw [hb] at hsk
     have HS2 := Aside0.mk hsk
     clear hsk
     go_wp2_with (first | (go_at_call 36; (have hcl_ := HASK.out ⟨true, z1_, z2_⟩ _ (HBR.out.alloc (Obj.cells #[Value.bool true, Value.int IntKind.i64 z1_, Value.int IntKind.i64 z2_] 38))); rw [hb] at hcl_; (with_reducible refine hcl_.mono ?_); rintro e w2 ⟨rfl, hb2⟩; have HB2 := Aside0.mk (show Below wr.heap.size wr w2 from (pbA_ (Below.refl _ _) _).trans (hb2.mono (by simp))); clear hb2) | ((with_reducible refine gate_builtin (b := .append) (xs := #[.tmp 23, .tmp 25]) rfl ?_); at_builtin; refine Kd.R_append (Kd.int .i64) (w0 := w1) w1.heap.size rfl (.tmp 23) (.tmp 25) 39 3 (.int .i64 0) 8 rfl hu info3 rfl (by decide) (by omega) (.slice A5 (where_at t zs i).length c5) (where_at t zs i) (i : Int) [.int .i64 (i : Int)] (fun _ => True) (fun _ => False) rfl rfl ?aP (fun _ hk => hk.elim) ?aF ?aO ?aB ?aS ?aL ?_; (case aP => exact rfl); (case aB => exact HB.out.trans (HB2.out.mono hsw)); (case aF => exact (fun _ _ => trivial)); (case aO => exact Kd.R_below HO.out HB2.out); (case aS => have := HB2.out.size; omega); (case aL => omega); intro v1 w3 ho hb3 hg hat; have HO3 := Aside0.mk ho; have HB3 := Aside0.mk hb3; clear ho hb3 hg hat) | fail)
     go_roundg (zs.length - (i + 1))
     case measure => have := HI.out.2; omega
     case rel => exact ⟨i + 1, by first | rfl | rw [where_inc (by omega)], ⟨hlt, by omega⟩, ⟨by rw [HS2.out]; exact HO3.out⟩, ⟨HB3.out⟩⟩
  ·have g : decide ((i : Int) < (zs.length : Int)) = false := decide_eq_false (by omega)
   have he : i = zs.length := by have := HI.out.1; omega
   subst he
   go_wp2
   go_ret
   exact ⟨_, rfl, Kd.R_lower HO.out HB1.out.size, HB1.out.trans (HB.out.mono HB1.out.size)⟩
noncomputable def ints_Below.f (k : Nat) (l0 : List S42) (n : Int) : Option (List Int) := (ints_Zones.f k l0).bind fun zs => if zs.length ≤ 100000 then some (where_at (fun z => decide (z.f1 < n)) zs zs.length) else none
theorem ints_Below.mono : ∀ l n k, LeO (ints_Below.f k l n) (ints_Below.f (k + 1) l n) := by
 intro l n k
 unfold ints_Below.f
 exact LeO.bind (ints_Zones.mono _ _) (fun _ => LeO.refl _)
set_option maxRecDepth 100000 in
set_option maxHeartbeats 4000000 in
theorem ints_Below.calls (k : Nat) (A0 : Option Addr) (c0 : Nat) (l0 : List S42) (a1 : Int) (r : List Int) (w : World) (hr0 : Kd.C k42 w A0 l0.length l0) (hc0 : l0.length ≤ c0) (h : ints_Below.f k l0 a1 = some r) :
  Calls Try.prog 20 #[.slice A0 l0.length c0, .int .i64 a1] w fun e w' => ∃ v0_ : Value, e = .returned (v0_) ∧ Kd.R (Kd.int .i64) 3 w' w.heap.size (fun _ => True) v0_ r ∧ Below w.heap.size w w' := by
 have HR0 := Aside0.mk hr0
 have HC0 := Aside0.mk hc0
 clear hr0 hc0
 unfold ints_Below.f at h
 obtain ⟨zs, hz, h⟩ := Option.bind_eq_some_iff.1 h
 by_cases hlen : zs.length ≤ 100000
 case neg => rw [if_neg hlen] at h; cases h
 rw [if_pos hlen] at h
 have hr := Option.some.inj h
 have HZ := Aside0.mk hz
 have HL := Aside0.mk hlen
 clear h hz hlen
 subst hr
 go_enter Try.func20, Try.ntmps20
 go_wp2_with (first | (go_at_call 35; (with_reducible refine (where_calls_below k (fun z => decide (z.f1 < a1)) w.heap.size a1 A0 c0 l0 zs _ (below_ask _ _) (Boxed.new w 3 (.int .i64 a1)) (Kd.cA_ HR0.out _) HC0.out HZ.out HL.out).mono ?_); rintro e w2 ⟨v2, rfl, hR2, hB2⟩; have HR2 := Aside0.mk hR2; have HB2 := Aside0.mk hB2; clear hR2 hB2) | fail)
 go_ret
 have h1 : w.heap.size ≤ (w.alloc (Obj.cells #[Value.int IntKind.i64 a1] 3)).heap.size := by simp
 exact ⟨_, rfl, Kd.R_lower HR2.out h1, (pbA_ (Below.refl _ _) _).trans (HB2.out.mono h1)⟩
end
section
set_option maxRecDepth 100000 in
set_option maxHeartbeats 4000000 in
theorem where_calls_above (k : Nat) (t : S38 → Bool) (B : Nat) (n : Int) (A0 : Option Addr) (c0 : Nat) (l0 : List S42) (zs : List S38) (w : World)
  (hask : WhereAsk 37 t B n) (hbox : Boxed w B 3 (.int .i64 n)) (hr0 : Kd.C k42 w A0 l0.length l0) (hc0 : l0.length ≤ c0) (h : ints_Zones.f k l0 = some zs) (hz : zs.length ≤ 100000) :
  Calls Try.prog 35 #[.slice A0 l0.length c0, .func (.func 37) #[] #[.pointer (some ⟨B, 0, none⟩)]] w fun e w' => ∃ v0_ : Value, e = .returned (v0_) ∧ Kd.R (Kd.int .i64) 3 w' w.heap.size (fun _ => True) v0_ (where_at t zs zs.length) ∧ Below w.heap.size w w' := by
 have HR0 := Aside0.mk hr0
 have HC0 := Aside0.mk hc0
 have HZ := Aside0.mk h
 have HL := Aside0.mk hz
 have HASK := Aside0.mk hask
 have HBOX := Aside0.mk hbox
 clear hr0 hc0 h hz hask hbox
 go_enter Try.func35, Try.ntmps35
 go_wp2_with (first | (go_at_call 18; (with_reducible refine (ints_Zones.calls k A0 c0 l0 zs w HR0.out HC0.out HZ.out).mono ?_); rintro e w1 ⟨v9, rfl, hR9, hB1⟩; have HR9 := Aside0.mk hR9; have HB1 := Aside0.mk hB1; clear hR9 hB1; obtain ⟨A9, c9, e9⟩ := Kd.R_slice HR9.out; subst e9) | fail)
 obtain ⟨-, hcap9, hC9⟩ := Kd.R_reads' HR9.out
 have HC9 := Aside0.mk hC9
 clear hC9 hcap9
 have hbx1 : Boxed w1 B 3 (.int .i64 n) := (HB1.out.block B HBOX.out.lt).trans HBOX.out
 have HBX1 := Aside0.mk hbx1
 clear hbx1
 go_loopg [5, 11] zs.length (fun gg v5 v11 wr => ∃ (i : Nat), v11 = .int .i64 (i : Int) ∧ Aside0 (i ≤ zs.length ∧ zs.length - i ≤ gg) ∧ Aside0 (Kd.R (Kd.int .i64) 3 wr w1.heap.size (fun _ => True) v5 (where_at t zs i)) ∧ Aside0 (Below w1.heap.size w1 wr))
 case atStart => exact ⟨0, rfl, ⟨Nat.zero_le _, by omega⟩, ⟨Kd.R_nil _ _ _ _ _⟩, ⟨Below.refl _ _⟩⟩
 case round =>
  obtain ⟨i, rfl, HI, HO, HB⟩ := hrel
  by_cases hlt : i < zs.length
  ·have g : decide ((i : Int) < (zs.length : Int)) = true := decide_eq_true (by omega)
   obtain ⟨ad, e, hx0, hx1, hx2⟩ := at_T38 HC9.out (i : Int) (by omega) (by omega)
   subst e
   have hx0 := (HB.out.cell (World.block_lt_of_cell? w1 _ hx0)).trans hx0
   have hx1 := (HB.out.cell (World.block_lt_of_cell? w1 _ hx1)).trans hx1
   have hx2 := (HB.out.cell (World.block_lt_of_cell? w1 _ hx2)).trans hx2
   rw [Int.toNat_natCast] at hx0 hx1 hx2
   have p := eq_true (show (0 : Int) ≤ (i : Int) by omega)
   have q := eq_true (show (i : Int) < (zs.length : Int) by omega)
   have q' := eq_true hlt
   have hs := where_succ t zs i
   obtain ⟨z, hz⟩ : ∃ z, rd_T38 zs (i : Int) = z := ⟨_, rfl⟩
   rw [hz] at hx0 hx1 hx2 hs
   obtain ⟨z0_, z1_, z2_⟩ := z
   dsimp only at hx0 hx1 hx2
   have HS := Aside0.mk hs
   clear hs
   have hbr : Boxed wr B 3 (.int .i64 n) := (HB.out.block B HBX1.out.lt).trans HBX1.out
   have HBR := Aside0.mk hbr
   clear hbr
   have hnew := fun o => World.alloc_heap_new wr o
   have hsw : w1.heap.size ≤ wr.heap.size := HB.out.size
   have hll := where_len t zs i
   have hlz := HL.out
   cases z0_ with
   | false =>
    go_wp2
    go_roundg (zs.length - (i + 1))
    case measure => have := HI.out.2; omega
    case rel => exact ⟨i + 1, by first | rfl | rw [where_inc (by omega)], ⟨hlt, by omega⟩, ⟨by rw [HS.out]; exact Kd.rA_ HO.out _⟩, ⟨pbA_ HB.out _⟩⟩
   | true =>
    obtain ⟨A5, c5, rfl⟩ := Kd.R_slice HO.out
    have hu := Try.underlying39
    cases hb : t ⟨true, z1_, z2_⟩ with
    | false =>
     have hsk := HS.out
     rw [hb] at hsk
     go_wp2_with (first | (go_at_call 37; (have hcl_ := HASK.out ⟨true, z1_, z2_⟩ _ (HBR.out.alloc (Obj.cells #[Value.bool true, Value.int IntKind.i64 z1_, Value.int IntKind.i64 z2_] 38))); rw [hb] at hcl_; (with_reducible refine hcl_.mono ?_); rintro e w2 ⟨rfl, hb2⟩; have HB2 := Aside0.mk (show Below wr.heap.size wr w2 from (pbA_ (Below.refl _ _) _).trans (hb2.mono (by simp))); clear hb2) | fail)
     go_roundg (zs.length - (i + 1))
     case measure => have := HI.out.2; omega
     case rel => exact ⟨i + 1, by first | rfl | rw [where_inc (by omega)], ⟨hlt, by omega⟩, ⟨by rw [hsk]; exact Kd.R_below HO.out HB2.out⟩, ⟨HB.out.trans (HB2.out.mono hsw)⟩⟩
    | true =>
     have hsk := HS.out
     rw [hb] at hsk
     have HS2 := Aside0.mk hsk
     clear hsk
     go_wp2_with (first | (go_at_call 37; (have hcl_ := HASK.out ⟨true, z1_, z2_⟩ _ (HBR.out.alloc (Obj.cells #[Value.bool true, Value.int IntKind.i64 z1_, Value.int IntKind.i64 z2_] 38))); rw [hb] at hcl_; (with_reducible refine hcl_.mono ?_); rintro e w2 ⟨rfl, hb2⟩; have HB2 := Aside0.mk (show Below wr.heap.size wr w2 from (pbA_ (Below.refl _ _) _).trans (hb2.mono (by simp))); clear hb2) | ((with_reducible refine gate_builtin (b := .append) (xs := #[.tmp 23, .tmp 25]) rfl ?_); at_builtin; refine Kd.R_append (Kd.int .i64) (w0 := w1) w1.heap.size rfl (.tmp 23) (.tmp 25) 39 3 (.int .i64 0) 8 rfl hu info3 rfl (by decide) (by omega) (.slice A5 (where_at t zs i).length c5) (where_at t zs i) (i : Int) [.int .i64 (i : Int)] (fun _ => True) (fun _ => False) rfl rfl ?aP (fun _ hk => hk.elim) ?aF ?aO ?aB ?aS ?aL ?_; (case aP => exact rfl); (case aB => exact HB.out.trans (HB2.out.mono hsw)); (case aF => exact (fun _ _ => trivial)); (case aO => exact Kd.R_below HO.out HB2.out); (case aS => have := HB2.out.size; omega); (case aL => omega); intro v1 w3 ho hb3 hg hat; have HO3 := Aside0.mk ho; have HB3 := Aside0.mk hb3; clear ho hb3 hg hat) | fail)
     go_roundg (zs.length - (i + 1))
     case measure => have := HI.out.2; omega
     case rel => exact ⟨i + 1, by first | rfl | rw [where_inc (by omega)], ⟨hlt, by omega⟩, ⟨by rw [HS2.out]; exact HO3.out⟩, ⟨HB3.out⟩⟩
  ·have g : decide ((i : Int) < (zs.length : Int)) = false := decide_eq_false (by omega)
   have he : i = zs.length := by have := HI.out.1; omega
   subst he
   go_wp2
   go_ret
   exact ⟨_, rfl, Kd.R_lower HO.out HB1.out.size, HB1.out.trans (HB.out.mono HB1.out.size)⟩
noncomputable def ints_Above.f (k : Nat) (l0 : List S42) (n : Int) : Option (List Int) := (ints_Zones.f k l0).bind fun zs => if zs.length ≤ 100000 then some (where_at (fun z => decide (z.f2 > n)) zs zs.length) else none
theorem ints_Above.mono : ∀ l n k, LeO (ints_Above.f k l n) (ints_Above.f (k + 1) l n) := by
 intro l n k
 unfold ints_Above.f
 exact LeO.bind (ints_Zones.mono _ _) (fun _ => LeO.refl _)
set_option maxRecDepth 100000 in
set_option maxHeartbeats 4000000 in
theorem ints_Above.calls (k : Nat) (A0 : Option Addr) (c0 : Nat) (l0 : List S42) (a1 : Int) (r : List Int) (w : World) (hr0 : Kd.C k42 w A0 l0.length l0) (hc0 : l0.length ≤ c0) (h : ints_Above.f k l0 a1 = some r) :
  Calls Try.prog 21 #[.slice A0 l0.length c0, .int .i64 a1] w fun e w' => ∃ v0_ : Value, e = .returned (v0_) ∧ Kd.R (Kd.int .i64) 3 w' w.heap.size (fun _ => True) v0_ r ∧ Below w.heap.size w w' := by
 have HR0 := Aside0.mk hr0
 have HC0 := Aside0.mk hc0
 clear hr0 hc0
 unfold ints_Above.f at h
 obtain ⟨zs, hz, h⟩ := Option.bind_eq_some_iff.1 h
 by_cases hlen : zs.length ≤ 100000
 case neg => rw [if_neg hlen] at h; cases h
 rw [if_pos hlen] at h
 have hr := Option.some.inj h
 have HZ := Aside0.mk hz
 have HL := Aside0.mk hlen
 clear h hz hlen
 subst hr
 go_enter Try.func21, Try.ntmps21
 go_wp2_with (first | (go_at_call 35; (with_reducible refine (where_calls_above k (fun z => decide (z.f2 > a1)) w.heap.size a1 A0 c0 l0 zs _ (above_ask _ _) (Boxed.new w 3 (.int .i64 a1)) (Kd.cA_ HR0.out _) HC0.out HZ.out HL.out).mono ?_); rintro e w2 ⟨v2, rfl, hR2, hB2⟩; have HR2 := Aside0.mk hR2; have HB2 := Aside0.mk hB2; clear hR2 hB2) | fail)
 go_ret
 have h1 : w.heap.size ≤ (w.alloc (Obj.cells #[Value.int IntKind.i64 a1] 3)).heap.size := by simp
 exact ⟨_, rfl, Kd.R_lower HR2.out h1, (pbA_ (Below.refl _ _) _).trans (HB2.out.mono h1)⟩
end
noncomputable def dragnetref09_Ints.l0 : Nat → List Int → List Int → Int → Option (Bool)
 | 0, _, _, _ => none
 | k + 1, x0, x1, x5 => if x5 < (x0.length : Int) then (if 0 ≤ x5 then (if x5 < (x1.length : Int) then (if (rd x0 x5) = (rd x1 x5) then (dragnetref09_Ints.l0 k x0 x1 (wrap64 (x5 + 1))) else (some false)) else (none)) else (none)) else (some true)
noncomputable def dragnetref09_Ints.f (k : Nat) (l0 : List Int) (l1 : List Int) : Option (Bool) := if (l0.length : Int) = (l1.length : Int) then (dragnetref09_Ints.l0 k l0 l1 0) else (some false)
theorem dragnetref09_Ints.mono_l : ∀ k, (∀ y0 y1 y2, LeO (dragnetref09_Ints.l0 k y0 y1 y2) (dragnetref09_Ints.l0 (k + 1) y0 y1 y2))
 | 0 => fun _ _ _ r h => by simp [dragnetref09_Ints.l0] at h
 | k + 1 => by
  have ih0 := dragnetref09_Ints.mono_l k
  ·intro y0 y1 y2
   unfold dragnetref09_Ints.l0
   repeat' first
   | (with_reducible exact ih0 _ _ _)
   | (with_reducible exact LeO.refl _)
   | (with_reducible exact LeO.none _)
   | (with_reducible refine LeO.ite ?_ ?_)
   | (with_reducible refine LeO.bind ?_ (fun _ => ?_))
   | exact ih0 _ _ _
   | exact LeO.none _
   | refine LeO.ite ?_ ?_
   | refine LeO.bind ?_ (fun _ => ?_)
theorem dragnetref09_Ints.mono : ∀ a0 a1 k, LeO (dragnetref09_Ints.f k a0 a1) (dragnetref09_Ints.f (k + 1) a0 a1) := by
 intro a0 a1 k
 have ih0 := dragnetref09_Ints.mono_l k
 unfold dragnetref09_Ints.f
 repeat' first
   | (with_reducible exact ih0 _ _ _)
   | (with_reducible exact LeO.refl _)
   | (with_reducible exact LeO.none _)
   | (with_reducible refine LeO.ite ?_ ?_)
   | (with_reducible refine LeO.bind ?_ (fun _ => ?_))
   | exact ih0 _ _ _
   | exact LeO.none _
   | refine LeO.ite ?_ ?_
   | refine LeO.bind ?_ (fun _ => ?_)
set_option maxHeartbeats 8000000 in
set_option maxRecDepth 100000 in
theorem dragnetref09_Ints.calls (k : Nat) (A0 : Option Addr) (c0 : Nat) (l0 : List Int) (A1 : Option Addr) (c1 : Nat) (l1 : List Int) (r : Bool) (w : World) (hr0 : Kd.C (Kd.int .i64) w A0 l0.length l0) (hc0 : l0.length ≤ c0) (hr1 : Kd.C (Kd.int .i64) w A1 l1.length l1) (hc1 : l1.length ≤ c1) (h : dragnetref09_Ints.f k l0 l1 = some r) :
  Calls Try.prog 22 #[.slice A0 l0.length c0, .slice A1 l1.length c1] w fun e w' => e = .returned (.bool r) ∧ Drawn0 w w' := by
 have HR0 := Aside0.mk hr0
 have HC0 := Aside0.mk hc0
 clear hr0 hc0
 have HR1 := Aside0.mk hr1
 have HC1 := Aside0.mk hc1
 clear hr1 hc1
 have H : (if (l0.length : Int) = (l1.length : Int) then (dragnetref09_Ints.l0 k l0 l1 0) else (some false)) = some r := h
 clear h
 by_cases c3 : (l0.length : Int) = (l1.length : Int)
 ·rw [if_pos c3] at H
  have c3b0 : ((l0.length : Int) == (l1.length : Int)) = true := beq_iff_eq.mpr c3
  have c3b1 : ((l0.length : Int) != (l1.length : Int)) = false := bne_eq_false_iff_eq.mpr c3
  have c3b2 : (l0.length == l1.length) = true := by first | simpa using c3 | (simp at c3 ⊢; omega)
  clear c3
  have H' := Aside0.mk H
  clear H
  go_enter Try.func22, Try.ntmps22
  go_wp2
  repeat (go_quiet (fail); try go_wp2)
  go_loopg [5] k (fun kq v5 w' => ∃ (x5_1 : Int), v5 = .int .i64 x5_1 ∧ Aside0 (dragnetref09_Ints.l0 kq l0 l1 x5_1 = some r) ∧ Aside0 (kq ≤ k) ∧ Drawn0 w w')
  case atStart => exact ⟨(0), (by first | rfl | (simp; done) | (simp [*]; done)), H', ⟨Nat.le_refl _⟩, by repeat (first | exact Drawn0.refl _ | apply Drawn0.step)⟩
  case round =>
   clear H'
   try clear c1
   try clear c2
   try clear p2
   try clear c3
   try clear c3b0
   try clear c3b1
   try clear c3b2
   obtain ⟨x5_1, rfl, HA, HK1, ⟨m1, rfl⟩⟩ := hrel
   cases gk with
   | zero => exact absurd HA.out (by simp [dragnetref09_Ints.l0])
   | succ k1 =>
    have H := HA.out
    clear HA
    simp only [dragnetref09_Ints.l0] at H
    by_cases c4 : x5_1 < (l0.length : Int)
    ·rw [if_pos c4] at H
     have c4b0 : decide (x5_1 < (l0.length : Int)) = true := decide_eq_true c4
     clear c4
     by_cases c5 : 0 ≤ x5_1
     ·rw [if_pos c5] at H
      have c5b0 : decide (0 ≤ x5_1) = true := decide_eq_true c5
      clear c5
      by_cases c6 : x5_1 < (l1.length : Int)
      ·rw [if_pos c6] at H
       have c6b0 : decide (x5_1 < (l1.length : Int)) = true := decide_eq_true c6
       clear c6
       by_cases c7 : (rd l0 x5_1) = (rd l1 x5_1)
       ·rw [if_pos c7] at H
        have c7b0 : ((rd l0 x5_1) == (rd l1 x5_1)) = true := beq_iff_eq.mpr c7
        have c7b1 : ((rd l0 x5_1) != (rd l1 x5_1)) = false := bne_eq_false_iff_eq.mpr c7
        clear c7
        have H' := Aside0.mk H
        clear H
        have p229 : 0 ≤ (x5_1 : Int) := of_decide_eq_true (by first | (with_reducible assumption) | assumption)
        have q229 : x5_1 < (l0.length : Int) := of_decide_eq_true (by first | (with_reducible assumption) | assumption)
        obtain ⟨ad229, e229, hx229_0⟩ := Kd.at_int HR0.out x5_1 p229 q229
        cases e229
        replace p229 := eq_true p229
        replace q229 := eq_true q229
        have p230 : 0 ≤ (x5_1 : Int) := of_decide_eq_true (by first | (with_reducible assumption) | assumption)
        have q230 : x5_1 < (l1.length : Int) := of_decide_eq_true (by first | (with_reducible assumption) | assumption)
        obtain ⟨ad230, e230, hx230_0⟩ := Kd.at_int HR1.out x5_1 p230 q230
        cases e230
        replace p230 := eq_true p230
        replace q230 := eq_true q230
        go_wp2
        repeat (go_quiet (fail); try go_wp2)
        go_roundg k1
        case measure => have := HK1.out; omega
        case rel => exact ⟨(wrap64 (x5_1 + 1)), (by first | rfl | (simp; done) | (simp [*]; done)), H', ⟨by have := HK1.out; omega⟩, by repeat (first | exact Drawn0.refl _ | apply Drawn0.step)⟩
       ·rw [if_neg c7] at H
        have c7b0 : ((rd l0 x5_1) == (rd l1 x5_1)) = false := beq_eq_false_iff_ne.mpr c7
        have c7b1 : ((rd l0 x5_1) != (rd l1 x5_1)) = true := bne_iff_ne.mpr c7
        obtain rfl := Option.some.inj H
        have p229 : 0 ≤ (x5_1 : Int) := of_decide_eq_true (by first | (with_reducible assumption) | assumption)
        have q229 : x5_1 < (l0.length : Int) := of_decide_eq_true (by first | (with_reducible assumption) | assumption)
        obtain ⟨ad229, e229, hx229_0⟩ := Kd.at_int HR0.out x5_1 p229 q229
        cases e229
        replace p229 := eq_true p229
        replace q229 := eq_true q229
        have p230 : 0 ≤ (x5_1 : Int) := of_decide_eq_true (by first | (with_reducible assumption) | assumption)
        have q230 : x5_1 < (l1.length : Int) := of_decide_eq_true (by first | (with_reducible assumption) | assumption)
        obtain ⟨ad230, e230, hx230_0⟩ := Kd.at_int HR1.out x5_1 p230 q230
        cases e230
        replace p230 := eq_true p230
        replace q230 := eq_true q230
        go_wp2
        repeat (go_quiet (fail); try go_wp2)
        go_ret
        exact ⟨by first | rfl | (simp; done) | (simp [*]; done), by repeat (first | exact Drawn0.refl _ | apply Drawn0.step)⟩
      ·rw [if_neg c6] at H
       exact absurd H (by simp)
     ·rw [if_neg c5] at H
      exact absurd H (by simp)
    ·rw [if_neg c4] at H
     have c4b0 : decide (x5_1 < (l0.length : Int)) = false := decide_eq_false c4
     clear c4
     obtain rfl := Option.some.inj H
     go_wp2
     repeat (go_quiet (fail); try go_wp2)
     go_ret
     exact ⟨by first | rfl | (simp; done) | (simp [*]; done), by repeat (first | exact Drawn0.refl _ | apply Drawn0.step)⟩
 ·rw [if_neg c3] at H
  have c3b0 : ((l0.length : Int) == (l1.length : Int)) = false := beq_eq_false_iff_ne.mpr c3
  have c3b1 : ((l0.length : Int) != (l1.length : Int)) = true := bne_iff_ne.mpr c3
  have c3b2 : (l0.length == l1.length) = false := by first | simpa using c3 | (simp at c3 ⊢; omega)
  obtain rfl := Option.some.inj H
  go_enter Try.func22, Try.ntmps22
  go_wp2
  repeat (go_quiet (fail); try go_wp2)
  go_ret
  exact ⟨by first | rfl | (simp; done) | (simp [*]; done), by repeat (first | exact Drawn0.refl _ | apply Drawn0.step)⟩
noncomputable def dragnetlaw10_alive.f (k : Nat)  : Option (Bool) := (some (([(⟨true, 5⟩ : S42), (⟨false, 0⟩ : S42), (⟨true, 7⟩ : S42)] : List (S42)) : List (S42))).bind fun y231 => ((ints_Put.f k ([] : List Int) y231).bind fun bt234 => (if bt234.2 = 0 then (if (bt234.1.length : Int) > 2 then (if 0 < (bt234.1.length : Int) then (if (rd bt234.1 0) = 3 then (if 1 < (bt234.1.length : Int) then (if (rd bt234.1 1) = 5 then ((ints_Below.f k y231 6).bind fun t240 => ((dragnetref09_Ints.f k t240 (([0] : List Int))).bind fun t246 => (if t246 = true then ((ints_Above.f k y231 7).bind fun t247 => (some ((t247.length : Int) == 0))) else (some false)))) else (some false)) else (none)) else (some false)) else (none)) else (some false)) else (some false)))
theorem dragnetlaw10_alive.mono : ∀ k, LeO (dragnetlaw10_alive.f k ) (dragnetlaw10_alive.f (k + 1) ) := by
 intro  k
 unfold dragnetlaw10_alive.f
 repeat' first
   | (with_reducible exact dragnetref09_Ints.mono _ _ _)
   | (with_reducible exact ints_Above.mono _ _ _)
   | (with_reducible exact ints_Below.mono _ _ _)
   | (with_reducible exact ints_Put.mono _ _ _)
   | (with_reducible exact LeO.refl _)
   | (with_reducible exact LeO.none _)
   | (with_reducible refine LeO.ite ?_ ?_)
   | (with_reducible refine LeO.bind ?_ (fun _ => ?_))
   | exact dragnetref09_Ints.mono _ _ _
   | exact ints_Above.mono _ _ _
   | exact ints_Below.mono _ _ _
   | exact ints_Put.mono _ _ _
   | exact LeO.none _
   | refine LeO.ite ?_ ?_
   | refine LeO.bind ?_ (fun _ => ?_)
set_option maxHeartbeats 8000000 in
set_option maxRecDepth 100000 in
theorem dragnetlaw10_alive.calls (k : Nat)  (r : Bool) (w : World) (h : dragnetlaw10_alive.f k  = some r) :
  Calls Try.prog 9 #[] w fun e w' => e = .returned (.bool r) ∧ Below w.heap.size w w' := by
 have hu42 := Try.underlying42
 have HB := Aside0.mk (Below.refl w.heap.size w)
 have H : ((some (([(⟨true, 5⟩ : S42), (⟨false, 0⟩ : S42), (⟨true, 7⟩ : S42)] : List (S42)) : List (S42))).bind fun y231 => ((ints_Put.f k ([] : List Int) y231).bind fun bt234 => (if bt234.2 = 0 then (if (bt234.1.length : Int) > 2 then (if 0 < (bt234.1.length : Int) then (if (rd bt234.1 0) = 3 then (if 1 < (bt234.1.length : Int) then (if (rd bt234.1 1) = 5 then ((ints_Below.f k y231 6).bind fun t240 => ((dragnetref09_Ints.f k t240 (([0] : List Int))).bind fun t246 => (if t246 = true then ((ints_Above.f k y231 7).bind fun t247 => (some ((t247.length : Int) == 0))) else (some false)))) else (some false)) else (none)) else (some false)) else (none)) else (some false)) else (some false)))) = some r := h
 clear h
 obtain ⟨y231, hy231⟩ : ∃ y_ : List (S42), y_ = (([(⟨true, 5⟩ : S42), (⟨false, 0⟩ : S42), (⟨true, 7⟩ : S42)] : List (S42))) := ⟨_, rfl⟩
 replace H : ((ints_Put.f k ([] : List Int) y231).bind fun bt234 => (if bt234.2 = 0 then (if (bt234.1.length : Int) > 2 then (if 0 < (bt234.1.length : Int) then (if (rd bt234.1 0) = 3 then (if 1 < (bt234.1.length : Int) then (if (rd bt234.1 1) = 5 then ((ints_Below.f k y231 6).bind fun t240 => ((dragnetref09_Ints.f k t240 (([0] : List Int))).bind fun t246 => (if t246 = true then ((ints_Above.f k y231 7).bind fun t247 => (some ((t247.length : Int) == 0))) else (some false)))) else (some false)) else (none)) else (some false)) else (none)) else (some false)) else (some false))) = some r := by first | (rw [hy231]; with_reducible exact H) | (have H2_ := (Option.bind_some _ _).symm.trans H; rw [hy231]; with_reducible exact H2_) | (have H2_ := (Option.bind_some _ _).symm.trans H; with_reducible exact H2_) | with_reducible exact H | (rw [hy231]; exact H) | exact H
 have Ny231 := Aside0.mk hy231
 clear hy231
 replace H := Option.bind_eq_some_iff.mp H
 obtain ⟨⟨t234, t235⟩, A10, H⟩ := H
 replace H : (if t235 = 0 then (if (t234.length : Int) > 2 then (if 0 < (t234.length : Int) then (if (rd t234 0) = 3 then (if 1 < (t234.length : Int) then (if (rd t234 1) = 5 then ((ints_Below.f k y231 6).bind fun t240 => ((dragnetref09_Ints.f k t240 (([0] : List Int))).bind fun t246 => (if t246 = true then ((ints_Above.f k y231 7).bind fun t247 => (some ((t247.length : Int) == 0))) else (some false)))) else (some false)) else (none)) else (some false)) else (none)) else (some false)) else (some false)) = some r := H
 have A1 := Aside0.mk A10
 clear A10
 by_cases c2 : t235 = 0
 ·rw [if_pos c2] at H
  have c2b0 : (t235 == 0) = true := beq_iff_eq.mpr c2
  have c2b1 : (t235 != 0) = false := bne_eq_false_iff_eq.mpr c2
  clear c2
  by_cases c3 : (t234.length : Int) > 2
  ·rw [if_pos c3] at H
   have c3b0 : decide (2 < (t234.length : Int)) = true := decide_eq_true c3
   have c3b1 : decide (2 < t234.length) = true := decide_eq_true (by omega)
   clear c3
   by_cases c4 : 0 < (t234.length : Int)
   ·rw [if_pos c4] at H
    have c4b0 : decide (0 < (t234.length : Int)) = true := decide_eq_true c4
    have c4b1 : decide (0 < t234.length) = true := decide_eq_true (by omega)
    clear c4
    by_cases c5 : (rd t234 0) = 3
    ·rw [if_pos c5] at H
     have c5b0 : ((rd t234 0) == 3) = true := beq_iff_eq.mpr c5
     have c5b1 : ((rd t234 0) != 3) = false := bne_eq_false_iff_eq.mpr c5
     clear c5
     by_cases c6 : 1 < (t234.length : Int)
     ·rw [if_pos c6] at H
      have c6b0 : decide (1 < (t234.length : Int)) = true := decide_eq_true c6
      have c6b1 : decide (1 < t234.length) = true := decide_eq_true (by omega)
      clear c6
      by_cases c7 : (rd t234 1) = 5
      ·rw [if_pos c7] at H
       have c7b0 : ((rd t234 1) == 5) = true := beq_iff_eq.mpr c7
       have c7b1 : ((rd t234 1) != 5) = false := bne_eq_false_iff_eq.mpr c7
       clear c7
       replace H := Option.bind_eq_some_iff.mp H
       obtain ⟨t240, A80, H⟩ := H
       replace H : ((dragnetref09_Ints.f k t240 (([0] : List Int))).bind fun t246 => (if t246 = true then ((ints_Above.f k y231 7).bind fun t247 => (some ((t247.length : Int) == 0))) else (some false))) = some r := H
       have A8 := Aside0.mk A80
       clear A80
       obtain ⟨y243, hy243⟩ : ∃ y_ : List Int, y_ = (([0] : List Int)) := ⟨_, rfl⟩
       replace H : ((dragnetref09_Ints.f k t240 y243).bind fun t246 => (if t246 = true then ((ints_Above.f k y231 7).bind fun t247 => (some ((t247.length : Int) == 0))) else (some false))) = some r := by first | (rw [hy243]; with_reducible exact H) | (have H2_ := (Option.bind_some _ _).symm.trans H; rw [hy243]; with_reducible exact H2_) | (have H2_ := (Option.bind_some _ _).symm.trans H; with_reducible exact H2_) | with_reducible exact H | (rw [hy243]; exact H) | exact H
       have Ny243 := Aside0.mk hy243
       clear hy243
       replace H := Option.bind_eq_some_iff.mp H
       obtain ⟨t246, A90, H⟩ := H
       replace H : (if t246 = true then ((ints_Above.f k y231 7).bind fun t247 => (some ((t247.length : Int) == 0))) else (some false)) = some r := H
       have A9 := Aside0.mk A90
       clear A90
       by_cases c10 : t246 = true
       ·subst c10
        have H1 : ((ints_Above.f k y231 7).bind fun t247 => (some ((t247.length : Int) == 0))) = some r := by rw [if_pos rfl] at H; exact H
        clear H
        have H := H1
        clear H1
        replace H := Option.bind_eq_some_iff.mp H
        obtain ⟨t247, A110, H⟩ := H
        replace H : (some ((t247.length : Int) == 0)) = some r := H
        have A11 := Aside0.mk A110
        clear A110
        obtain rfl := Option.some.inj H
        go_enter Try.func9, Try.ntmps9
        go_wp2_with (first | ((with_reducible refine gate_dst (N := 7) rfl ?_); (try (refine gate_guard (by rfl) ?_; dsimp only)); refine Kd.R_lit k42 _ 42 ?hg (N := 7) ?hd (xs := ([(⟨true, 5⟩ : S42), (⟨false, 0⟩ : S42), (⟨true, 7⟩ : S42)] : List (S42))) (inner := [.bool true, .int .i64 5, .bool false, .int .i64 0, .bool true, .int .i64 7]) (ok := fun _ => True) (okp := fun _ => True) ?hr ?hp (fun _ hk => hk) trivial (Below.refl _ _) (Nat.le_refl _) (by simp) ?_; (case hd => rfl); (case hg => rfl); (case hr => first | (go_simp; done) | (go_simp; rfl)); (case hp => exact (Reps.c2 (show Kd.M k42 _ _ _ (⟨true, 5⟩ : S42) [.bool true, .int .i64 5] from (k42_mkM _ _ _ (⟨true, 5⟩ : S42) )) (Reps.c2 (show Kd.M k42 _ _ _ (⟨false, 0⟩ : S42) [.bool false, .int .i64 0] from (k42_mkM _ _ _ (⟨false, 0⟩ : S42) )) (Reps.c2 (show Kd.M k42 _ _ _ (⟨true, 7⟩ : S42) [.bool true, .int .i64 7] from (k42_mkM _ _ _ (⟨true, 7⟩ : S42) )) (Reps.none _ _))))); intro v232 w12 ho13 hb hg_ hnew_; clear hg_ hnew_; (first | rw [← Ny231.out] at ho13 | (simp only [Int.reduceToNat] at ho13; rw [← Ny231.out] at ho13)); have n0_ := Aside0.mk (Kd.R_lower ho13 (pbS_ (by repeat (first | (with_reducible first | exact HB.out | apply pbA_ | apply pbN_ | apply pb1_) | exact HB.out)))); have n1_ := Aside0.mk (below_step (by repeat (first | (with_reducible first | exact HB.out | apply pbA_ | apply pbN_ | apply pb1_) | exact HB.out)) hb); clear HB; have HO233 := n0_; have HB := n1_; clear n0_ n1_; clear hb ho13; obtain ⟨Ao14, co14, eo14⟩ := Kd.R_slice HO233.out; subst eo14) | ((with_reducible refine gaC_ (f := 12) rfl ?_); refine goesL_ (some 10) rfl rfl Try.func12 (by kernel_rfl) rfl #[.slice none 0 0, .slice Ao14 y231.length co14] rfl (by (try simp only [List.map_toArray, List.map_cons, List.map_nil]); first | done | rfl | (simp only [List.length_drop, List.length_take]; rfl)) ?_; (refine (ints_Put.calls k _ _ ([] : List Int) _ _ y231 t234 t235 _ ?side1 ?side2 ?side3 ?side4 A1.out).mono ?_); (case side1 => exact Kd.C_nil _ _); (case side2 => exact Nat.le_refl _); (case side3 => repeat (first | exact (Kd.R_reads' HO233.out).2.2 | (with_reducible refine Kd.cA_ ?_ _) | (with_reducible refine Kd.cN_ ?_ _) | (with_reducible refine Kd.cD_ ?_))); (case side4 => exact (Kd.R_reads' HO233.out).2.1); rintro e w15 ⟨v236, rfl, ho0, hb⟩; refine ⟨_, rfl, ?_⟩; have n0_ := Aside0.mk (Kd.R_below (by (with_reducible repeat (first | apply Kd.rA_ | apply Kd.rN_ | apply Kd.rD_)); exact HO233.out) hb); have n1_ := Aside0.mk (Kd.R_lower ho0 (pbS_ (by repeat (first | (with_reducible first | exact HB.out | apply pbA_ | apply pbN_ | apply pb1_) | exact HB.out)))); have n2_ := Aside0.mk (below_step (by repeat (first | (with_reducible first | exact HB.out | apply pbA_ | apply pbN_ | apply pb1_) | exact HB.out)) hb); clear HO233; clear HB; have HO233 := n0_; have HO237 := n1_; have HB := n2_; clear n0_ n1_ n2_; (try clear hb); (try clear hb2); (try clear hk); (try clear hi); (try clear ho0); obtain ⟨Ao16, co16, eo16⟩ := Kd.R_slice HO237.out; subst eo16; have p238 : 0 ≤ (0 : Int) := (by omega); have q238 : 0 < (t234.length : Int) := of_decide_eq_true (by first | (with_reducible assumption) | assumption); obtain ⟨ad238, e238, hx238_0⟩ := Kd.at_int (Kd.R_reads' HO237.out).2.2 0 p238 q238; cases e238; have qi238 : (0 < t234.length) = True := eq_true (by omega); (try rw [show ((0 : Int)).toNat = 0 from rfl] at hx238_0); (try rw [Addr.add_zero'] at hx238_0); replace p238 := eq_true p238; replace q238 := eq_true q238; have p239 : 0 ≤ (1 : Int) := (by omega); have q239 : 1 < (t234.length : Int) := of_decide_eq_true (by first | (with_reducible assumption) | assumption); obtain ⟨ad239, e239, hx239_0⟩ := Kd.at_int (Kd.R_reads' HO237.out).2.2 1 p239 q239; obtain rfl : ad238 = ad239 := (by injection e239); (try simp only [show (1 : Int).toNat = 1 from rfl, Nat.reduceMul, Nat.reduceEqDiff, Go.Addr.add, ↓reduceIte] at hx239_0); have qi239 : (1 < t234.length) = True := eq_true (by omega); (try rw [show ((1 : Int)).toNat = 1 from rfl] at hx239_0); replace p239 := eq_true p239; replace q239 := eq_true q239) | (go_at_call 20; (with_reducible refine (ints_Below.calls k _ _ y231 6 t240 _ ?side1 ?side2 A8.out).mono ?_); (case side1 => repeat (first | exact (Kd.R_reads' HO233.out).2.2 | (with_reducible refine Kd.cA_ ?_ _) | (with_reducible refine Kd.cN_ ?_ _) | (with_reducible refine Kd.cD_ ?_))); (case side2 => exact (Kd.R_reads' HO233.out).2.1); rintro e w17 ⟨v241, rfl, ho0, hb⟩; have n0_ := Aside0.mk (Kd.R_below (by (with_reducible repeat (first | apply Kd.rA_ | apply Kd.rN_ | apply Kd.rD_)); exact HO233.out) hb); have n1_ := Aside0.mk (Kd.R_below (by (with_reducible repeat (first | apply Kd.rA_ | apply Kd.rN_ | apply Kd.rD_)); exact HO237.out) hb); have n2_ := Aside0.mk (Kd.R_lower ho0 (pbS_ (by repeat (first | (with_reducible first | exact HB.out | apply pbA_ | apply pbN_ | apply pb1_) | exact HB.out)))); have n3_ := Aside0.mk (below_step (by repeat (first | (with_reducible first | exact HB.out | apply pbA_ | apply pbN_ | apply pb1_) | exact HB.out)) hb); clear HO233; clear HO237; clear HB; have HO233 := n0_; have HO237 := n1_; have HO242 := n2_; have HB := n3_; clear n0_ n1_ n2_ n3_; (try clear hb); (try clear hb2); (try clear hk); (try clear hi); (try clear ho0)) | ((with_reducible refine gate_dst (N := 35) rfl ?_); (try (refine gate_guard (by rfl) ?_; dsimp only)); refine Kd.R_lit (Kd.int .i64) _ 3 ?hg (N := 35) ?hd (xs := ([0] : List Int)) (inner := [.int .i64 0]) (ok := fun _ => True) (okp := fun _ => True) ?hr ?hp (fun _ hk => hk) trivial (Below.refl _ _) (Nat.le_refl _) (by simp) ?_; (case hd => rfl); (case hg => rfl); (case hr => first | (go_simp; done) | (go_simp; rfl)); (case hp => exact (Reps.one (show Kd.M (Kd.int .i64) _ _ _ 0 [.int .i64 0] from rfl) (Reps.none _ _))); intro v244 w18 ho19 hb hg_ hnew_; clear hg_ hnew_; (first | rw [← Ny243.out] at ho19 | (simp only [Int.reduceToNat] at ho19; rw [← Ny243.out] at ho19)); have n0_ := Aside0.mk (Kd.R_below (by (with_reducible repeat (first | apply Kd.rA_ | apply Kd.rN_ | apply Kd.rD_)); exact HO233.out) hb); have n1_ := Aside0.mk (Kd.R_below (by (with_reducible repeat (first | apply Kd.rA_ | apply Kd.rN_ | apply Kd.rD_)); exact HO237.out) hb); have n2_ := Aside0.mk (Kd.R_elder' (by (with_reducible repeat (first | apply Kd.rA_ | apply Kd.rN_ | apply Kd.rD_)); exact HO242.out) (Kd.R_base ho19) hb); have n3_ := Aside0.mk (Kd.R_lower (Kd.R_new' ho19 (Kd.R_lt (by (with_reducible repeat (first | apply Kd.rA_ | apply Kd.rN_ | apply Kd.rD_)); exact HO242.out))) (pbS_ (by repeat (first | (with_reducible first | exact HB.out | apply pbA_ | apply pbN_ | apply pb1_) | exact HB.out)))); have n4_ := Aside0.mk (below_step (by repeat (first | (with_reducible first | exact HB.out | apply pbA_ | apply pbN_ | apply pb1_) | exact HB.out)) hb); clear HO233; clear HO237; clear HO242; clear HB; have HO233 := n0_; have HO237 := n1_; have HO242 := n2_; have HO245 := n3_; have HB := n4_; clear n0_ n1_ n2_ n3_ n4_; clear hb ho19; obtain ⟨Ao20, co20, eo20⟩ := Kd.R_slice HO242.out; subst eo20; obtain ⟨Ao21, co21, eo21⟩ := Kd.R_slice HO245.out; subst eo21) | (go_at_call 22; (with_reducible refine (dragnetref09_Ints.calls k _ _ t240 _ _ y243 true _ ?side1 ?side2 ?side3 ?side4 A9.out).mono ?_); (case side1 => repeat (first | exact (Kd.R_reads' HO242.out).2.2 | (with_reducible refine Kd.cA_ ?_ _) | (with_reducible refine Kd.cN_ ?_ _) | (with_reducible refine Kd.cD_ ?_))); (case side2 => exact (Kd.R_reads' HO242.out).2.1); (case side3 => repeat (first | exact (Kd.R_reads' HO245.out).2.2 | (with_reducible refine Kd.cA_ ?_ _) | (with_reducible refine Kd.cN_ ?_ _) | (with_reducible refine Kd.cD_ ?_))); (case side4 => exact (Kd.R_reads' HO245.out).2.1); rintro e w' ⟨rfl, ⟨nd, rfl⟩⟩) | (go_at_call 21; (with_reducible refine (ints_Above.calls k _ _ y231 7 t247 _ ?side1 ?side2 A11.out).mono ?_); (case side1 => repeat (first | exact (Kd.R_reads' HO233.out).2.2 | (with_reducible refine Kd.cA_ ?_ _) | (with_reducible refine Kd.cN_ ?_ _) | (with_reducible refine Kd.cD_ ?_))); (case side2 => exact (Kd.R_reads' HO233.out).2.1); rintro e w22 ⟨v248, rfl, ho0, hb⟩; have n0_ := Aside0.mk (Kd.R_below (by (with_reducible repeat (first | apply Kd.rA_ | apply Kd.rN_ | apply Kd.rD_)); exact HO233.out) hb); have n1_ := Aside0.mk (Kd.R_below (by (with_reducible repeat (first | apply Kd.rA_ | apply Kd.rN_ | apply Kd.rD_)); exact HO237.out) hb); have n2_ := Aside0.mk (Kd.R_elder' (by (with_reducible repeat (first | apply Kd.rA_ | apply Kd.rN_ | apply Kd.rD_)); exact HO242.out) (Kd.R_base ho0) hb); have n3_ := Aside0.mk (Kd.R_elder' (by (with_reducible repeat (first | apply Kd.rA_ | apply Kd.rN_ | apply Kd.rD_)); exact HO245.out) (Kd.R_base ho0) hb); have n4_ := Aside0.mk (Kd.R_lower (Kd.R_new' (Kd.R_new' ho0 (Kd.R_lt (by (with_reducible repeat (first | apply Kd.rA_ | apply Kd.rN_ | apply Kd.rD_)); exact HO242.out))) (Kd.R_lt (by (with_reducible repeat (first | apply Kd.rA_ | apply Kd.rN_ | apply Kd.rD_)); exact HO245.out))) (pbS_ (by repeat (first | (with_reducible first | exact HB.out | apply pbA_ | apply pbN_ | apply pb1_) | exact HB.out)))); have n5_ := Aside0.mk (below_step (by repeat (first | (with_reducible first | exact HB.out | apply pbA_ | apply pbN_ | apply pb1_) | exact HB.out)) hb); clear HO233; clear HO237; clear HO242; clear HO245; clear HB; have HO233 := n0_; have HO237 := n1_; have HO242 := n2_; have HO245 := n3_; have HO249 := n4_; have HB := n5_; clear n0_ n1_ n2_ n3_ n4_ n5_; (try clear hb); (try clear hb2); (try clear hk); (try clear hi); (try clear ho0); obtain ⟨Ao23, co23, eo23⟩ := Kd.R_slice HO249.out; subst eo23))
        go_ret
        exact ⟨by first | rfl | (simp [eWn_, eWs_] <;> rfl) | (simp [*, eWn_, eWs_] <;> rfl), by repeat (first | (with_reducible first | exact HB.out | apply pbA_ | apply pbN_ | apply pb1_) | exact HB.out)⟩
       ·replace c10 := Bool.eq_false_iff.mpr c10
        subst c10
        have H1 : (some false) = some r := by rw [if_neg (show ¬ (false = true) by decide)] at H; exact H
        clear H
        have H := H1
        clear H1
        obtain rfl := Option.some.inj H
        go_enter Try.func9, Try.ntmps9
        go_wp2_with (first | ((with_reducible refine gate_dst (N := 7) rfl ?_); (try (refine gate_guard (by rfl) ?_; dsimp only)); refine Kd.R_lit k42 _ 42 ?hg (N := 7) ?hd (xs := ([(⟨true, 5⟩ : S42), (⟨false, 0⟩ : S42), (⟨true, 7⟩ : S42)] : List (S42))) (inner := [.bool true, .int .i64 5, .bool false, .int .i64 0, .bool true, .int .i64 7]) (ok := fun _ => True) (okp := fun _ => True) ?hr ?hp (fun _ hk => hk) trivial (Below.refl _ _) (Nat.le_refl _) (by simp) ?_; (case hd => rfl); (case hg => rfl); (case hr => first | (go_simp; done) | (go_simp; rfl)); (case hp => exact (Reps.c2 (show Kd.M k42 _ _ _ (⟨true, 5⟩ : S42) [.bool true, .int .i64 5] from (k42_mkM _ _ _ (⟨true, 5⟩ : S42) )) (Reps.c2 (show Kd.M k42 _ _ _ (⟨false, 0⟩ : S42) [.bool false, .int .i64 0] from (k42_mkM _ _ _ (⟨false, 0⟩ : S42) )) (Reps.c2 (show Kd.M k42 _ _ _ (⟨true, 7⟩ : S42) [.bool true, .int .i64 7] from (k42_mkM _ _ _ (⟨true, 7⟩ : S42) )) (Reps.none _ _))))); intro v232 w24 ho25 hb hg_ hnew_; clear hg_ hnew_; (first | rw [← Ny231.out] at ho25 | (simp only [Int.reduceToNat] at ho25; rw [← Ny231.out] at ho25)); have n0_ := Aside0.mk (Kd.R_lower ho25 (pbS_ (by repeat (first | (with_reducible first | exact HB.out | apply pbA_ | apply pbN_ | apply pb1_) | exact HB.out)))); have n1_ := Aside0.mk (below_step (by repeat (first | (with_reducible first | exact HB.out | apply pbA_ | apply pbN_ | apply pb1_) | exact HB.out)) hb); clear HB; have HO233 := n0_; have HB := n1_; clear n0_ n1_; clear hb ho25; obtain ⟨Ao26, co26, eo26⟩ := Kd.R_slice HO233.out; subst eo26) | ((with_reducible refine gaC_ (f := 12) rfl ?_); refine goesL_ (some 10) rfl rfl Try.func12 (by kernel_rfl) rfl #[.slice none 0 0, .slice Ao26 y231.length co26] rfl (by (try simp only [List.map_toArray, List.map_cons, List.map_nil]); first | done | rfl | (simp only [List.length_drop, List.length_take]; rfl)) ?_; (refine (ints_Put.calls k _ _ ([] : List Int) _ _ y231 t234 t235 _ ?side1 ?side2 ?side3 ?side4 A1.out).mono ?_); (case side1 => exact Kd.C_nil _ _); (case side2 => exact Nat.le_refl _); (case side3 => repeat (first | exact (Kd.R_reads' HO233.out).2.2 | (with_reducible refine Kd.cA_ ?_ _) | (with_reducible refine Kd.cN_ ?_ _) | (with_reducible refine Kd.cD_ ?_))); (case side4 => exact (Kd.R_reads' HO233.out).2.1); rintro e w27 ⟨v236, rfl, ho0, hb⟩; refine ⟨_, rfl, ?_⟩; have n0_ := Aside0.mk (Kd.R_below (by (with_reducible repeat (first | apply Kd.rA_ | apply Kd.rN_ | apply Kd.rD_)); exact HO233.out) hb); have n1_ := Aside0.mk (Kd.R_lower ho0 (pbS_ (by repeat (first | (with_reducible first | exact HB.out | apply pbA_ | apply pbN_ | apply pb1_) | exact HB.out)))); have n2_ := Aside0.mk (below_step (by repeat (first | (with_reducible first | exact HB.out | apply pbA_ | apply pbN_ | apply pb1_) | exact HB.out)) hb); clear HO233; clear HB; have HO233 := n0_; have HO237 := n1_; have HB := n2_; clear n0_ n1_ n2_; (try clear hb); (try clear hb2); (try clear hk); (try clear hi); (try clear ho0); obtain ⟨Ao28, co28, eo28⟩ := Kd.R_slice HO237.out; subst eo28; have p238 : 0 ≤ (0 : Int) := (by omega); have q238 : 0 < (t234.length : Int) := of_decide_eq_true (by first | (with_reducible assumption) | assumption); obtain ⟨ad238, e238, hx238_0⟩ := Kd.at_int (Kd.R_reads' HO237.out).2.2 0 p238 q238; cases e238; have qi238 : (0 < t234.length) = True := eq_true (by omega); (try rw [show ((0 : Int)).toNat = 0 from rfl] at hx238_0); (try rw [Addr.add_zero'] at hx238_0); replace p238 := eq_true p238; replace q238 := eq_true q238; have p239 : 0 ≤ (1 : Int) := (by omega); have q239 : 1 < (t234.length : Int) := of_decide_eq_true (by first | (with_reducible assumption) | assumption); obtain ⟨ad239, e239, hx239_0⟩ := Kd.at_int (Kd.R_reads' HO237.out).2.2 1 p239 q239; obtain rfl : ad238 = ad239 := (by injection e239); (try simp only [show (1 : Int).toNat = 1 from rfl, Nat.reduceMul, Nat.reduceEqDiff, Go.Addr.add, ↓reduceIte] at hx239_0); have qi239 : (1 < t234.length) = True := eq_true (by omega); (try rw [show ((1 : Int)).toNat = 1 from rfl] at hx239_0); replace p239 := eq_true p239; replace q239 := eq_true q239) | (go_at_call 20; (with_reducible refine (ints_Below.calls k _ _ y231 6 t240 _ ?side1 ?side2 A8.out).mono ?_); (case side1 => repeat (first | exact (Kd.R_reads' HO233.out).2.2 | (with_reducible refine Kd.cA_ ?_ _) | (with_reducible refine Kd.cN_ ?_ _) | (with_reducible refine Kd.cD_ ?_))); (case side2 => exact (Kd.R_reads' HO233.out).2.1); rintro e w29 ⟨v241, rfl, ho0, hb⟩; have n0_ := Aside0.mk (Kd.R_below (by (with_reducible repeat (first | apply Kd.rA_ | apply Kd.rN_ | apply Kd.rD_)); exact HO233.out) hb); have n1_ := Aside0.mk (Kd.R_below (by (with_reducible repeat (first | apply Kd.rA_ | apply Kd.rN_ | apply Kd.rD_)); exact HO237.out) hb); have n2_ := Aside0.mk (Kd.R_lower ho0 (pbS_ (by repeat (first | (with_reducible first | exact HB.out | apply pbA_ | apply pbN_ | apply pb1_) | exact HB.out)))); have n3_ := Aside0.mk (below_step (by repeat (first | (with_reducible first | exact HB.out | apply pbA_ | apply pbN_ | apply pb1_) | exact HB.out)) hb); clear HO233; clear HO237; clear HB; have HO233 := n0_; have HO237 := n1_; have HO242 := n2_; have HB := n3_; clear n0_ n1_ n2_ n3_; (try clear hb); (try clear hb2); (try clear hk); (try clear hi); (try clear ho0)) | ((with_reducible refine gate_dst (N := 35) rfl ?_); (try (refine gate_guard (by rfl) ?_; dsimp only)); refine Kd.R_lit (Kd.int .i64) _ 3 ?hg (N := 35) ?hd (xs := ([0] : List Int)) (inner := [.int .i64 0]) (ok := fun _ => True) (okp := fun _ => True) ?hr ?hp (fun _ hk => hk) trivial (Below.refl _ _) (Nat.le_refl _) (by simp) ?_; (case hd => rfl); (case hg => rfl); (case hr => first | (go_simp; done) | (go_simp; rfl)); (case hp => exact (Reps.one (show Kd.M (Kd.int .i64) _ _ _ 0 [.int .i64 0] from rfl) (Reps.none _ _))); intro v244 w30 ho31 hb hg_ hnew_; clear hg_ hnew_; (first | rw [← Ny243.out] at ho31 | (simp only [Int.reduceToNat] at ho31; rw [← Ny243.out] at ho31)); have n0_ := Aside0.mk (Kd.R_below (by (with_reducible repeat (first | apply Kd.rA_ | apply Kd.rN_ | apply Kd.rD_)); exact HO233.out) hb); have n1_ := Aside0.mk (Kd.R_below (by (with_reducible repeat (first | apply Kd.rA_ | apply Kd.rN_ | apply Kd.rD_)); exact HO237.out) hb); have n2_ := Aside0.mk (Kd.R_elder' (by (with_reducible repeat (first | apply Kd.rA_ | apply Kd.rN_ | apply Kd.rD_)); exact HO242.out) (Kd.R_base ho31) hb); have n3_ := Aside0.mk (Kd.R_lower (Kd.R_new' ho31 (Kd.R_lt (by (with_reducible repeat (first | apply Kd.rA_ | apply Kd.rN_ | apply Kd.rD_)); exact HO242.out))) (pbS_ (by repeat (first | (with_reducible first | exact HB.out | apply pbA_ | apply pbN_ | apply pb1_) | exact HB.out)))); have n4_ := Aside0.mk (below_step (by repeat (first | (with_reducible first | exact HB.out | apply pbA_ | apply pbN_ | apply pb1_) | exact HB.out)) hb); clear HO233; clear HO237; clear HO242; clear HB; have HO233 := n0_; have HO237 := n1_; have HO242 := n2_; have HO245 := n3_; have HB := n4_; clear n0_ n1_ n2_ n3_ n4_; clear hb ho31; obtain ⟨Ao32, co32, eo32⟩ := Kd.R_slice HO242.out; subst eo32; obtain ⟨Ao33, co33, eo33⟩ := Kd.R_slice HO245.out; subst eo33) | (go_at_call 22; (with_reducible refine (dragnetref09_Ints.calls k _ _ t240 _ _ y243 false _ ?side1 ?side2 ?side3 ?side4 A9.out).mono ?_); (case side1 => repeat (first | exact (Kd.R_reads' HO242.out).2.2 | (with_reducible refine Kd.cA_ ?_ _) | (with_reducible refine Kd.cN_ ?_ _) | (with_reducible refine Kd.cD_ ?_))); (case side2 => exact (Kd.R_reads' HO242.out).2.1); (case side3 => repeat (first | exact (Kd.R_reads' HO245.out).2.2 | (with_reducible refine Kd.cA_ ?_ _) | (with_reducible refine Kd.cN_ ?_ _) | (with_reducible refine Kd.cD_ ?_))); (case side4 => exact (Kd.R_reads' HO245.out).2.1); rintro e w' ⟨rfl, ⟨nd, rfl⟩⟩))
        go_ret
        exact ⟨by first | rfl | (simp [eWn_, eWs_] <;> rfl) | (simp [*, eWn_, eWs_] <;> rfl), by repeat (first | (with_reducible first | exact HB.out | apply pbA_ | apply pbN_ | apply pb1_) | exact HB.out)⟩
      ·rw [if_neg c7] at H
       have c7b0 : ((rd t234 1) == 5) = false := beq_eq_false_iff_ne.mpr c7
       have c7b1 : ((rd t234 1) != 5) = true := bne_iff_ne.mpr c7
       obtain rfl := Option.some.inj H
       go_enter Try.func9, Try.ntmps9
       go_wp2_with (first | ((with_reducible refine gate_dst (N := 7) rfl ?_); (try (refine gate_guard (by rfl) ?_; dsimp only)); refine Kd.R_lit k42 _ 42 ?hg (N := 7) ?hd (xs := ([(⟨true, 5⟩ : S42), (⟨false, 0⟩ : S42), (⟨true, 7⟩ : S42)] : List (S42))) (inner := [.bool true, .int .i64 5, .bool false, .int .i64 0, .bool true, .int .i64 7]) (ok := fun _ => True) (okp := fun _ => True) ?hr ?hp (fun _ hk => hk) trivial (Below.refl _ _) (Nat.le_refl _) (by simp) ?_; (case hd => rfl); (case hg => rfl); (case hr => first | (go_simp; done) | (go_simp; rfl)); (case hp => exact (Reps.c2 (show Kd.M k42 _ _ _ (⟨true, 5⟩ : S42) [.bool true, .int .i64 5] from (k42_mkM _ _ _ (⟨true, 5⟩ : S42) )) (Reps.c2 (show Kd.M k42 _ _ _ (⟨false, 0⟩ : S42) [.bool false, .int .i64 0] from (k42_mkM _ _ _ (⟨false, 0⟩ : S42) )) (Reps.c2 (show Kd.M k42 _ _ _ (⟨true, 7⟩ : S42) [.bool true, .int .i64 7] from (k42_mkM _ _ _ (⟨true, 7⟩ : S42) )) (Reps.none _ _))))); intro v232 w34 ho35 hb hg_ hnew_; clear hg_ hnew_; (first | rw [← Ny231.out] at ho35 | (simp only [Int.reduceToNat] at ho35; rw [← Ny231.out] at ho35)); have n0_ := Aside0.mk (Kd.R_lower ho35 (pbS_ (by repeat (first | (with_reducible first | exact HB.out | apply pbA_ | apply pbN_ | apply pb1_) | exact HB.out)))); have n1_ := Aside0.mk (below_step (by repeat (first | (with_reducible first | exact HB.out | apply pbA_ | apply pbN_ | apply pb1_) | exact HB.out)) hb); clear HB; have HO233 := n0_; have HB := n1_; clear n0_ n1_; clear hb ho35; obtain ⟨Ao36, co36, eo36⟩ := Kd.R_slice HO233.out; subst eo36) | ((with_reducible refine gaC_ (f := 12) rfl ?_); refine goesL_ (some 10) rfl rfl Try.func12 (by kernel_rfl) rfl #[.slice none 0 0, .slice Ao36 y231.length co36] rfl (by (try simp only [List.map_toArray, List.map_cons, List.map_nil]); first | done | rfl | (simp only [List.length_drop, List.length_take]; rfl)) ?_; (refine (ints_Put.calls k _ _ ([] : List Int) _ _ y231 t234 t235 _ ?side1 ?side2 ?side3 ?side4 A1.out).mono ?_); (case side1 => exact Kd.C_nil _ _); (case side2 => exact Nat.le_refl _); (case side3 => repeat (first | exact (Kd.R_reads' HO233.out).2.2 | (with_reducible refine Kd.cA_ ?_ _) | (with_reducible refine Kd.cN_ ?_ _) | (with_reducible refine Kd.cD_ ?_))); (case side4 => exact (Kd.R_reads' HO233.out).2.1); rintro e w37 ⟨v236, rfl, ho0, hb⟩; refine ⟨_, rfl, ?_⟩; have n0_ := Aside0.mk (Kd.R_below (by (with_reducible repeat (first | apply Kd.rA_ | apply Kd.rN_ | apply Kd.rD_)); exact HO233.out) hb); have n1_ := Aside0.mk (Kd.R_lower ho0 (pbS_ (by repeat (first | (with_reducible first | exact HB.out | apply pbA_ | apply pbN_ | apply pb1_) | exact HB.out)))); have n2_ := Aside0.mk (below_step (by repeat (first | (with_reducible first | exact HB.out | apply pbA_ | apply pbN_ | apply pb1_) | exact HB.out)) hb); clear HO233; clear HB; have HO233 := n0_; have HO237 := n1_; have HB := n2_; clear n0_ n1_ n2_; (try clear hb); (try clear hb2); (try clear hk); (try clear hi); (try clear ho0); obtain ⟨Ao38, co38, eo38⟩ := Kd.R_slice HO237.out; subst eo38; have p238 : 0 ≤ (0 : Int) := (by omega); have q238 : 0 < (t234.length : Int) := of_decide_eq_true (by first | (with_reducible assumption) | assumption); obtain ⟨ad238, e238, hx238_0⟩ := Kd.at_int (Kd.R_reads' HO237.out).2.2 0 p238 q238; cases e238; have qi238 : (0 < t234.length) = True := eq_true (by omega); (try rw [show ((0 : Int)).toNat = 0 from rfl] at hx238_0); (try rw [Addr.add_zero'] at hx238_0); replace p238 := eq_true p238; replace q238 := eq_true q238; have p239 : 0 ≤ (1 : Int) := (by omega); have q239 : 1 < (t234.length : Int) := of_decide_eq_true (by first | (with_reducible assumption) | assumption); obtain ⟨ad239, e239, hx239_0⟩ := Kd.at_int (Kd.R_reads' HO237.out).2.2 1 p239 q239; obtain rfl : ad238 = ad239 := (by injection e239); (try simp only [show (1 : Int).toNat = 1 from rfl, Nat.reduceMul, Nat.reduceEqDiff, Go.Addr.add, ↓reduceIte] at hx239_0); have qi239 : (1 < t234.length) = True := eq_true (by omega); (try rw [show ((1 : Int)).toNat = 1 from rfl] at hx239_0); replace p239 := eq_true p239; replace q239 := eq_true q239))
       go_ret
       exact ⟨by first | rfl | (simp [eWn_, eWs_] <;> rfl) | (simp [*, eWn_, eWs_] <;> rfl), by repeat (first | (with_reducible first | exact HB.out | apply pbA_ | apply pbN_ | apply pb1_) | exact HB.out)⟩
     ·rw [if_neg c6] at H
      exact absurd H (by simp)
    ·rw [if_neg c5] at H
     have c5b0 : ((rd t234 0) == 3) = false := beq_eq_false_iff_ne.mpr c5
     have c5b1 : ((rd t234 0) != 3) = true := bne_iff_ne.mpr c5
     obtain rfl := Option.some.inj H
     go_enter Try.func9, Try.ntmps9
     go_wp2_with (first | ((with_reducible refine gate_dst (N := 7) rfl ?_); (try (refine gate_guard (by rfl) ?_; dsimp only)); refine Kd.R_lit k42 _ 42 ?hg (N := 7) ?hd (xs := ([(⟨true, 5⟩ : S42), (⟨false, 0⟩ : S42), (⟨true, 7⟩ : S42)] : List (S42))) (inner := [.bool true, .int .i64 5, .bool false, .int .i64 0, .bool true, .int .i64 7]) (ok := fun _ => True) (okp := fun _ => True) ?hr ?hp (fun _ hk => hk) trivial (Below.refl _ _) (Nat.le_refl _) (by simp) ?_; (case hd => rfl); (case hg => rfl); (case hr => first | (go_simp; done) | (go_simp; rfl)); (case hp => exact (Reps.c2 (show Kd.M k42 _ _ _ (⟨true, 5⟩ : S42) [.bool true, .int .i64 5] from (k42_mkM _ _ _ (⟨true, 5⟩ : S42) )) (Reps.c2 (show Kd.M k42 _ _ _ (⟨false, 0⟩ : S42) [.bool false, .int .i64 0] from (k42_mkM _ _ _ (⟨false, 0⟩ : S42) )) (Reps.c2 (show Kd.M k42 _ _ _ (⟨true, 7⟩ : S42) [.bool true, .int .i64 7] from (k42_mkM _ _ _ (⟨true, 7⟩ : S42) )) (Reps.none _ _))))); intro v232 w39 ho40 hb hg_ hnew_; clear hg_ hnew_; (first | rw [← Ny231.out] at ho40 | (simp only [Int.reduceToNat] at ho40; rw [← Ny231.out] at ho40)); have n0_ := Aside0.mk (Kd.R_lower ho40 (pbS_ (by repeat (first | (with_reducible first | exact HB.out | apply pbA_ | apply pbN_ | apply pb1_) | exact HB.out)))); have n1_ := Aside0.mk (below_step (by repeat (first | (with_reducible first | exact HB.out | apply pbA_ | apply pbN_ | apply pb1_) | exact HB.out)) hb); clear HB; have HO233 := n0_; have HB := n1_; clear n0_ n1_; clear hb ho40; obtain ⟨Ao41, co41, eo41⟩ := Kd.R_slice HO233.out; subst eo41) | ((with_reducible refine gaC_ (f := 12) rfl ?_); refine goesL_ (some 10) rfl rfl Try.func12 (by kernel_rfl) rfl #[.slice none 0 0, .slice Ao41 y231.length co41] rfl (by (try simp only [List.map_toArray, List.map_cons, List.map_nil]); first | done | rfl | (simp only [List.length_drop, List.length_take]; rfl)) ?_; (refine (ints_Put.calls k _ _ ([] : List Int) _ _ y231 t234 t235 _ ?side1 ?side2 ?side3 ?side4 A1.out).mono ?_); (case side1 => exact Kd.C_nil _ _); (case side2 => exact Nat.le_refl _); (case side3 => repeat (first | exact (Kd.R_reads' HO233.out).2.2 | (with_reducible refine Kd.cA_ ?_ _) | (with_reducible refine Kd.cN_ ?_ _) | (with_reducible refine Kd.cD_ ?_))); (case side4 => exact (Kd.R_reads' HO233.out).2.1); rintro e w42 ⟨v236, rfl, ho0, hb⟩; refine ⟨_, rfl, ?_⟩; have n0_ := Aside0.mk (Kd.R_below (by (with_reducible repeat (first | apply Kd.rA_ | apply Kd.rN_ | apply Kd.rD_)); exact HO233.out) hb); have n1_ := Aside0.mk (Kd.R_lower ho0 (pbS_ (by repeat (first | (with_reducible first | exact HB.out | apply pbA_ | apply pbN_ | apply pb1_) | exact HB.out)))); have n2_ := Aside0.mk (below_step (by repeat (first | (with_reducible first | exact HB.out | apply pbA_ | apply pbN_ | apply pb1_) | exact HB.out)) hb); clear HO233; clear HB; have HO233 := n0_; have HO237 := n1_; have HB := n2_; clear n0_ n1_ n2_; (try clear hb); (try clear hb2); (try clear hk); (try clear hi); (try clear ho0); obtain ⟨Ao43, co43, eo43⟩ := Kd.R_slice HO237.out; subst eo43; have p238 : 0 ≤ (0 : Int) := (by omega); have q238 : 0 < (t234.length : Int) := of_decide_eq_true (by first | (with_reducible assumption) | assumption); obtain ⟨ad238, e238, hx238_0⟩ := Kd.at_int (Kd.R_reads' HO237.out).2.2 0 p238 q238; cases e238; have qi238 : (0 < t234.length) = True := eq_true (by omega); (try rw [show ((0 : Int)).toNat = 0 from rfl] at hx238_0); (try rw [Addr.add_zero'] at hx238_0); replace p238 := eq_true p238; replace q238 := eq_true q238))
     go_ret
     exact ⟨by first | rfl | (simp [eWn_, eWs_] <;> rfl) | (simp [*, eWn_, eWs_] <;> rfl), by repeat (first | (with_reducible first | exact HB.out | apply pbA_ | apply pbN_ | apply pb1_) | exact HB.out)⟩
   ·rw [if_neg c4] at H
    exact absurd H (by simp)
  ·rw [if_neg c3] at H
   have c3b0 : decide (2 < (t234.length : Int)) = false := decide_eq_false c3
   have c3b1 : decide (2 < t234.length) = false := decide_eq_false (by omega)
   clear c3
   obtain rfl := Option.some.inj H
   go_enter Try.func9, Try.ntmps9
   go_wp2_with (first | ((with_reducible refine gate_dst (N := 7) rfl ?_); (try (refine gate_guard (by rfl) ?_; dsimp only)); refine Kd.R_lit k42 _ 42 ?hg (N := 7) ?hd (xs := ([(⟨true, 5⟩ : S42), (⟨false, 0⟩ : S42), (⟨true, 7⟩ : S42)] : List (S42))) (inner := [.bool true, .int .i64 5, .bool false, .int .i64 0, .bool true, .int .i64 7]) (ok := fun _ => True) (okp := fun _ => True) ?hr ?hp (fun _ hk => hk) trivial (Below.refl _ _) (Nat.le_refl _) (by simp) ?_; (case hd => rfl); (case hg => rfl); (case hr => first | (go_simp; done) | (go_simp; rfl)); (case hp => exact (Reps.c2 (show Kd.M k42 _ _ _ (⟨true, 5⟩ : S42) [.bool true, .int .i64 5] from (k42_mkM _ _ _ (⟨true, 5⟩ : S42) )) (Reps.c2 (show Kd.M k42 _ _ _ (⟨false, 0⟩ : S42) [.bool false, .int .i64 0] from (k42_mkM _ _ _ (⟨false, 0⟩ : S42) )) (Reps.c2 (show Kd.M k42 _ _ _ (⟨true, 7⟩ : S42) [.bool true, .int .i64 7] from (k42_mkM _ _ _ (⟨true, 7⟩ : S42) )) (Reps.none _ _))))); intro v232 w44 ho45 hb hg_ hnew_; clear hg_ hnew_; (first | rw [← Ny231.out] at ho45 | (simp only [Int.reduceToNat] at ho45; rw [← Ny231.out] at ho45)); have n0_ := Aside0.mk (Kd.R_lower ho45 (pbS_ (by repeat (first | (with_reducible first | exact HB.out | apply pbA_ | apply pbN_ | apply pb1_) | exact HB.out)))); have n1_ := Aside0.mk (below_step (by repeat (first | (with_reducible first | exact HB.out | apply pbA_ | apply pbN_ | apply pb1_) | exact HB.out)) hb); clear HB; have HO233 := n0_; have HB := n1_; clear n0_ n1_; clear hb ho45; obtain ⟨Ao46, co46, eo46⟩ := Kd.R_slice HO233.out; subst eo46) | ((with_reducible refine gaC_ (f := 12) rfl ?_); refine goesL_ (some 10) rfl rfl Try.func12 (by kernel_rfl) rfl #[.slice none 0 0, .slice Ao46 y231.length co46] rfl (by (try simp only [List.map_toArray, List.map_cons, List.map_nil]); first | done | rfl | (simp only [List.length_drop, List.length_take]; rfl)) ?_; (refine (ints_Put.calls k _ _ ([] : List Int) _ _ y231 t234 t235 _ ?side1 ?side2 ?side3 ?side4 A1.out).mono ?_); (case side1 => exact Kd.C_nil _ _); (case side2 => exact Nat.le_refl _); (case side3 => repeat (first | exact (Kd.R_reads' HO233.out).2.2 | (with_reducible refine Kd.cA_ ?_ _) | (with_reducible refine Kd.cN_ ?_ _) | (with_reducible refine Kd.cD_ ?_))); (case side4 => exact (Kd.R_reads' HO233.out).2.1); rintro e w47 ⟨v236, rfl, ho0, hb⟩; refine ⟨_, rfl, ?_⟩; have n0_ := Aside0.mk (Kd.R_below (by (with_reducible repeat (first | apply Kd.rA_ | apply Kd.rN_ | apply Kd.rD_)); exact HO233.out) hb); have n1_ := Aside0.mk (Kd.R_lower ho0 (pbS_ (by repeat (first | (with_reducible first | exact HB.out | apply pbA_ | apply pbN_ | apply pb1_) | exact HB.out)))); have n2_ := Aside0.mk (below_step (by repeat (first | (with_reducible first | exact HB.out | apply pbA_ | apply pbN_ | apply pb1_) | exact HB.out)) hb); clear HO233; clear HB; have HO233 := n0_; have HO237 := n1_; have HB := n2_; clear n0_ n1_ n2_; (try clear hb); (try clear hb2); (try clear hk); (try clear hi); (try clear ho0); obtain ⟨Ao48, co48, eo48⟩ := Kd.R_slice HO237.out; subst eo48))
   go_ret
   exact ⟨by first | rfl | (simp [eWn_, eWs_] <;> rfl) | (simp [*, eWn_, eWs_] <;> rfl), by repeat (first | (with_reducible first | exact HB.out | apply pbA_ | apply pbN_ | apply pb1_) | exact HB.out)⟩
 ·rw [if_neg c2] at H
  have c2b0 : (t235 == 0) = false := beq_eq_false_iff_ne.mpr c2
  have c2b1 : (t235 != 0) = true := bne_iff_ne.mpr c2
  obtain rfl := Option.some.inj H
  go_enter Try.func9, Try.ntmps9
  go_wp2_with (first | ((with_reducible refine gate_dst (N := 7) rfl ?_); (try (refine gate_guard (by rfl) ?_; dsimp only)); refine Kd.R_lit k42 _ 42 ?hg (N := 7) ?hd (xs := ([(⟨true, 5⟩ : S42), (⟨false, 0⟩ : S42), (⟨true, 7⟩ : S42)] : List (S42))) (inner := [.bool true, .int .i64 5, .bool false, .int .i64 0, .bool true, .int .i64 7]) (ok := fun _ => True) (okp := fun _ => True) ?hr ?hp (fun _ hk => hk) trivial (Below.refl _ _) (Nat.le_refl _) (by simp) ?_; (case hd => rfl); (case hg => rfl); (case hr => first | (go_simp; done) | (go_simp; rfl)); (case hp => exact (Reps.c2 (show Kd.M k42 _ _ _ (⟨true, 5⟩ : S42) [.bool true, .int .i64 5] from (k42_mkM _ _ _ (⟨true, 5⟩ : S42) )) (Reps.c2 (show Kd.M k42 _ _ _ (⟨false, 0⟩ : S42) [.bool false, .int .i64 0] from (k42_mkM _ _ _ (⟨false, 0⟩ : S42) )) (Reps.c2 (show Kd.M k42 _ _ _ (⟨true, 7⟩ : S42) [.bool true, .int .i64 7] from (k42_mkM _ _ _ (⟨true, 7⟩ : S42) )) (Reps.none _ _))))); intro v232 w49 ho50 hb hg_ hnew_; clear hg_ hnew_; (first | rw [← Ny231.out] at ho50 | (simp only [Int.reduceToNat] at ho50; rw [← Ny231.out] at ho50)); have n0_ := Aside0.mk (Kd.R_lower ho50 (pbS_ (by repeat (first | (with_reducible first | exact HB.out | apply pbA_ | apply pbN_ | apply pb1_) | exact HB.out)))); have n1_ := Aside0.mk (below_step (by repeat (first | (with_reducible first | exact HB.out | apply pbA_ | apply pbN_ | apply pb1_) | exact HB.out)) hb); clear HB; have HO233 := n0_; have HB := n1_; clear n0_ n1_; clear hb ho50; obtain ⟨Ao51, co51, eo51⟩ := Kd.R_slice HO233.out; subst eo51) | ((with_reducible refine gaC_ (f := 12) rfl ?_); refine goesL_ (some 10) rfl rfl Try.func12 (by kernel_rfl) rfl #[.slice none 0 0, .slice Ao51 y231.length co51] rfl (by (try simp only [List.map_toArray, List.map_cons, List.map_nil]); first | done | rfl | (simp only [List.length_drop, List.length_take]; rfl)) ?_; (refine (ints_Put.calls k _ _ ([] : List Int) _ _ y231 t234 t235 _ ?side1 ?side2 ?side3 ?side4 A1.out).mono ?_); (case side1 => exact Kd.C_nil _ _); (case side2 => exact Nat.le_refl _); (case side3 => repeat (first | exact (Kd.R_reads' HO233.out).2.2 | (with_reducible refine Kd.cA_ ?_ _) | (with_reducible refine Kd.cN_ ?_ _) | (with_reducible refine Kd.cD_ ?_))); (case side4 => exact (Kd.R_reads' HO233.out).2.1); rintro e w52 ⟨v236, rfl, ho0, hb⟩; refine ⟨_, rfl, ?_⟩; have n0_ := Aside0.mk (Kd.R_below (by (with_reducible repeat (first | apply Kd.rA_ | apply Kd.rN_ | apply Kd.rD_)); exact HO233.out) hb); have n1_ := Aside0.mk (Kd.R_lower ho0 (pbS_ (by repeat (first | (with_reducible first | exact HB.out | apply pbA_ | apply pbN_ | apply pb1_) | exact HB.out)))); have n2_ := Aside0.mk (below_step (by repeat (first | (with_reducible first | exact HB.out | apply pbA_ | apply pbN_ | apply pb1_) | exact HB.out)) hb); clear HO233; clear HB; have HO233 := n0_; have HO237 := n1_; have HB := n2_; clear n0_ n1_ n2_; (try clear hb); (try clear hb2); (try clear hk); (try clear hi); (try clear ho0)))
  go_ret
  exact ⟨by first | rfl | (simp [eWn_, eWs_] <;> rfl) | (simp [*, eWn_, eWs_] <;> rfl), by repeat (first | (with_reducible first | exact HB.out | apply pbA_ | apply pbN_ | apply pb1_) | exact HB.out)⟩
end Go.Proofs.Ytcjkmmajokkkfaa.P
end
section
namespace Go.Proofs.Ytcjkmmajokkkfaa.P
open Go.RowKit Go.Proofs.YtcjkmmajokkkfaaW.PrintWords Go.Proofs.YtcjkmmajokkkfaaW.PrintLast Go.Proofs.YtcjkmmajokkkfaaW.PrintMore
attribute [local go_sem] max2_int min2_int max_two min_two max_three min_three max_four min_four
set_option linter.unusedVariables false
set_option linter.unusedSimpArgs false
def dragnetref10_Formed.l0 : Nat → List (S42) → Int → Option (Bool)
 | 0, _, _ => none
 | k + 1, x0, x3 => if x3 < (x0.length : Int) then (if 0 ≤ x3 then (if ((rd_T42 x0 x3).f0 = true) then (dragnetref10_Formed.l0 k x0 (wrap64 (x3 + 1))) else (if ((rd_T42 x0 x3).f1) = 0 then (dragnetref10_Formed.l0 k x0 (wrap64 (x3 + 1))) else (some false))) else (none)) else (some (decide ((x0.length : Int) ≤ 4096)))
def dragnetref10_Formed.f (k : Nat) (l0 : List (S42)) : Option (Bool) := dragnetref10_Formed.l0 k l0 0
theorem dragnetref10_Formed.mono_l : ∀ k, (∀ y0 y1, LeO (dragnetref10_Formed.l0 k y0 y1) (dragnetref10_Formed.l0 (k + 1) y0 y1))
 | 0 => fun _ _ r h => by simp [dragnetref10_Formed.l0] at h
 | k + 1 => by
  have ih0 := dragnetref10_Formed.mono_l k
  ·intro y0 y1
   unfold dragnetref10_Formed.l0
   repeat' first
   | (with_reducible exact ih0 _ _)
   | (with_reducible exact LeO.refl _)
   | (with_reducible exact LeO.none _)
   | (with_reducible refine LeO.ite ?_ ?_)
   | (with_reducible refine LeO.bind ?_ (fun _ => ?_))
   | exact ih0 _ _
   | exact LeO.none _
   | refine LeO.ite ?_ ?_
   | refine LeO.bind ?_ (fun _ => ?_)
theorem dragnetref10_Formed.mono : ∀ a0 k, LeO (dragnetref10_Formed.f k a0) (dragnetref10_Formed.f (k + 1) a0) := by
 intro a0 k
 have ih0 := dragnetref10_Formed.mono_l k
 unfold dragnetref10_Formed.f
 repeat' first
   | (with_reducible exact ih0 _ _)
   | (with_reducible exact LeO.refl _)
   | (with_reducible exact LeO.none _)
   | (with_reducible refine LeO.ite ?_ ?_)
   | (with_reducible refine LeO.bind ?_ (fun _ => ?_))
   | exact ih0 _ _
   | exact LeO.none _
   | refine LeO.ite ?_ ?_
   | refine LeO.bind ?_ (fun _ => ?_)
set_option maxHeartbeats 8000000 in
set_option maxRecDepth 100000 in
theorem dragnetref10_Formed.calls (k : Nat) (A0 : Option Addr) (c0 : Nat) (l0 : List (S42)) (r : Bool) (w : World) (hr0 : Kd.C k42 w A0 l0.length l0) (hc0 : l0.length ≤ c0) (h : dragnetref10_Formed.f k l0 = some r) :
  Calls Try.prog 16 #[.slice A0 l0.length c0] w fun e w' => e = .returned (.bool r) ∧ Drawn0 w w' := by
 have HR0 := Aside0.mk hr0
 have HC0 := Aside0.mk hc0
 clear hr0 hc0
 have H : (dragnetref10_Formed.l0 k l0 0) = some r := h
 clear h
 have H' := Aside0.mk H
 clear H
 go_enter Try.func16, Try.ntmps16
 go_wp2
 go_loopg [3] k (fun kq v3 w' => ∃ (x3_1 : Int), v3 = .int .i64 x3_1 ∧ Aside0 (dragnetref10_Formed.l0 kq l0 x3_1 = some r) ∧ Aside0 (kq ≤ k) ∧ Drawn0 w w')
 case atStart => exact ⟨(0), (by first | rfl | (simp; done) | (simp [*]; done)), H', ⟨Nat.le_refl _⟩, by repeat (first | exact Drawn0.refl _ | apply Drawn0.step)⟩
 case round =>
  clear H'
  try clear c1
  obtain ⟨x3_1, rfl, HA, HK1, ⟨m1, rfl⟩⟩ := hrel
  cases gk with
  | zero => exact absurd HA.out (by simp [dragnetref10_Formed.l0])
  | succ k1 =>
   have H := HA.out
   clear HA
   simp only [dragnetref10_Formed.l0] at H
   by_cases c2 : x3_1 < (l0.length : Int)
   ·rw [if_pos c2] at H
    have c2b0 : decide (x3_1 < (l0.length : Int)) = true := decide_eq_true c2
    clear c2
    by_cases c3 : 0 ≤ x3_1
    ·rw [if_pos c3] at H
     have c3b0 : decide (0 ≤ x3_1) = true := decide_eq_true c3
     clear c3
     obtain ⟨bq4, hbq4⟩ : ∃ b_ : Bool, b_ = ((rd_T42 l0 x3_1).f0) := ⟨_, rfl⟩
     replace H : (if (bq4 = true) then (dragnetref10_Formed.l0 k1 l0 (wrap64 (x3_1 + 1))) else (if ((rd_T42 l0 x3_1).f1) = 0 then (dragnetref10_Formed.l0 k1 l0 (wrap64 (x3_1 + 1))) else (some false))) = some r := by rw [← hbq4] at H; exact H
     have Nbq4 := Aside0.mk hbq4
     clear hbq4
     by_cases c5 : (bq4 = true)
     ·subst c5
      have H1 : (dragnetref10_Formed.l0 k1 l0 (wrap64 (x3_1 + 1))) = some r := by rw [if_pos rfl] at H; exact H
      clear H
      have H := H1
      clear H1
      have H' := Aside0.mk H
      clear H
      have p264 : 0 ≤ (x3_1 : Int) := of_decide_eq_true (by first | (with_reducible assumption) | assumption)
      have q264 : x3_1 < (l0.length : Int) := of_decide_eq_true (by first | (with_reducible assumption) | assumption)
      obtain ⟨ad264, e264, hx264_0, hx264_1⟩ := at_T42 HR0.out x3_1 p264 q264
      (try rw [← Nbq4.out] at hx264_0)
      cases e264
      replace p264 := eq_true p264
      replace q264 := eq_true q264
      go_wp2
      go_roundg k1
      case measure => have := HK1.out; omega
      case rel => exact ⟨(wrap64 (x3_1 + 1)), (by first | rfl | (simp; done) | (simp [*]; done)), H', ⟨by have := HK1.out; omega⟩, by repeat (first | exact Drawn0.refl _ | apply Drawn0.step)⟩
     ·replace c5 := Bool.eq_false_iff.mpr c5
      subst c5
      have H1 : (if ((rd_T42 l0 x3_1).f1) = 0 then (dragnetref10_Formed.l0 k1 l0 (wrap64 (x3_1 + 1))) else (some false)) = some r := by rw [if_neg (show ¬ (false = true) by decide)] at H; exact H
      clear H
      have H := H1
      clear H1
      by_cases c6 : ((rd_T42 l0 x3_1).f1) = 0
      ·rw [if_pos c6] at H
       have c6b0 : (((rd_T42 l0 x3_1).f1) == 0) = true := beq_iff_eq.mpr c6
       have c6b1 : (((rd_T42 l0 x3_1).f1) != 0) = false := bne_eq_false_iff_eq.mpr c6
       clear c6
       have H' := Aside0.mk H
       clear H
       have p264 : 0 ≤ (x3_1 : Int) := of_decide_eq_true (by first | (with_reducible assumption) | assumption)
       have q264 : x3_1 < (l0.length : Int) := of_decide_eq_true (by first | (with_reducible assumption) | assumption)
       obtain ⟨ad264, e264, hx264_0, hx264_1⟩ := at_T42 HR0.out x3_1 p264 q264
       (try rw [← Nbq4.out] at hx264_0)
       cases e264
       replace p264 := eq_true p264
       replace q264 := eq_true q264
       have p265 : 0 ≤ (x3_1 : Int) := of_decide_eq_true (by first | (with_reducible assumption) | assumption)
       have q265 : x3_1 < (l0.length : Int) := of_decide_eq_true (by first | (with_reducible assumption) | assumption)
       obtain ⟨ad265, e265, hx265_0, hx265_1⟩ := at_T42 HR0.out x3_1 p265 q265
       (try rw [← Nbq4.out] at hx265_0)
       obtain rfl : ad264 = ad265 := (by injection e265)
       replace p265 := eq_true p265
       replace q265 := eq_true q265
       go_wp2
       go_roundg k1
       case measure => have := HK1.out; omega
       case rel => exact ⟨(wrap64 (x3_1 + 1)), (by first | rfl | (simp; done) | (simp [*]; done)), H', ⟨by have := HK1.out; omega⟩, by repeat (first | exact Drawn0.refl _ | apply Drawn0.step)⟩
      ·rw [if_neg c6] at H
       have c6b0 : (((rd_T42 l0 x3_1).f1) == 0) = false := beq_eq_false_iff_ne.mpr c6
       have c6b1 : (((rd_T42 l0 x3_1).f1) != 0) = true := bne_iff_ne.mpr c6
       obtain rfl := Option.some.inj H
       have p264 : 0 ≤ (x3_1 : Int) := of_decide_eq_true (by first | (with_reducible assumption) | assumption)
       have q264 : x3_1 < (l0.length : Int) := of_decide_eq_true (by first | (with_reducible assumption) | assumption)
       obtain ⟨ad264, e264, hx264_0, hx264_1⟩ := at_T42 HR0.out x3_1 p264 q264
       (try rw [← Nbq4.out] at hx264_0)
       cases e264
       replace p264 := eq_true p264
       replace q264 := eq_true q264
       have p265 : 0 ≤ (x3_1 : Int) := of_decide_eq_true (by first | (with_reducible assumption) | assumption)
       have q265 : x3_1 < (l0.length : Int) := of_decide_eq_true (by first | (with_reducible assumption) | assumption)
       obtain ⟨ad265, e265, hx265_0, hx265_1⟩ := at_T42 HR0.out x3_1 p265 q265
       (try rw [← Nbq4.out] at hx265_0)
       obtain rfl : ad264 = ad265 := (by injection e265)
       replace p265 := eq_true p265
       replace q265 := eq_true q265
       go_wp2
       go_ret
       exact ⟨by first | rfl | (simp; done) | (simp [*]; done), by repeat (first | exact Drawn0.refl _ | apply Drawn0.step)⟩
    ·rw [if_neg c3] at H
     exact absurd H (by simp)
   ·rw [if_neg c2] at H
    have c2b0 : decide (x3_1 < (l0.length : Int)) = false := decide_eq_false c2
    clear c2
    obtain rfl := Option.some.inj H
    go_wp2
    go_ret
    exact ⟨by first | rfl | (simp; done) | (simp [*]; done), by repeat (first | exact Drawn0.refl _ | apply Drawn0.step)⟩
end Go.Proofs.Ytcjkmmajokkkfaa.P
end
section
namespace Go.Proofs.Ytcjkmmajokkkfaa.P
open Go.RowKit Go.Proofs.YtcjkmmajokkkfaaW.PrintWords Go.Proofs.YtcjkmmajokkkfaaW.PrintLast Go.Proofs.YtcjkmmajokkkfaaW.PrintMore
attribute [local go_sem] max2_int min2_int max_two min_two max_three min_three max_four min_four
set_option linter.unusedVariables false
set_option linter.unusedSimpArgs false
end Go.Proofs.Ytcjkmmajokkkfaa.P
end
section
namespace Go.Proofs.Ytcjkmmajokkkfaa.P
open Go.RowKit Go.Proofs.YtcjkmmajokkkfaaW.PrintWords Go.Proofs.YtcjkmmajokkkfaaW.PrintLast Go.Proofs.YtcjkmmajokkkfaaW.PrintMore
attribute [local go_sem] max2_int min2_int max_two min_two max_three min_three max_four min_four
set_option linter.unusedVariables false
set_option linter.unusedSimpArgs false
end Go.Proofs.Ytcjkmmajokkkfaa.P
end
section
namespace Go.Proofs.Ytcjkmmajokkkfaa.P
open Go.RowKit Go.Proofs.YtcjkmmajokkkfaaW.PrintWords Go.Proofs.YtcjkmmajokkkfaaW.PrintLast Go.Proofs.YtcjkmmajokkkfaaW.PrintMore
attribute [local go_sem] max2_int min2_int max_two min_two max_three min_three max_four min_four
set_option linter.unusedVariables false
set_option linter.unusedSimpArgs false
end Go.Proofs.Ytcjkmmajokkkfaa.P
end
section
namespace Go.Proofs.Ytcjkmmajokkkfaa.P
open Go.RowKit Go.Proofs.YtcjkmmajokkkfaaW.PrintWords Go.Proofs.YtcjkmmajokkkfaaW.PrintLast Go.Proofs.YtcjkmmajokkkfaaW.PrintMore
attribute [local go_sem] max2_int min2_int max_two min_two max_three min_three max_four min_four
set_option linter.unusedVariables false
set_option linter.unusedSimpArgs false
attribute [local go_sem high] eqA38
end Go.Proofs.Ytcjkmmajokkkfaa.P
end
section
namespace Go.Proofs.Ytcjkmmajokkkfaa.P
open Go.RowKit Go.Proofs.YtcjkmmajokkkfaaW.PrintWords Go.Proofs.YtcjkmmajokkkfaaW.PrintLast Go.Proofs.YtcjkmmajokkkfaaW.PrintMore
attribute [local go_sem] max2_int min2_int max_two min_two max_three min_three max_four min_four
set_option linter.unusedVariables false
set_option linter.unusedSimpArgs false
end Go.Proofs.Ytcjkmmajokkkfaa.P
end
section
namespace Go.Proofs.Ytcjkmmajokkkfaa.P
open Go.RowKit Go.Proofs.YtcjkmmajokkkfaaW.PrintWords Go.Proofs.YtcjkmmajokkkfaaW.PrintLast Go.Proofs.YtcjkmmajokkkfaaW.PrintMore
attribute [local go_sem] max2_int min2_int max_two min_two max_three min_three max_four min_four
set_option linter.unusedVariables false
set_option linter.unusedSimpArgs false
mutual
def dragnetlaw10_some.l0 : Nat → List (S42) → Int → Int → Option (Bool)
 | 0, _, _, _ => none
 | k + 1, x0, x1, x5 => if x5 < (x0.length : Int) then (dragnetlaw10_some.j1 k x0 x1 x5 (decide (x5 < (wrap64 ((wrap64 (16 * x1)) + 16))))) else (dragnetlaw10_some.j1 k x0 x1 x5 false)
def dragnetlaw10_some.j1 : Nat → List (S42) → Int → Int → Bool → Option (Bool)
 | 0, _, _, _, _ => none
 | k + 1, x0, x1, x5, x18 => if x18 = true then (if 0 ≤ x5 then (if x5 < (x0.length : Int) then (if (rd_T42 x0 x5).f0 = true then (some true) else (dragnetlaw10_some.l0 k x0 x1 (wrap64 (x5 + 1)))) else (none)) else (none)) else (some false)
end
def dragnetlaw10_some.f (k : Nat) (l0 : List (S42)) (a1 : Int) : Option (Bool) := dragnetlaw10_some.l0 k l0 a1 (wrap64 (16 * a1))
theorem dragnetlaw10_some.mono_l : ∀ k, (∀ y0 y1 y2, LeO (dragnetlaw10_some.l0 k y0 y1 y2) (dragnetlaw10_some.l0 (k + 1) y0 y1 y2)) ∧ (∀ y0 y1 y2 y3, LeO (dragnetlaw10_some.j1 k y0 y1 y2 y3) (dragnetlaw10_some.j1 (k + 1) y0 y1 y2 y3))
 | 0 => ⟨fun _ _ _ r h => by simp [dragnetlaw10_some.l0] at h, fun _ _ _ _ r h => by simp [dragnetlaw10_some.j1] at h⟩
 | k + 1 => by
  obtain ⟨ih0, ih1⟩ := dragnetlaw10_some.mono_l k
  refine ⟨?_, ?_⟩
  ·intro y0 y1 y2
   unfold dragnetlaw10_some.l0
   repeat' first
   | (with_reducible exact ih0 _ _ _)
   | (with_reducible exact ih1 _ _ _ _)
   | (with_reducible exact LeO.refl _)
   | (with_reducible exact LeO.none _)
   | (with_reducible refine LeO.ite ?_ ?_)
   | (with_reducible refine LeO.bind ?_ (fun _ => ?_))
   | exact ih0 _ _ _
   | exact ih1 _ _ _ _
   | exact LeO.none _
   | refine LeO.ite ?_ ?_
   | refine LeO.bind ?_ (fun _ => ?_)
  ·intro y0 y1 y2 y3
   unfold dragnetlaw10_some.j1
   repeat' first
   | (with_reducible exact ih0 _ _ _)
   | (with_reducible exact ih1 _ _ _ _)
   | (with_reducible exact LeO.refl _)
   | (with_reducible exact LeO.none _)
   | (with_reducible refine LeO.ite ?_ ?_)
   | (with_reducible refine LeO.bind ?_ (fun _ => ?_))
   | exact ih0 _ _ _
   | exact ih1 _ _ _ _
   | exact LeO.none _
   | refine LeO.ite ?_ ?_
   | refine LeO.bind ?_ (fun _ => ?_)
theorem dragnetlaw10_some.mono : ∀ a0 a1 k, LeO (dragnetlaw10_some.f k a0 a1) (dragnetlaw10_some.f (k + 1) a0 a1) := by
 intro a0 a1 k
 obtain ⟨ih0, ih1⟩ := dragnetlaw10_some.mono_l k
 unfold dragnetlaw10_some.f
 repeat' first
   | (with_reducible exact ih0 _ _ _)
   | (with_reducible exact ih1 _ _ _ _)
   | (with_reducible exact LeO.refl _)
   | (with_reducible exact LeO.none _)
   | (with_reducible refine LeO.ite ?_ ?_)
   | (with_reducible refine LeO.bind ?_ (fun _ => ?_))
   | exact ih0 _ _ _
   | exact ih1 _ _ _ _
   | exact LeO.none _
   | refine LeO.ite ?_ ?_
   | refine LeO.bind ?_ (fun _ => ?_)
set_option maxHeartbeats 8000000 in
set_option maxRecDepth 100000 in
theorem dragnetlaw10_some.calls (k : Nat) (A0 : Option Addr) (c0 : Nat) (l0 : List (S42)) (a1 : Int) (r : Bool) (w : World) (hr0 : Kd.C k42 w A0 l0.length l0) (hc0 : l0.length ≤ c0) (h : dragnetlaw10_some.f k l0 a1 = some r) :
  Calls Try.prog 23 #[.slice A0 l0.length c0, .int .i64 a1] w fun e w' => e = .returned (.bool r) ∧ Drawn0 w w' := by
 have HR0 := Aside0.mk hr0
 have HC0 := Aside0.mk hc0
 clear hr0 hc0
 have H : (dragnetlaw10_some.l0 k l0 a1 (wrap64 (16 * a1))) = some r := h
 clear h
 have H' := Aside0.mk H
 clear H
 go_enter Try.func23, Try.ntmps23
 go_wp2
 go_loopg [5] k (fun kq v5 w' => ∃ (x5_1 : Int), v5 = .int .i64 x5_1 ∧ Aside0 (dragnetlaw10_some.l0 kq l0 a1 x5_1 = some r) ∧ Aside0 (kq ≤ k) ∧ Drawn0 w w')
 case atStart => exact ⟨(wrap64 (16 * a1)), (by first | rfl | (simp; done) | (simp [*]; done)), H', ⟨Nat.le_refl _⟩, by repeat (first | exact Drawn0.refl _ | apply Drawn0.step)⟩
 case round =>
  clear H'
  try clear c2
  try clear p2
  obtain ⟨x5_1, rfl, HA, HK1, ⟨m1, rfl⟩⟩ := hrel
  cases gk with
  | zero => exact absurd HA.out (by simp [dragnetlaw10_some.l0])
  | succ k1 =>
   have H := HA.out
   clear HA
   simp only [dragnetlaw10_some.l0] at H
   have HC3 := Aside0.mk H
   clear H
   go_upto_region 2 with (fail)
   go_cut [18] (fun v18 wc => ∃ (kq : Nat) (x18_2 : Bool), v18 = .bool x18_2 ∧ Aside0 (dragnetlaw10_some.j1 kq l0 a1 x5_1 x18_2 = some r) ∧ Aside0 (kq ≤ k1) ∧ Drawn0 w wc)
   case first =>
    have H := HC3.out
    clear HC3
    by_cases c4 : x5_1 < (l0.length : Int)
    ·rw [if_pos c4] at H
     have c4b0 : decide (x5_1 < (l0.length : Int)) = true := decide_eq_true c4
     clear c4
     (first | rw [c4b0] | (simp only [i64_w, i32_w]; rw [c4b0]) | skip)
     have H' := Aside0.mk H
     clear H
     go_wp2
     go_meet
     case rel => exact ⟨_, (decide (x5_1 < (wrap64 ((wrap64 (16 * a1)) + 16)))), (by first | rfl | (simp; done) | (simp [*]; done)), H', ⟨by have := HK1.out; first | omega | exact Nat.le_refl _⟩, by repeat (first | exact Drawn0.refl _ | apply Drawn0.step)⟩
    ·rw [if_neg c4] at H
     have c4b0 : decide (x5_1 < (l0.length : Int)) = false := decide_eq_false c4
     clear c4
     (first | rw [c4b0] | (simp only [i64_w, i32_w]; rw [c4b0]) | skip)
     have H' := Aside0.mk H
     clear H
     go_wp2
     go_meet
     case rel => exact ⟨_, (false), (by first | rfl | (simp; done) | (simp [*]; done)), H', ⟨by have := HK1.out; first | omega | exact Nat.le_refl _⟩, by repeat (first | exact Drawn0.refl _ | apply Drawn0.step)⟩
   case rest =>
    clear HC3
    try clear c2
    try clear p2
    try clear c4
    try clear c4b0
    try clear p2
    obtain ⟨kq, x18_2, rfl, HA, HJ2, ⟨mc2, rfl⟩⟩ := hcut
    cases kq with
    | zero => exact absurd HA.out (by simp [dragnetlaw10_some.j1])
    | succ kj2 =>
     have H := HA.out
     clear HA
     simp only [dragnetlaw10_some.j1] at H
     by_cases c5 : x18_2 = true
     ·subst c5
      have H1 : (if 0 ≤ x5_1 then (if x5_1 < (l0.length : Int) then (if (rd_T42 l0 x5_1).f0 = true then (some true) else (dragnetlaw10_some.l0 kj2 l0 a1 (wrap64 (x5_1 + 1)))) else (none)) else (none)) = some r := by rw [if_pos rfl] at H; exact H
      clear H
      have H := H1
      clear H1
      by_cases c6 : 0 ≤ x5_1
      ·rw [if_pos c6] at H
       have c6b0 : decide (0 ≤ x5_1) = true := decide_eq_true c6
       clear c6
       by_cases c7 : x5_1 < (l0.length : Int)
       ·rw [if_pos c7] at H
        have c7b0 : decide (x5_1 < (l0.length : Int)) = true := decide_eq_true c7
        clear c7
        obtain ⟨bq8, hbq8⟩ : ∃ b_ : Bool, b_ = ((rd_T42 l0 x5_1).f0) := ⟨_, rfl⟩
        replace H : (if bq8 = true then (some true) else (dragnetlaw10_some.l0 kj2 l0 a1 (wrap64 (x5_1 + 1)))) = some r := by rw [← hbq8] at H; exact H
        have Nbq8 := Aside0.mk hbq8
        clear hbq8
        by_cases c9 : bq8 = true
        ·subst c9
         have H1 : (some true) = some r := by rw [if_pos rfl] at H; exact H
         clear H
         have H := H1
         clear H1
         obtain rfl := Option.some.inj H
         have p464 : 0 ≤ (x5_1 : Int) := of_decide_eq_true (by first | (with_reducible assumption) | assumption)
         have q464 : x5_1 < (l0.length : Int) := of_decide_eq_true (by first | (with_reducible assumption) | assumption)
         obtain ⟨ad464, e464, hx464_0, hx464_1⟩ := at_T42 HR0.out x5_1 p464 q464
         (try rw [← Nbq8.out] at hx464_0)
         cases e464
         replace p464 := eq_true p464
         replace q464 := eq_true q464
         go_wp2
         go_ret
         exact ⟨by first | rfl | (simp; done) | (simp [*]; done), by repeat (first | exact Drawn0.refl _ | apply Drawn0.step)⟩
        ·replace c9 := Bool.eq_false_iff.mpr c9
         subst c9
         have H1 : (dragnetlaw10_some.l0 kj2 l0 a1 (wrap64 (x5_1 + 1))) = some r := by rw [if_neg (show ¬ (false = true) by decide)] at H; exact H
         clear H
         have H := H1
         clear H1
         have H' := Aside0.mk H
         clear H
         have p464 : 0 ≤ (x5_1 : Int) := of_decide_eq_true (by first | (with_reducible assumption) | assumption)
         have q464 : x5_1 < (l0.length : Int) := of_decide_eq_true (by first | (with_reducible assumption) | assumption)
         obtain ⟨ad464, e464, hx464_0, hx464_1⟩ := at_T42 HR0.out x5_1 p464 q464
         (try rw [← Nbq8.out] at hx464_0)
         cases e464
         replace p464 := eq_true p464
         replace q464 := eq_true q464
         go_wp2
         go_roundg kj2
         case measure => have := HK1.out; have := HJ2.out; omega
         case rel => exact ⟨(wrap64 (x5_1 + 1)), (by first | rfl | (simp; done) | (simp [*]; done)), H', ⟨by have := HK1.out; have := HJ2.out; omega⟩, by repeat (first | exact Drawn0.refl _ | apply Drawn0.step)⟩
       ·rw [if_neg c7] at H
        exact absurd H (by simp)
      ·rw [if_neg c6] at H
       exact absurd H (by simp)
     ·replace c5 := Bool.eq_false_iff.mpr c5
      subst c5
      have H1 : (some false) = some r := by rw [if_neg (show ¬ (false = true) by decide)] at H; exact H
      clear H
      have H := H1
      clear H1
      obtain rfl := Option.some.inj H
      go_wp2
      go_ret
      exact ⟨by first | rfl | (simp; done) | (simp [*]; done), by repeat (first | exact Drawn0.refl _ | apply Drawn0.step)⟩
end Go.Proofs.Ytcjkmmajokkkfaa.P
end
section
namespace Go.Proofs.Ytcjkmmajokkkfaa.P
open Go.RowKit Go.Proofs.YtcjkmmajokkkfaaW.PrintWords Go.Proofs.YtcjkmmajokkkfaaW.PrintLast Go.Proofs.YtcjkmmajokkkfaaW.PrintMore
attribute [local go_sem] max2_int min2_int max_two min_two max_three min_three max_four min_four
set_option linter.unusedVariables false
set_option linter.unusedSimpArgs false
end Go.Proofs.Ytcjkmmajokkkfaa.P
end
section
namespace Go.Proofs.Ytcjkmmajokkkfaa.P
open Go.RowKit Go.Proofs.YtcjkmmajokkkfaaW.PrintWords Go.Proofs.YtcjkmmajokkkfaaW.PrintLast Go.Proofs.YtcjkmmajokkkfaaW.PrintMore
attribute [local go_sem] max2_int min2_int max_two min_two max_three min_three max_four min_four
set_option linter.unusedVariables false
set_option linter.unusedSimpArgs false
end Go.Proofs.Ytcjkmmajokkkfaa.P
end
section
namespace Go.Proofs.Ytcjkmmajokkkfaa.P
open Go.RowKit Go.Proofs.YtcjkmmajokkkfaaW.PrintWords Go.Proofs.YtcjkmmajokkkfaaW.PrintLast Go.Proofs.YtcjkmmajokkkfaaW.PrintMore
attribute [local go_sem] max2_int min2_int max_two min_two max_three min_three max_four min_four
set_option linter.unusedVariables false
set_option linter.unusedSimpArgs false
end Go.Proofs.Ytcjkmmajokkkfaa.P
end
section
namespace Go.Proofs.Ytcjkmmajokkkfaa.P
open Go.RowKit Go.Proofs.YtcjkmmajokkkfaaW.PrintWords Go.Proofs.YtcjkmmajokkkfaaW.PrintLast Go.Proofs.YtcjkmmajokkkfaaW.PrintMore
attribute [local go_sem] max2_int min2_int max_two min_two max_three min_three max_four min_four
set_option linter.unusedVariables false
set_option linter.unusedSimpArgs false
end Go.Proofs.Ytcjkmmajokkkfaa.P
end
section
namespace Go.Proofs.Ytcjkmmajokkkfaa.P
open Go.RowKit Go.Proofs.YtcjkmmajokkkfaaW.PrintWords Go.Proofs.YtcjkmmajokkkfaaW.PrintLast Go.Proofs.YtcjkmmajokkkfaaW.PrintMore
attribute [local go_sem] max2_int min2_int max_two min_two max_three min_three max_four min_four
set_option linter.unusedVariables false
set_option linter.unusedSimpArgs false
end Go.Proofs.Ytcjkmmajokkkfaa.P
end
section
namespace Go.Proofs.Ytcjkmmajokkkfaa.P
open Go.RowKit Go.Proofs.YtcjkmmajokkkfaaW.PrintWords Go.Proofs.YtcjkmmajokkkfaaW.PrintLast Go.Proofs.YtcjkmmajokkkfaaW.PrintMore
attribute [local go_sem] max2_int min2_int max_two min_two max_three min_three max_four min_four
set_option linter.unusedVariables false
set_option linter.unusedSimpArgs false
end Go.Proofs.Ytcjkmmajokkkfaa.P
end
section
namespace Go.Proofs.Ytcjkmmajokkkfaa.P
open Go.RowKit Go.Proofs.YtcjkmmajokkkfaaW.PrintWords Go.Proofs.YtcjkmmajokkkfaaW.PrintLast Go.Proofs.YtcjkmmajokkkfaaW.PrintMore
attribute [local go_sem] max2_int min2_int max_two min_two max_three min_three max_four min_four
set_option linter.unusedVariables false
set_option linter.unusedSimpArgs false
end Go.Proofs.Ytcjkmmajokkkfaa.P
end
section
namespace Go.Proofs.Ytcjkmmajokkkfaa.P
open Go.RowKit Go.Proofs.YtcjkmmajokkkfaaW.PrintWords Go.Proofs.YtcjkmmajokkkfaaW.PrintLast Go.Proofs.YtcjkmmajokkkfaaW.PrintMore
attribute [local go_sem] max2_int min2_int max_two min_two max_three min_three max_four min_four
set_option linter.unusedVariables false
set_option linter.unusedSimpArgs false
end Go.Proofs.Ytcjkmmajokkkfaa.P
end
section
namespace Go.Proofs.Ytcjkmmajokkkfaa.P
open Go.RowKit Go.Proofs.YtcjkmmajokkkfaaW.PrintWords Go.Proofs.YtcjkmmajokkkfaaW.PrintLast Go.Proofs.YtcjkmmajokkkfaaW.PrintMore
attribute [local go_sem] max2_int min2_int max_two min_two max_three min_three max_four min_four
set_option linter.unusedVariables false
set_option linter.unusedSimpArgs false
end Go.Proofs.Ytcjkmmajokkkfaa.P
end
section
namespace Go.Proofs.Ytcjkmmajokkkfaa.P
open Go.RowKit Go.Proofs.YtcjkmmajokkkfaaW.PrintWords Go.Proofs.YtcjkmmajokkkfaaW.PrintLast Go.Proofs.YtcjkmmajokkkfaaW.PrintMore
attribute [local go_sem] max2_int min2_int max_two min_two max_three min_three max_four min_four
set_option linter.unusedVariables false
set_option linter.unusedSimpArgs false
end Go.Proofs.Ytcjkmmajokkkfaa.P
end
