/- Words and proofs that BloomNever leans on; put together by wip/tools/shake.py. -/
import Derived.Test.YtiijfpalnbpfkaaZBloomNever0
import Derived.Test.YtiijfpalnbpfkaaZBloomNever1
import Derived.Test.YtiijfpalnbpfkaaZBloomNever2
import Derived.Test.YtiijfpalnbpfkaaZBloomNever3
import Derived.Test.YtiijfpalnbpfkaaZBloomNever4
import Derived.Test.YtiijfpalnbpfkaaZBloomNever5
import Derived.Test.YtiijfpalnbpfkaaZBloomNever6
import Derived.ArgAppend
import Derived.Below
import Derived.BigQuiet
import Derived.Deep.AppendLies
import Derived.Deep.CutBlock
import Derived.Deep.DeepCutAuto
import Derived.Deep.Draws
import Derived.Deep.LoopGhost
import Derived.Deep.OwnRows
import Derived.Deep.QuietTactic
import Derived.Deep.RegionHeld3
import Derived.Ground.NamesProg
import Derived.Handy
import Derived.KernelRfl
import Derived.Laws.BitsLemmas
import Derived.Laws.BytesArg
import Derived.Laws.Cover1
import Derived.Laws.IdiomCopy
import Derived.Laws.MakeOwn
import Derived.Laws.OwnMore
import Derived.Laws.Rows
import Derived.Laws.Slices
import Derived.Laws.StructEq
import Derived.Lib.AppendStr
import Derived.Lib.BitFns
import Derived.Lib.ConvBytes
import Derived.Lib.OwnBridge
import Derived.Lib.RowBridge
import Derived.Lib.Slices
import Derived.Lib.Small
import Derived.Lib.Strings
import Derived.Lib.Walk
import Derived.LoopIn
import Derived.LoopN
import Derived.LoopNIn
import Derived.Maps.AppendAt
import Derived.OrdersHeld
import Derived.OwnWalk
import Derived.OwnWalkIn
import Derived.RangeFuncBound
import Derived.RangeFuncBox
import Derived.RangeFuncCalls
import Derived.RangeFuncFrom
import Derived.RangeFuncLeaves
import Derived.RangeFuncNested
import Derived.RowKit
import Derived.RowKit3
import Derived.ScopeJumps
import Derived.Shelf.Abstract
import Derived.Shelf.Lay
import Derived.Shelf.Slices.CompactS
import Derived.Shelf.Slices.In.SortNone
import Derived.Shelf.Sort.Plain
import Derived.Sort.EveryDepth
import Derived.Sort.OwnSorted
import Derived.Sort.QuietIn
import Derived.Tactics
import Derived.TacticsInMore
import Derived.Test.YtiijfpalnbpfkaaChecked
import Derived.Test.YtiijfpalnbpfkaaProg
import Derived.WalkKit
import Derived.WalkMore
import Derived.WalkSpells
import Derived.WideLaws
section
namespace Go.Proofs.Ytiijfpalnbpfkaa.P
open Go.RowKit Go.Proofs.YtiijfpalnbpfkaaW.PrintWords Go.Proofs.YtiijfpalnbpfkaaW.PrintLast Go.Proofs.YtiijfpalnbpfkaaW.PrintMore
attribute [local go_sem] max2_int min2_int max_two min_two max_three min_three max_four min_four
set_option linter.unusedVariables false
set_option linter.unusedSimpArgs false
def errW : Option Int → Value
 | none => .nilIface
 | some c => .iface 0 (.int .i64 c)
theorem eWn_ : errW none = .nilIface := rfl
theorem eWs_ (c : Int) : errW (some c) = .iface 0 (.int .i64 c) := rfl
theorem info5 : (Try.prog.info? 5).map (fun i => (i.zero, i.size, i.bytes)) = some (some (.int .u8 0), 1, 1) := by kernel_rfl
theorem info9 : (Try.prog.info? 9).map (fun i => (i.zero, i.size, i.bytes)) = some (some (.string ⟨#[]⟩), 1, 16) := by kernel_rfl
end Go.Proofs.Ytiijfpalnbpfkaa.P
end
section
namespace Go.Proofs.Ytiijfpalnbpfkaa.P
open Go.RowKit Go.Proofs.YtiijfpalnbpfkaaW.PrintWords Go.Proofs.YtiijfpalnbpfkaaW.PrintLast Go.Proofs.YtiijfpalnbpfkaaW.PrintMore
attribute [local go_sem] max2_int min2_int max_two min_two max_three min_three max_four min_four
set_option linter.unusedVariables false
set_option linter.unusedSimpArgs false
def bloom_Hash.l0 : Nat → ByteArray → Int → Int → Int → Option (Int)
 | 0, _, _, _, _ => none
 | k + 1, x0, x3, x6, x7 => if x7 < x6 then (if 0 ≤ x7 then (if x7 < (x0.size : Int) then (bloom_Hash.l0 k x0 (IntKind.u64.wrap ((Go.bits .xor .u64 x3 (IntKind.u64.wrap (bt x0 x7))) * 1099511628211)) x6 (wrap64 (x7 + 1))) else (none)) else (none)) else (some (IntKind.u64.wrap ((Go.bits .xor .u64 x3 (x3 / 4294967296)) * 11400714819323198485)))
def bloom_Hash.f (k : Nat) (a0 : ByteArray) : Option (Int) := bloom_Hash.l0 k a0 14695981039346656037 (a0.size : Int) 0
theorem bloom_Hash.mono_l : ∀ k, (∀ y0 y1 y2 y3, LeO (bloom_Hash.l0 k y0 y1 y2 y3) (bloom_Hash.l0 (k + 1) y0 y1 y2 y3))
 | 0 => fun _ _ _ _ r h => by simp [bloom_Hash.l0] at h
 | k + 1 => by
  have ih0 := bloom_Hash.mono_l k
  ·intro y0 y1 y2 y3
   unfold bloom_Hash.l0
   repeat' first
   | (with_reducible exact ih0 _ _ _ _)
   | (with_reducible exact LeO.refl _)
   | (with_reducible exact LeO.none _)
   | (with_reducible refine LeO.ite ?_ ?_)
   | (with_reducible refine LeO.bind ?_ (fun _ => ?_))
   | exact ih0 _ _ _ _
   | exact LeO.none _
   | refine LeO.ite ?_ ?_
   | refine LeO.bind ?_ (fun _ => ?_)
theorem bloom_Hash.mono : ∀ a0 k, LeO (bloom_Hash.f k a0) (bloom_Hash.f (k + 1) a0) := by
 intro a0 k
 have ih0 := bloom_Hash.mono_l k
 unfold bloom_Hash.f
 repeat' first
   | (with_reducible exact ih0 _ _ _ _)
   | (with_reducible exact LeO.refl _)
   | (with_reducible exact LeO.none _)
   | (with_reducible refine LeO.ite ?_ ?_)
   | (with_reducible refine LeO.bind ?_ (fun _ => ?_))
   | exact ih0 _ _ _ _
   | exact LeO.none _
   | refine LeO.ite ?_ ?_
   | refine LeO.bind ?_ (fun _ => ?_)
set_option maxHeartbeats 8000000 in
set_option maxRecDepth 100000 in
theorem bloom_Hash.calls (k : Nat) (a0 : ByteArray) (r : Int) (w : World) (h : bloom_Hash.f k a0 = some r) :
  Calls Try.prog 10 #[.string a0] w fun e w' => e = .returned (.int .u64 r) ∧ Drawn0 w w' := by
 have H : (bloom_Hash.l0 k a0 14695981039346656037 (a0.size : Int) 0) = some r := h
 clear h
 have H' := Aside0.mk H
 clear H
 go_enter Try.func10, Try.ntmps10
 go_wp2
 go_loopg [3, 7] k (fun kq v3 v7 w' => ∃ (x3_1 : Int) (x7_1 : Int), v3 = .int .u64 x3_1 ∧ v7 = .int .i64 x7_1 ∧ Aside0 (bloom_Hash.l0 kq a0 x3_1 (a0.size : Int) x7_1 = some r) ∧ Aside0 (kq ≤ k) ∧ Drawn0 w w')
 case atStart => exact ⟨(14695981039346656037), (0), (by first | rfl | (simp; done) | (simp [*]; done)), (by first | rfl | (simp; done) | (simp [*]; done)), H', ⟨Nat.le_refl _⟩, by repeat (first | exact Drawn0.refl _ | apply Drawn0.step)⟩
 case round =>
  clear H'
  try clear c1
  obtain ⟨x3_1, x7_1, rfl, rfl, HA, HK1, ⟨m1, rfl⟩⟩ := hrel
  cases gk with
  | zero => exact absurd HA.out (by simp [bloom_Hash.l0])
  | succ k1 =>
   have H := HA.out
   clear HA
   simp only [bloom_Hash.l0] at H
   by_cases c2 : x7_1 < (a0.size : Int)
   ·rw [if_pos c2] at H
    have c2b0 : decide (x7_1 < (a0.size : Int)) = true := decide_eq_true c2
    clear c2
    by_cases c3 : 0 ≤ x7_1
    ·rw [if_pos c3] at H
     have c3b0 : decide (0 ≤ x7_1) = true := decide_eq_true c3
     clear c3
     by_cases c4 : x7_1 < (a0.size : Int)
     ·rw [if_pos c4] at H
      have c4b0 : decide (x7_1 < (a0.size : Int)) = true := decide_eq_true c4
      clear c4
      have H' := Aside0.mk H
      clear H
      have p5 : 0 ≤ (x7_1 : Int) := of_decide_eq_true (by first | (with_reducible assumption) | assumption)
      have q5 : x7_1 < (a0.size : Int) := of_decide_eq_true (by first | (with_reducible assumption) | assumption)
      have hx5 := bt_at a0 x7_1
      replace p5 := eq_true p5
      replace q5 := eq_true q5
      go_wp2
      go_roundg k1
      case measure => have := HK1.out; omega
      case rel => exact ⟨(IntKind.u64.wrap ((Go.bits .xor .u64 x3_1 (IntKind.u64.wrap (bt a0 x7_1))) * 1099511628211)), (wrap64 (x7_1 + 1)), (by first | rfl | (simp; done) | (simp [*]; done)), (by first | rfl | (simp; done) | (simp [*]; done)), H', ⟨by have := HK1.out; omega⟩, by repeat (first | exact Drawn0.refl _ | apply Drawn0.step)⟩
     ·rw [if_neg c4] at H
      exact absurd H (by simp)
    ·rw [if_neg c3] at H
     exact absurd H (by simp)
   ·rw [if_neg c2] at H
    have c2b0 : decide (x7_1 < (a0.size : Int)) = false := decide_eq_false c2
    clear c2
    obtain rfl := Option.some.inj H
    go_wp2
    go_ret
    exact ⟨by first | rfl | (simp; done) | (simp [*]; done), by repeat (first | exact Drawn0.refl _ | apply Drawn0.step)⟩
section
attribute [local go_sem] Oper.semAt_some
def bloom_probe (h : Int) : Nat → Int
 | 0 => Go.bits .and .u64 h 4294967295
 | j + 1 => IntKind.u64.wrap (bloom_probe h j + Go.bits .or .u64 (h / 4294967296) 1)
def bloom_spot (h n : Int) (j : Nat) : Int := (bloom_probe h j).tmod n
def bloom_at (q : Int) : Int := IntKind.u64.wrap (q.tdiv 8)
def bloom_bit (q : Int) : Int := IntKind.u8.wrap (2 ^ (q.tmod 8).toNat)
theorem bloom_shift (q : Int) (h0 : 0 ≤ q) : Op.shift .shl .u8 1 .u64 (q.tmod 8) = pure (.int .u8 (bloom_bit q)) := by
 have h2 := Int.tmod_eq_emod_of_nonneg (b := 8) h0
 have h1 := shift_shl .u8 .u64 1 (q.tmod 8) (by omega) (by simp [IntKind.bits]; omega)
 rw [h1, Int.one_mul]
 rfl
abbrev BloomNo := { j : Nat // j < 4 }
def encBloom (h n : Int) (x : BloomNo) : Array Value := #[.int .u64 (bloom_at (bloom_spot h n x.1)), .int .u8 (bloom_bit (bloom_spot h n x.1))]
theorem u64_nonneg (x : Int) : 0 ≤ IntKind.u64.wrap x := by
 simp only [IntKind.wrap, IntKind.bits, IntKind.signed, Bool.false_and, Bool.false_eq_true, if_false]
 omega
theorem bloom_probe_nonneg (h : Int) (h0 : 0 ≤ h) : ∀ j, 0 ≤ bloom_probe h j
 | 0 => by
  obtain ⟨a, rfl⟩ := Int.eq_ofNat_of_zero_le h0
  unfold bloom_probe Go.bits
  exact u64_nonneg _
 | j + 1 => u64_nonneg _
theorem places_in (n : Nat) (A : Option Addr) (len cap : Nat) (s : ByteArray) (w : World) :
  CallsIn Fence.wide n Try.prog 25 #[.slice A len cap, .string s] w fun e w' => e = .returned (.func (.func 32) #[] #[.pointer (some ⟨w.heap.size + 1, 0, none⟩), .pointer (some ⟨w.heap.size, 0, none⟩)]) ∧ w' = (w.alloc (.cells #[.slice A len cap] 30)).alloc (.cells #[.string s] 9) := by
 refine callsIn_of_wp Try.func25 rfl trivial ?_ rfl
 simp only [Try.ntmps25, List.size_toArray, List.length_cons, List.length_nil, Nat.reduceAdd, Nat.reduceSub, Array.replicate_succ, Array.replicate_zero, List.push_toArray, List.append_toArray, List.nil_append, List.cons_append]
 gi_wp2
 go_ret
 exact ⟨rfl, rfl⟩
theorem merged_grown_ (W : World) (n : Nat) : W.grownBy (W.drewN n) none := ⟨rfl, rfl, rfl, Nat.le_refl _, fun k _ _ => rfl⟩
set_option maxRecDepth 100000 in
set_option maxHeartbeats 2000000 in
theorem places1_in (l Bs Bf n₀ k : Nat) (A : Option Addr) (len cap : Nat) (s : ByteArray) (h m : Int) (hh : bloom_Hash.f k s = some h) (hh0 : 0 ≤ h) (hm : m = IntKind.u64.wrap (IntKind.u64.wrap (len : Int) * 8)) (hm0 : m ≠ 0) (J Jx : List BloomNo → World → Prop)
  (hY : ∀ pre x W, J pre W → pre.length < 4 → YieldAt Fence.wide 7 Try.prog l (encBloom h m x) W fun e W' =>
   (e = .returned (.bool true) ∧ J (pre ++ [x]) W' ∧ Below n₀ W W') ∨ (e = .returned (.bool false) ∧ Jx (pre ++ [x]) W'))
  (B : Nat) (hA : AbidesFrom B J) (W : World) (hBs : W.cell? ⟨Bs, 0, none⟩ = some (.string s)) (hBf : W.cell? ⟨Bf, 0, none⟩ = some (.slice A len cap)) (h0 : J [] W) :
  CallsIn Fence.wide 8 Try.prog 32 #[.func (.yield l) #[] #[], .pointer (some ⟨Bs, 0, none⟩), .pointer (some ⟨Bf, 0, none⟩)] W fun e W' => (∃ v, e = .returned v) ∧
   ((∃ ys : List BloomNo, ys.map (·.1) = List.range 4 ∧ J ys W') ∨ (∃ pre, True ∧ Jx pre W')) := by
 refine callsIn_of_wp Try.func32 rfl trivial ?_ rfl
 simp only [Try.ntmps32, List.size_toArray, List.length_cons, List.length_nil, Nat.reduceAdd, Nat.reduceSub, Array.replicate_succ, Array.replicate_zero, List.push_toArray, List.append_toArray, List.nil_append, List.cons_append]
 gi_wp2
 refine wpIn_region_quiet_lit rfl (by kernel_rfl) (by kernel_rfl) ?_
 gi_big_quiet_step (fail)
 refine wpQuietIn_step (fun _ _ _ _ => trivial) (fun K hK => ?_)
 go_simp
 refine ⟨.int .u64 h, fun m_ => CallsIn.quiet_of ((callsIn_wide.2 (bloom_Hash.calls k s h _ hh)).mono (fun e w2 ⟨he, hd⟩ => ⟨he, by obtain ⟨d, hd⟩ := hd; exact ⟨d, hd⟩⟩)), hK _ ?_⟩
 clear hK K
 repeat (gi_big_quiet_step (fail))
 refine wpQuietIn_nil ?_
 rintro _ ⟨nq, rfl⟩
 rw [← hm]
 have HM := Aside0.mk hm
 clear hm
 gi_wp2
 gi_loopw [6, 20] (fun v6 v20 wr => ∃ (j : Nat) (pre : List BloomNo), v6 = .int .u64 (bloom_probe h j) ∧ v20 = .int .i64 (j : Int) ∧ Aside0 (j ≤ 4) ∧ Aside0 (pre.map (·.1) = List.range j) ∧ J pre wr) (fun _ i _ => 4 - (intOf i).toNat)
 case atStart => exact ⟨0, [], rfl, rfl, ⟨by decide⟩, ⟨rfl⟩, hA _ _ _ none h0 (merged_grown_ W nq) (fun r e => by cases e)⟩
 case round =>
  obtain ⟨j, pre, rfl, rfl, hj, hpre, hJ⟩ := hrel
  by_cases hlt : j < 4
  ·have g : decide ((j : Int) < 4) = true := decide_eq_true (by omega)
   have hpl : pre.length < 4 := by have := congrArg List.length hpre.out; simp at this; omega
   obtain ⟨fn, tmps, assign, body, hy, hR⟩ := hY pre ⟨j, hlt⟩ wr hJ hpl
   obtain ⟨q, hq⟩ : ∃ q, (bloom_probe h j).tmod m = q := ⟨_, rfl⟩
   have hq0 : 0 ≤ q := by rw [← hq]; exact Int.tmod_nonneg _ (bloom_probe_nonneg h hh0 j)
   have hsh := bloom_shift q hq0
   obtain ⟨b, hb⟩ : ∃ b, bloom_bit q = b := ⟨_, rfl⟩
   obtain ⟨P, hP⟩ : ∃ P, IntKind.u64.wrap (q.tdiv 8) = P := ⟨_, rfl⟩
   rw [hb] at hsh
   have hy2 : (Instr.yield l #[.int .u64 P, .int .u8 b]).run Try.prog wr = .ok (.round l fn tmps assign body) wr := by
    rw [← hP, ← hb, ← hq]
    exact hy
   have HB := Aside0.mk hb
   have HQ := Aside0.mk hq0
   have HPL := Aside0.mk hpl
   clear hy hb hq0 hpl
   gi_wp2
   refine hR.mono ?_
   rintro e W3 (⟨rfl, hJ3, hk3⟩ | ⟨rfl, hJx3⟩)
   ·gi_wp2
    go_roundw
    case rel => exact ⟨j + 1, pre ++ [⟨j, hlt⟩], rfl, by first | rfl | (congr 1; omega), ⟨by omega⟩, ⟨by rw [List.map_append, hpre.out, List.range_succ]; rfl⟩, hJ3⟩
    case measure => simp [intOf]; omega
   ·gi_wp2
    refine bodyPost_ret (results_none rfl _ _ _) rfl ?_
    exact ⟨⟨_, rfl⟩, .inr ⟨_, trivial, hJx3⟩⟩
  ·have g : decide ((j : Int) < 4) = false := decide_eq_false (by omega)
   gi_wp2
   go_end0
   refine ⟨⟨_, rfl⟩, .inl ⟨pre, ?_, hJ⟩⟩
   rw [hpre.out, show j = 4 by have := hj.out; omega]
theorem places_stops (Bs Bf n₀ k : Nat) (A : Option Addr) (len cap : Nat) (s : ByteArray) (h m : Int) (hh : bloom_Hash.f k s = some h) (hh0 : 0 ≤ h) (hm : m = IntKind.u64.wrap (IntKind.u64.wrap (len : Int) * 8)) (hm0 : m ≠ 0) (w : World) (hB : Bs < w.heap.size) (hB2 : Bf < w.heap.size)
  (hBs : w.cell? ⟨Bs, 0, none⟩ = some (.string s)) (hBf : w.cell? ⟨Bf, 0, none⟩ = some (.slice A len cap)) :
  SeqStopsK Fence.wide 8 Try.prog 32 #[.pointer (some ⟨Bs, 0, none⟩), .pointer (some ⟨Bf, 0, none⟩)] (encBloom h m) (Below n₀) (fun ys => ys.map (·.1) = List.range 4) (fun _ => True) 4 w := fun l J Jx W hW hJ _ hY h0 =>
 places1_in l Bs Bf n₀ k A len cap s h m hh hh0 hm hm0 J Jx hY W.heap.size hJ W ((hW.cell (p := ⟨Bs, 0, none⟩) hB).trans hBs) ((hW.cell (p := ⟨Bf, 0, none⟩) hB2).trans hBf) h0
def bloom_Has.hit (f : List Int) (h m : Int) (j : Nat) : Bool := !(Go.bits .and .u8 (rd f (bloom_at (bloom_spot h m j))) (bloom_bit (bloom_spot h m j)) == 0)
def bloom_Has.f (k : Nat) (f : List Int) (s : ByteArray) : Option Bool :=
 if f.length = 0 then some false else if f.length ≤ 140737488355328 then (bloom_Hash.f k s).bind fun h => if 0 ≤ h then some ((List.range 4).all (bloom_Has.hit f h (8 * f.length))) else none else none
theorem bloom_Has.mono : ∀ f s k, LeO (bloom_Has.f k f s) (bloom_Has.f (k + 1) f s) := by
 intro f s k
 unfold bloom_Has.f
 exact LeO.ite (LeO.refl _) (LeO.ite (LeO.bind (bloom_Hash.mono _ _) (fun _ => LeO.refl _)) (LeO.refl _))
theorem bloom_range (h n : Int) (h0 : 0 ≤ h) (hn : 0 < n) (j : Nat) : 0 ≤ bloom_spot h n j ∧ bloom_spot h n j < n := by
 unfold bloom_spot
 exact ⟨Int.tmod_nonneg _ (bloom_probe_nonneg h h0 j), Int.tmod_lt_of_pos _ hn⟩
theorem bloom_in (h : Int) (len : Nat) (h0 : 0 ≤ h) (hl : 0 < len) (hl2 : len ≤ 140737488355328) (j : Nat) : 0 ≤ bloom_at (bloom_spot h (8 * len) j) ∧ bloom_at (bloom_spot h (8 * len) j) < len := by
 have h1 := bloom_range h (8 * len) h0 (by omega) j
 unfold bloom_at
 generalize bloom_spot h (8 * len) j = q at h1
 rw [Int.tdiv_eq_ediv_of_nonneg h1.1]
 have : IntKind.u64.wrap (q / 8) = q / 8 := by
  simp only [IntKind.wrap, IntKind.bits, IntKind.signed, Bool.false_and, Bool.false_eq_true, if_false]
  omega
 rw [this]
 omega
theorem bloom_len (len : Nat) (hl2 : len ≤ 140737488355328) : (8 * len : Int) = IntKind.u64.wrap (IntKind.u64.wrap (len : Int) * 8) := by
 simp only [IntKind.wrap, IntKind.bits, IntKind.signed, Bool.false_and, Bool.false_eq_true, if_false]
 omega
set_option maxRecDepth 100000 in
set_option maxHeartbeats 4000000 in
theorem bloom_Has.calls (k : Nat) (A0 : Option Addr) (c0 : Nat) (l0 : List Int) (s : ByteArray) (r : Bool) (w : World) (hr0 : Kd.C (Kd.int .u8) w A0 l0.length l0) (hc0 : l0.length ≤ c0) (h : bloom_Has.f k l0 s = some r) :
  Calls Try.prog 18 #[.slice A0 l0.length c0, .string s] w fun e w' => e = .returned (.bool r) ∧ Below w.heap.size w w' := by
 have HR0 := Aside0.mk hr0
 have HC0 := Aside0.mk hc0
 clear hr0 hc0
 unfold bloom_Has.f at h
 by_cases hz : l0.length = 0
 ·rw [if_pos hz] at h
  obtain rfl := Option.some.inj h
  refine (callsIn_wide (n := 9)).1 ?_
  refine callsIn_of_wp_marks Try.func18 rfl trivial ?_ rfl
  simp only [Try.ntmps18, List.size_toArray, List.length_cons, List.length_nil, Nat.reduceAdd, Nat.reduceSub, Array.replicate_succ, Array.replicate_zero, List.push_toArray, List.append_toArray, List.nil_append, List.cons_append]
  gi_wp2
  have hv : ((w.alloc (Obj.cells #[Value.slice A0 0 c0] 30)).alloc (Obj.cells #[Value.bool false] 4)).cell? ⟨w.heap.size + 1, 0, none⟩ = some (.bool false) := by
   have := (Boxed.new (w.alloc (Obj.cells #[Value.slice A0 0 c0] 30)) 4 (.bool false)).cell
   rwa [World.size_alloc] at this
  refine ⟨.bool false, ?_, rfl, ((Below.refl _ w).alloc (Nat.le_refl _) _).alloc (by simp) _⟩
  simp [results, Try.f18, go_sem, hv]
 ·rw [if_neg hz] at h
  by_cases hlen : l0.length ≤ 140737488355328
  case neg => rw [if_neg hlen] at h; cases h
  rw [if_pos hlen] at h
  obtain ⟨hs, hh, h⟩ := Option.bind_eq_some_iff.1 h
  by_cases hh0 : 0 ≤ hs
  case neg => rw [if_neg hh0] at h; cases h
  rw [if_pos hh0] at h
  have hr := Option.some.inj h
  clear h
  have hz' : (l0.length : Int) ≠ 0 := by omega
  have HR := Aside0.mk hr
  have HZ := Aside0.mk hz
  have HL := Aside0.mk hlen
  have HHH := Aside0.mk hh
  have HH0 := Aside0.mk hh0
  clear hr hlen hh hh0
  refine (callsIn_wide (n := 9)).1 ?_
  refine callsIn_of_wp_marks Try.func18 rfl trivial ?_ rfl
  simp only [Try.ntmps18, List.size_toArray, List.length_cons, List.length_nil, Nat.reduceAdd, Nat.reduceSub, Array.replicate_succ, Array.replicate_zero, List.push_toArray, List.append_toArray, List.nil_append, List.cons_append]
  gi_wp2_with (first | (refine ⟨trivial, ?_⟩; gi_at_call 25; (with_reducible refine (places_in _ A0 l0.length c0 s _).mono ?_); rintro e w2 ⟨rfl, rfl⟩) | fail)
  obtain ⟨n1, hn1⟩ : ∃ n1 : Nat, Aside0 (n1 = w.heap.size) := ⟨_, ⟨rfl⟩⟩
  obtain ⟨W0, hW0⟩ : ∃ W0, Aside0 (W0 = ((((w.alloc (Obj.cells #[Value.slice A0 l0.length c0] 30)).alloc (Obj.cells #[Value.bool false] 4)).alloc (Obj.cells #[Value.slice A0 l0.length c0] 30)).alloc (Obj.cells #[Value.string s] 9))) := ⟨_, ⟨rfl⟩⟩
  have hW0s : W0.heap.size = n1 + 4 := by rw [hW0.out, hn1.out]; simp
  have hBel : Below w.heap.size w W0 := by rw [hW0.out]; exact pbA_ (pbA_ (pbA_ (pbA_ (Below.refl _ _) _) _) _) _
  have hb0 : Boxed W0 n1 30 (.slice A0 l0.length c0) := by rw [hW0.out, hn1.out]; exact (((Boxed.new w 30 _).alloc _).alloc _).alloc _
  have hb1 : Boxed W0 (n1 + 1) 4 (.bool false) := by
   have h_ := ((Boxed.new (w.alloc (Obj.cells #[Value.slice A0 l0.length c0] 30)) 4 (.bool false)).alloc (Obj.cells #[Value.slice A0 l0.length c0] 30)).alloc (Obj.cells #[Value.string s] 9)
   rw [World.size_alloc] at h_
   rw [hW0.out, hn1.out]
   exact h_
  have hb2 : W0.cell? ⟨n1 + 2, 0, none⟩ = some (.slice A0 l0.length c0) := by
   have h_ := ((Boxed.new ((w.alloc (Obj.cells #[Value.slice A0 l0.length c0] 30)).alloc (Obj.cells #[Value.bool false] 4)) 30 (.slice A0 l0.length c0)).alloc (Obj.cells #[Value.string s] 9)).cell
   rw [World.size_alloc, World.size_alloc] at h_
   rw [hW0.out, hn1.out]
   exact h_
  have hb3 : W0.cell? ⟨n1 + 3, 0, none⟩ = some (.string s) := by
   have h_ := (Boxed.new (((w.alloc (Obj.cells #[Value.slice A0 l0.length c0] 30)).alloc (Obj.cells #[Value.bool false] 4)).alloc (Obj.cells #[Value.slice A0 l0.length c0] 30)) 9 (.string s)).cell
   rw [World.size_alloc, World.size_alloc, World.size_alloc] at h_
   rw [hW0.out, hn1.out]
   exact h_
  rw [← hW0.out, ← hn1.out]
  have hle : w.heap.size ≤ n1 := by rw [hn1.out]; exact Nat.le_refl _
  refine wpIn_rangeFunc_ownF (F := Fence.wide) rfl (by decide) (gf := 32) (lb := #[.pointer (some ⟨n1 + 3, 0, none⟩), .pointer (some ⟨n1 + 2, 0, none⟩)]) rfl trivial (enters_of Try.func32 (by kernel_rfl) rfl)
   (places_stops (n1 + 3) (n1 + 2) w.heap.size k A0 l0.length c0 s hs (8 * l0.length) HHH.out HH0.out (bloom_len _ HL.out) (by omega) W0 (by omega) (by omega) hb3 hb2) belowK_t (belowK_b (by omega)) (Below.refl _ _) (fun _ => rfl)
   (fun pre W => ((∀ j ∈ pre, bloom_Has.hit l0 hs (8 * l0.length) j.1 = true) ∧ Boxed W n1 30 (.slice A0 l0.length c0) ∧ Boxed W (n1 + 1) 4 (.bool false)) ∧ Below w.heap.size w W)
   (fun c pre W => (c = .ret ∧ (∃ j ∈ pre, bloom_Has.hit l0 hs (8 * l0.length) j.1 = false) ∧ Boxed W (n1 + 1) 4 (.bool false)) ∧ Below w.heap.size w W)
   (OwnFrom.and (Own.from (fun s X Y row hp hg hr => ⟨hp.1, boxed_own n1 30 (fun _ => .slice A0 l0.length c0) s X Y row hp.2.1 hg hr, boxed_own (n1 + 1) 4 (fun _ => .bool false) s X Y row hp.2.2 hg hr⟩) _) (ownFrom_below (Nat.le_refl _) (by omega)))
   (fun c => OwnFrom.and (Own.from (fun s X Y row hp hg hr => ⟨hp.1, hp.2.1, boxed_own (n1 + 1) 4 (fun _ => .bool false) s X Y row hp.2.2 hg hr⟩) _) (ownFrom_below (Nat.le_refl _) (by omega)))
   ⟨⟨by simp, hb0, hb1⟩, hBel⟩
   (fun x => { tmps := #[Value.slice A0 l0.length c0, Value.string s, Value.pointer (some { block := n1, off := 0 }), undef, Value.pointer (some { block := n1 + 1, off := 0 }), .int .u64 (bloom_at (bloom_spot hs (8 * l0.length) x.1)), .int .u8 (bloom_bit (bloom_spot hs (8 * l0.length) x.1)), Value.slice A0 l0.length c0,
     Value.int IntKind.i64 ↑l0.length, Value.bool false, Value.slice A0 l0.length c0, Value.string s,
     Value.func (Fn.func 32) #[] #[Value.pointer (some { block := n1 + 1 + 1 + 1, off := 0 }), Value.pointer (some { block := n1 + 1 + 1, off := 0 })], .int .u64 (bloom_at (bloom_spot hs (8 * l0.length) x.1)), .int .u8 (bloom_bit (bloom_spot hs (8 * l0.length) x.1)), undef, undef, undef, undef, undef, undef, undef], defers := [] }) ?assign ?body ?done ?stop
  case assign =>
   intro l x W K hK
   dsimp only [encBloom]
   gi_wp2
   exact hK
  case body =>
   rintro l pre x W ⟨⟨hp, hv, hv1⟩, hB⟩ hlen
   have hin := bloom_in hs l0.length HH0.out (by have := HZ.out; omega) HL.out x.1
   obtain ⟨P, hP⟩ : ∃ P, bloom_at (bloom_spot hs (8 * l0.length) x.1) = P := ⟨_, rfl⟩
   obtain ⟨b, hb⟩ : ∃ b, bloom_bit (bloom_spot hs (8 * l0.length) x.1) = b := ⟨_, rfl⟩
   rw [hP] at hin
   rw [hP, hb]
   obtain ⟨ad, e, hx⟩ := Kd.at_int HR0.out P hin.1 hin.2
   subst e
   have hx := (hB.cell (World.block_lt_of_cell? w _ hx)).trans hx
   have hcv := hv.cell
   have hcv1 := hv1.cell
   have hfv1 := hv1.frozen
   have p := eq_true hin.1
   have q := eq_true hin.2
   have HP := Aside0.mk hP
   have HBB := Aside0.mk hb
   clear hP hb
   by_cases hbit : Go.bits .and .u8 (rd l0 P) b = 0
   ·have hbit1 : (Go.bits .and .u8 (rd l0 P) b == 0) = true := beq_iff_eq.2 hbit
    have HBT := Aside0.mk hbit
    clear hbit
    gi_wp2
    have hhit : bloom_Has.hit l0 hs (8 * l0.length) x.1 = false := by unfold bloom_Has.hit; rw [HP.out, HBB.out, HBT.out]; rfl
    exact ⟨KeepsOthers.setCell _ _ _, ⟨rfl, ⟨x, List.mem_append.2 (.inr (by simp)), hhit⟩, hv1.set _⟩, hB.setCell (p := ⟨n1 + 1, 0, none⟩) (by show w.heap.size ≤ n1 + 1; omega) _⟩
   ·have hbit1 : (Go.bits .and .u8 (rd l0 P) b == 0) = false := beq_eq_false_iff_ne.2 hbit
    have HBT := Aside0.mk hbit
    clear hbit
    gi_wp2
    have hhit : bloom_Has.hit l0 hs (8 * l0.length) x.1 = true := by unfold bloom_Has.hit; rw [HP.out, HBB.out, beq_eq_false_iff_ne.2 HBT.out]; rfl
    exact ⟨KeepsOthers.refl _, Below.refl _ _, ⟨fun y hy => (List.mem_append.1 hy).elim (hp y) (fun e => by simp at e; subst e; exact hhit), hv, hv1⟩, hB⟩
  case done =>
   rintro D ys W hD hS ⟨⟨hp, hv, hv1⟩, hB⟩ hK
   have hcv1 := hv1.cell
   have hfv1 := hv1.frozen
   gi_wp2
   have hK' := (KeepsOthers.setCell W ⟨n1 + 1, 0, none⟩ (.bool true)).same D _ hK rfl
   refine ⟨by simp, .inl ⟨_, _, rfl, run_takeDeferred hK', ?_⟩⟩
   have hc5 := cell_kept (hv1.set (.bool true)).cell (grownBy_putObj' _ D (.deferred none)) (fun r e => by cases e; exact ⟨_, hK', rfl⟩)
   have hall : (List.range 4).all (bloom_Has.hit l0 hs (8 * l0.length)) = true := by
    rw [← hS, List.all_map, List.all_eq_true]
    exact fun y hy => hp y hy
   refine ⟨.bool true, ?_, by rw [← HR.out, hall], (hB.setCell (p := ⟨n1 + 1, 0, none⟩) (by show w.heap.size ≤ n1 + 1; omega) _).trans (belowK_b (w := w) (Nat.le_refl _) _ D _ _ (by omega) hK' rfl rfl)⟩
   simp [results, Try.f18, go_sem, hc5]
  case stop =>
   rintro D c pre W hD _ ⟨⟨rfl, ⟨j, _, hj⟩, hv1⟩, hB⟩ hK
   gi_wp2
   refine ⟨by simp, .inl ⟨_, _, rfl, run_takeDeferred hK, ?_⟩⟩
   have hc5 := cell_kept hv1.cell (grownBy_putObj' _ D (.deferred none)) (fun r e => by cases e; exact ⟨_, hK, rfl⟩)
   have hall : (List.range 4).all (bloom_Has.hit l0 hs (8 * l0.length)) = false := by
    rw [Bool.eq_false_iff, ne_eq, List.all_eq_true]
    exact fun h_ => by have := h_ j.1 (List.mem_range.2 j.2); rw [hj] at this; cases this
   refine ⟨.bool false, ?_, by rw [← HR.out, hall], hB.trans (belowK_b (w := w) (Nat.le_refl _) W D _ _ (by omega) hK rfl rfl)⟩
   simp [results, Try.f18, go_sem, hc5]
end
section
attribute [local go_sem] Oper.semAt_some
def Row8 (W : World) (g e : Nat) (xs : List Int) : Prop := W.heap[g]? = some (.cells (encs (Value.int .u8) xs).toArray e (0, 0))
theorem Row8.lt {W : World} {g e : Nat} {xs : List Int} (h : Row8 W g e xs) : g < W.heap.size := (Array.getElem?_eq_some_iff.1 h).1
theorem Row8.cell {W : World} {g e : Nat} {xs : List Int} (h : Row8 W g e xs) (i : Int) (h0 : 0 ≤ i) (h1 : i < xs.length) : W.cell? ⟨g, i.toNat, none⟩ = some (.int .u8 (rd xs i)) := by
 obtain ⟨j, rfl⟩ := Int.eq_ofNat_of_zero_le h0
 have hj : j < xs.length := by omega
 simp [World.cell?, show W.heap[g]? = _ from h, encs, rd, hj]
theorem Row8.frozen {W : World} {g e : Nat} {xs : List Int} (h : Row8 W g e xs) (j : Nat) : W.frozen? ⟨g, j, none⟩ = false := by
 simp [World.frozen?, show W.heap[g]? = _ from h]
theorem Row8.put {W : World} {g e : Nat} {xs : List Int} (h : Row8 W g e xs) (j : Nat) (v : Int) : Row8 (W.setCell ⟨g, j, none⟩ (.int .u8 v)) g e (xs.set j v) := by
 unfold Row8 at h ⊢
 simp [World.setCell, Array.getElem?_modify, h, encs, List.map_set]
theorem Row8.own {β : Type} (g e : Nat) (f : β → List Int) : Own (fun s W => Row8 W g e (f s)) := fun s X Y row hs hg hr =>
 (hg.block g (Row8.lt hs) (fun e_ => by obtain ⟨o, h1, h2⟩ := hr g e_.symm; rw [show X.heap[g]? = _ from hs] at h1; cases h1; cases h2)).trans hs
theorem Row8.kept {W W' : World} {g e : Nat} {row : Option Nat} {xs : List Int} (h : Row8 W g e xs) (hg : W.grownBy W' row) (hne : some g ≠ row) : Row8 W' g e xs := (hg.block g h.lt hne).trans h
theorem Row8.made (W : World) (e n : Nat) : Row8 (W.alloc (.cells (madeCells #[.int .u8 0] n) e)) W.heap.size e (List.replicate n 0) := by
 unfold Row8
 rw [World.alloc_heap_new]
 congr 2
 apply Array.ext
 ·simp [size_madeCells, encs]
 ·intro i h1 h2
  simp [madeCells, encs, Nat.mod_one]
def Marks (B : Nat) (W : World) (ds : List Deferred) : Prop := ds.Pairwise (· ≠ ·) ∧ ∀ d ∈ ds, ∃ D, d = { target := .collected D, args := #[] } ∧ B ≤ D ∧ W.heap[D]? = some (.deferred (some []))
theorem Marks.nil (B : Nat) (W : World) : Marks B W [] := ⟨List.Pairwise.nil, fun _ h => by cases h⟩
theorem Marks.mono {B : Nat} {W W' : World} {ds : List Deferred} (h : Marks B W ds) (k : ∀ D, B ≤ D → D < W.heap.size → W.heap[D]? = some (.deferred (some [])) → W'.heap[D]? = some (.deferred (some []))) : Marks B W' ds :=
 ⟨h.1, fun d hd => by obtain ⟨D, e, hB, hD⟩ := h.2 d hd; exact ⟨D, e, hB, k D hB (Array.getElem?_eq_some_iff.1 hD).1 hD⟩⟩
theorem leaves_marks {F : Fence} {n : Nat} {P : Program} {fn : Func} {tmps : Array Value} {R : Ending → World → Prop} {u : FrameMode} {B : Nat} (hu : u ≠ .run) (K : World → Prop)
  (hstep : ∀ W D, B ≤ D → W.heap[D]? = some (.deferred (some [])) → K W → K (W.putObj D (.deferred none))) (hend : ∀ W, K W → LeavesInM F n P fn tmps R [] u W) :
  ∀ ds W, Marks B W ds → K W → LeavesInM F n P fn tmps R ds u W
 | [], W, _, hK => hend W hK
 | d :: ds, W, hm, hK => by
  obtain ⟨D, rfl, hB, hD⟩ := hm.2 d List.mem_cons_self
  refine ⟨hu, .inl ⟨D, _, rfl, run_takeDeferred hD, ?_⟩⟩
  refine leaves_marks hu K hstep hend ds _ ⟨(List.pairwise_cons.1 hm.1).2, fun d' hd' => ?_⟩ (hstep W D hB hD hK)
  obtain ⟨D', e, hB', hD'⟩ := hm.2 d' (List.mem_cons_of_mem _ hd')
  refine ⟨D', e, hB', ?_⟩
  rw [World.putObj_heap_other]
  ·exact hD'
  ·intro e2
   subst e2
   exact (List.pairwise_cons.1 hm.1).1 d' hd' e.symm
def bloom_Make.mark (f : List Int) (q : Int) : List Int := f.set (bloom_at q).toNat (Go.bits .or .u8 (rd f (bloom_at q)) (bloom_bit q))
def bloom_Make.sets (h m : Int) (f : List Int) : Nat → List Int
 | 0 => f
 | j + 1 => bloom_Make.mark (bloom_Make.sets h m f j) (bloom_spot h m j)
theorem bloom_Make.mark_length (f : List Int) (q : Int) : (bloom_Make.mark f q).length = f.length := by simp [bloom_Make.mark]
theorem bloom_Make.sets_length (h m : Int) (f : List Int) : ∀ j, (bloom_Make.sets h m f j).length = f.length
 | 0 => rfl
 | j + 1 => by rw [bloom_Make.sets, bloom_Make.mark_length, bloom_Make.sets_length h m f j]
def bloom_Make.l0 : Nat → List ByteArray → List Int → Nat → Option (List Int)
 | 0, _, _, _ => none
 | k + 1, l, f, i => if i < l.length then (bloom_Hash.f k (rdOf ByteArray.empty l (i : Int))).bind fun h => if 0 ≤ h then bloom_Make.l0 k l (bloom_Make.sets h (8 * f.length) f 4) (i + 1) else none else some f
def bloom_Make.f (k : Nat) (l : List ByteArray) : Option (List Int) := if l.length ≤ 140737488355 then bloom_Make.l0 k l (List.replicate ((10 * l.length + 7) / 8) 0) 0 else none
theorem bloom_Make.mono_l : ∀ k l f i, LeO (bloom_Make.l0 k l f i) (bloom_Make.l0 (k + 1) l f i)
 | 0, _, _, _ => LeO.none _
 | k + 1, l, f, i => by
  rw [bloom_Make.l0, bloom_Make.l0]
  exact LeO.ite (LeO.bind (bloom_Hash.mono _ _) (fun _ => LeO.ite (bloom_Make.mono_l k _ _ _) (LeO.none _))) (LeO.refl _)
theorem bloom_Make.mono : ∀ l k, LeO (bloom_Make.f k l) (bloom_Make.f (k + 1) l) := by
 intro l k
 unfold bloom_Make.f
 exact LeO.ite (bloom_Make.mono_l _ _ _ _) (LeO.refl _)
theorem bloom_Make.size (n : Nat) (h : n ≤ 140737488355) : wrap64 (Int.tdiv (wrap64 (wrap64 (10 * (n : Int)) + 7)) 8) = (((10 * n + 7) / 8 : Nat) : Int) := by
 have e1 : wrap64 (10 * (n : Int)) = 10 * (n : Int) := by unfold wrap64; omega
 have e2 : wrap64 (10 * (n : Int) + 7) = 10 * (n : Int) + 7 := by unfold wrap64; omega
 rw [e1, e2, Int.tdiv_eq_ediv_of_nonneg (by omega)]
 have e3 : (10 * (n : Int) + 7) / 8 = (((10 * n + 7) / 8 : Nat) : Int) := by omega
 rw [e3]
 unfold wrap64
 omega
theorem bloom_Make.made (n : Nat) (h : n ≤ 140737488355) (W : World) : (Instr.makeSlice 30 (.int .i64 (((10 * n + 7) / 8 : Nat) : Int)) (.int .i64 (((10 * n + 7) / 8 : Nat) : Int))).run Try.prog W = .ok (.slice (some ⟨W.heap.size, 0, none⟩) ((10 * n + 7) / 8) ((10 * n + 7) / 8)) (W.alloc (.cells (madeCells #[.int .u8 0] ((10 * n + 7) / 8)) 5)) := by
 obtain ⟨i0, hi0, hz, hsz, hby⟩ := info_parts info5
 have := run_make (P := Try.prog) W 30 5 i0 _ Try.underlying30 hi0 hz .i64 .i64 (((10 * n + 7) / 8 : Nat) : Int) (((10 * n + 7) / 8 : Nat) : Int) (by omega) (by omega) (by rw [hby]; omega) (by omega)
 rw [Int.toNat_natCast, hsz, Nat.mul_one] at this
 exact this
theorem bloom_snoc {l : List Nat} {x : Nat} (h : l ++ [x] = List.range (l.length + 1)) : l = List.range l.length ∧ x = l.length := by
 rw [List.range_succ] at h
 have := List.append_inj h (by simp)
 exact ⟨this.1, (List.cons.inj this.2).1⟩
theorem below_alloc' {N : Nat} {w W : World} {o o' : Obj} (h : Below N w W) (hN : N = w.heap.size) : Below N w ((W.alloc o).alloc o') := by
 subst hN
 exact pbA_ (pbA_ h _) _
set_option maxRecDepth 100000 in
set_option maxHeartbeats 4000000 in
theorem bloom_Make.calls (k : Nat) (A0 : Option Addr) (c0 : Nat) (l0 : List ByteArray) (r : List Int) (w : World) (hr0 : Kd.C Kd.string w A0 l0.length l0) (hc0 : l0.length ≤ c0) (h : bloom_Make.f k l0 = some r) :
    Calls Try.prog 15 #[.slice A0 l0.length c0] w fun e w' => ∃ v0_ : Value, e = .returned (v0_) ∧ Kd.R (Kd.int .u8) 5 w' w.heap.size (fun _ => True) v0_ r ∧ Below w.heap.size w w' := by
  have HR0 := Aside0.mk hr0
  have HC0 := Aside0.mk hc0
  clear hr0 hc0
  unfold bloom_Make.f at h
  by_cases hlen : l0.length ≤ 140737488355
  case neg => rw [if_neg hlen] at h; cases h
  rw [if_pos hlen] at h
  have HH := Aside0.mk h
  have HL := Aside0.mk hlen
  have hsz := bloom_Make.size l0.length hlen
  have hmk := bloom_Make.made l0.length hlen
  obtain ⟨n, hn⟩ : ∃ n, Aside0 ((10 * l0.length + 7) / 8 = n) := ⟨_, ⟨rfl⟩⟩
  rw [hn.out] at hsz hmk
  clear h hlen
  refine (callsIn_wide (n := 9)).1 ?_
  refine callsIn_of_wp_marks Try.func15 rfl trivial ?_ rfl
  simp only [Try.ntmps15, List.size_toArray, List.length_cons, List.length_nil, Nat.reduceAdd, Nat.reduceSub, Array.replicate_succ, Array.replicate_zero, List.push_toArray, List.append_toArray, List.nil_append, List.cons_append]
  gi_wp2
  obtain ⟨N, hN⟩ : ∃ N : Nat, Aside0 (N = w.heap.size) := ⟨_, ⟨rfl⟩⟩
  rw [← hN.out]
  have hB0 : Below N w ((w.alloc (Obj.cells (madeCells #[Value.int IntKind.u8 0] n) 5)).alloc (Obj.cells #[Value.slice (some { block := N, off := 0 }) n n] 30)) := by
    rw [hN.out]
    exact pbA_ (pbA_ (Below.refl _ _) _) _
  refine wpIn_loop (fun a W => ∃ (i kk : Nat) (acc : List Int) (ds : List Deferred) (u5 u17 u18 u19 u20 u21 u22 u32 : Value),
      a = { tmps := #[Value.slice A0 l0.length c0, undef, Value.slice none 0 0,
          Value.pointer (some { block := N + 1, off := 0 }), undef, u5, undef, undef,
          Value.slice A0 l0.length c0, Value.int IntKind.i64 ↑l0.length,
          Value.int IntKind.i64 (wrap64 (10 * ↑l0.length)),
          Value.int IntKind.i64 (wrap64 (wrap64 (10 * ↑l0.length) + 7)),
          Value.int IntKind.i64 (n : Int),
          Value.slice (some { block := N, off := 0 }) n n, Value.slice A0 l0.length c0,
          Value.int IntKind.i64 ↑l0.length, Value.int IntKind.i64 (i : Int), u17, u18, u19, u20, u21, u22, undef,
          undef, undef, undef, undef, undef, undef, undef, undef, u32, undef], defers := ds } ∧
        Aside0 (i ≤ l0.length ∧ acc.length = n ∧ bloom_Make.l0 kk l0 acc i = some r) ∧ Aside0 (Boxed W (N + 1) 30 (.slice (some ⟨N, 0, none⟩) n n) ∧ Row8 W N 5 acc ∧ Below N w W ∧ Marks (N + 2) W ds))
    (fun a _ => l0.length - (intOf (a.tmps.getD 16 undef)).toNat) ⟨0, k, List.replicate n 0, [], undef, undef, undef, undef, undef, undef, undef, undef, by rw [hsz]; rfl, ⟨Nat.zero_le _, by simp, by rw [← hn.out]; exact HH.out⟩, ⟨?i1, ?i2, hB0, Marks.nil _ _⟩⟩ ?round
  case i1 =>
    have h_ := Boxed.new (w.alloc (Obj.cells (madeCells #[Value.int IntKind.u8 0] n) 5)) 30 (Value.slice (some { block := N, off := 0 }) n n)
    rw [World.size_alloc, ← hN.out] at h_
    exact h_
  case i2 =>
    have h_ := (Row8.made w 5 n).kept (World.grownBy_alloc _ (Obj.cells #[Value.slice (some { block := N, off := 0 }) n n] 30) none) (by simp)
    rw [← hN.out] at h_
    exact h_
  case round =>
    rintro a W ⟨i, kk, acc, ds, u5, u17, u18, u19, u20, u21, u22, u32, rfl, HI, HV⟩
    by_cases hlt : i < l0.length
    · have g : decide ((i : Int) < (l0.length : Int)) = true := decide_eq_true (by omega)
      obtain ⟨ad, e, hx⟩ := Kd.at_string HR0.out (i : Int) (by omega) (by omega)
      subst e
      have hx := (HV.out.2.2.1.cell (by rw [hN.out]; exact World.block_lt_of_cell? w _ hx)).trans hx
      rw [Int.toNat_natCast] at hx
      obtain ⟨s, hs⟩ : ∃ s, rdOf ByteArray.empty l0 (i : Int) = s := ⟨_, rfl⟩
      rw [hs] at hx
      have HS := Aside0.mk hs
      have p : ((0 : Int) ≤ (i : Int)) = True := eq_true (by omega)
      have q : ((i : Int) < (l0.length : Int)) = True := eq_true (by omega)
      have q' : (i < l0.length) = True := eq_true hlt
      have hcv := HV.out.1.cell
      clear hs
      gi_wp2_with (first | (refine ⟨trivial, ?_⟩; gi_at_call 25; (with_reducible refine (places_in _ (some ⟨N, 0, none⟩) n n s _).mono ?_); rintro e w2 ⟨rfl, rfl⟩) | fail)
      obtain ⟨W0, hW0⟩ : ∃ W0, Aside0 (W0 = ((W.alloc (Obj.cells #[Value.slice (some ⟨N, 0, none⟩) n n] 30)).alloc (Obj.cells #[Value.string s] 9))) := ⟨_, ⟨rfl⟩⟩
      have hW0s : W0.heap.size = W.heap.size + 2 := by rw [hW0.out]; simp
      have hgr : W.grownBy W0 none := by rw [hW0.out]; exact (World.grownBy_alloc W _ none).trans (World.grownBy_alloc _ _ none)
      have hNW : N + 2 ≤ W.heap.size := by have h1 := HV.out.1.lt; omega
      have hb2 : W0.cell? ⟨W.heap.size, 0, none⟩ = some (.slice (some ⟨N, 0, none⟩) n n) := by
        have h_ := ((Boxed.new W 30 (.slice (some ⟨N, 0, none⟩) n n)).alloc (Obj.cells #[Value.string s] 9)).cell
        rw [hW0.out]
        exact h_
      have hb3 : W0.cell? ⟨W.heap.size + 1, 0, none⟩ = some (.string s) := by
        have h_ := (Boxed.new (W.alloc (Obj.cells #[Value.slice (some ⟨N, 0, none⟩) n n] 30)) 9 (.string s)).cell
        rw [World.size_alloc] at h_
        rw [hW0.out]
        exact h_
      have hacc : ∃ kk1 h, kk = kk1 + 1 ∧ bloom_Hash.f kk1 s = some h ∧ 0 ≤ h ∧ bloom_Make.l0 kk1 l0 (bloom_Make.sets h (8 * n) acc 4) (i + 1) = some r := by
        have h_ := HI.out.2.2
        cases kk with
        | zero => cases h_
        | succ kk =>
          rw [bloom_Make.l0, if_pos hlt, HS.out] at h_
          obtain ⟨h, h1, h2⟩ := Option.bind_eq_some_iff.1 h_
          by_cases h0 : 0 ≤ h
          · rw [if_pos h0, HI.out.2.1] at h2
            exact ⟨kk, h, rfl, h1, h0, h2⟩
          · rw [if_neg h0] at h2
            cases h2
      obtain ⟨kk1, hs, rfl, hh1, hh0, hnext⟩ := hacc
      have hn0 : 0 < n := by have := hn.out; omega
      have hnl : n ≤ 140737488355328 := by have := hn.out; have := HL.out; omega
      rw [← hW0.out]
      refine wpIn_rangeFunc_ownF (F := Fence.wide) rfl (by decide) (gf := 32) (lb := #[.pointer (some ⟨W.heap.size + 1, 0, none⟩), .pointer (some ⟨W.heap.size, 0, none⟩)]) rfl trivial (enters_of Try.func32 (by kernel_rfl) rfl)
        (places_stops (W.heap.size + 1) W.heap.size N kk1 (some ⟨N, 0, none⟩) n n s hs (8 * n) hh1 hh0 (bloom_len _ hnl) (by omega) W0 (by omega) (by omega) hb3 hb2) belowK_t (belowK_b (by omega)) (Below.refl _ _) (fun _ => rfl)
        (fun pre W' => (∃ acc', Row8 W' N 5 acc' ∧ Aside0 (acc'.length = n ∧ (pre.map (·.1) = List.range pre.length → acc' = bloom_Make.sets hs (8 * n) acc pre.length)) ∧ Boxed W' (N + 1) 30 (.slice (some ⟨N, 0, none⟩) n n)) ∧ Below N w W' ∧ KeepsFrom (N + 2) W0 W')
        (fun _ _ _ => False)
        (OwnFrom.and (Own.from (fun s X Y row hp hg hr => by
          obtain ⟨acc', h1, h2, h3⟩ := hp
          exact ⟨acc', Row8.own N 5 (fun _ => acc') s X Y row h1 hg hr, h2, boxed_own (N + 1) 30 (fun _ => .slice (some ⟨N, 0, none⟩) n n) s X Y row h3 hg hr⟩) _) (OwnFrom.and (ownFrom_below (by rw [hN.out]; exact Nat.le_refl _) (by omega)) (ownFrom_keepsFrom (Nat.le_refl _))))
        (fun _ _ _ _ _ hs _ _ => hs)
        ⟨⟨acc, HV.out.2.1.kept hgr (by simp), ⟨HI.out.2.1, fun _ => rfl⟩, HV.out.1.kept hgr (by simp)⟩, by rw [hW0.out]; exact below_alloc' HV.out.2.2.1 hN.out, KeepsFrom.refl _ _⟩
        (fun x => { tmps := #[Value.slice (some ad) l0.length c0, undef, Value.slice none 0 0,
          Value.pointer (some { block := N + 1, off := 0 }), undef, .string s, .int .u64 (bloom_at (bloom_spot hs (8 * n) x.1)), .int .u8 (bloom_bit (bloom_spot hs (8 * n) x.1)), Value.slice (some ad) l0.length c0,
          Value.int IntKind.i64 ↑l0.length, Value.int IntKind.i64 (wrap64 (10 * ↑l0.length)),
          Value.int IntKind.i64 (wrap64 (wrap64 (10 * ↑l0.length) + 7)), Value.int IntKind.i64 ↑n,
          Value.slice (some { block := N, off := 0 }) n n, Value.slice (some ad) l0.length c0,
          Value.int IntKind.i64 ↑l0.length, Value.int IntKind.i64 ↑i, Value.bool true, .pointer (some (ad.add i)), .string s, Value.slice (some { block := N, off := 0 }) n n, .string s,
          Value.func (Fn.func 32) #[] #[Value.pointer (some { block := W.heap.size + 1, off := 0 }), Value.pointer (some { block := W.heap.size, off := 0 })], .int .u64 (bloom_at (bloom_spot hs (8 * n) x.1)), .int .u8 (bloom_bit (bloom_spot hs (8 * n) x.1)),
          undef, undef, undef, undef, undef, undef, undef, u32, undef], defers := [] }) ?assign ?body ?done ?stop
      case assign =>
        intro l x W K hK
        dsimp only [encBloom]
        gi_wp2
        exact hK
      case body =>
        rintro l pre x W' ⟨⟨acc', hrow, ha, hbox⟩, hB, hKF⟩ hlen
        have hin := bloom_in hs n hh0 hn0 hnl x.1
        obtain ⟨P, hP⟩ : ∃ P, bloom_at (bloom_spot hs (8 * n) x.1) = P := ⟨_, rfl⟩
        obtain ⟨b, hb⟩ : ∃ b, bloom_bit (bloom_spot hs (8 * n) x.1) = b := ⟨_, rfl⟩
        rw [hP] at hin
        rw [hP, hb]
        have hx := hrow.cell P hin.1 (by rw [ha.out.1]; exact hin.2)
        have hfz := hrow.frozen P.toNat
        have hcv := hbox.cell
        have p := eq_true hin.1
        have q := eq_true hin.2
        have HP := Aside0.mk hP
        have HBB := Aside0.mk hb
        have HKF := Aside0.mk hKF
        clear hP hb hKF hnext hh1 hh0 hn0 hnl
        gi_wp2
        refine ⟨KeepsOthers.setCell _ _ _, (Below.refl N W').setCell (p := ⟨N, P.toNat, none⟩) (Nat.le_refl _) _, ⟨_, hrow.put P.toNat _, ⟨by rw [List.length_set]; exact ha.out.1, fun he => ?_⟩, (Below.heap_setCell _ _ _ _ (by simp)).trans hbox⟩, hB.setCell (p := ⟨N, P.toNat, none⟩) (Nat.le_refl _) _, HKF.out.trans ((KeepsOthers.setCell _ _ _).from _)⟩
        rw [List.map_append, List.length_append, List.length_singleton, List.map_cons, List.map_nil] at he
        have h3 := bloom_snoc (l := pre.map (·.1)) (by rw [List.length_map]; exact he)
        rw [List.length_map] at h3
        rw [List.length_append, List.length_singleton, bloom_Make.sets, ← ha.out.2 h3.1, ← h3.2]
        unfold bloom_Make.mark
        rw [HP.out, HBB.out]
      case done =>
        rintro D ys W' hD hS ⟨⟨acc', hrow, ha, hbox⟩, hB, hKF⟩ hK
        have hyl : ys.length = 4 := by have := congrArg List.length hS; simpa using this
        have hacc' := ha.out.2 (by rw [hyl]; exact hS)
        rw [hyl] at hacc'
        have HKF := Aside0.mk hKF
        have HHK := Aside0.mk hK
        have HAC := Aside0.mk hacc'
        have HNX := Aside0.mk hnext
        have HNW := Aside0.mk hNW
        clear hKF hnext hh1 hh0 hn0 hnl hacc' hK hNW
        have hinc : wrap64 ((i : Int) + 1) = ((i + 1 : Nat) : Int) := by have := HL.out; unfold wrap64; omega
        have HINC := Aside0.mk hinc
        clear hinc
        gi_wp2
        rw [HINC.out]
        refine ⟨⟨i + 1, kk1, acc', _ :: ds, _, _, _, _, _, _, _, _, rfl, ⟨hlt, ha.out.1, by rw [HAC.out]; exact HNX.out⟩, ⟨hbox, hrow, hB, ?_⟩⟩, ?_⟩
        · have hold := HV.out.2.2.2
          have hm2 := hold.mono (W' := W') (fun D' hB' hD' h_ => HKF.out.same D' _ hB' (by rw [hW0.out, Below.heap_alloc _ _ _ (by rw [World.size_alloc]; omega), Below.heap_alloc _ _ _ hD']; exact h_) rfl)
          refine ⟨List.pairwise_cons.2 ⟨fun d hd e => ?_, hm2.1⟩, fun d hd => ?_⟩
          · obtain ⟨D', e', hB', hD'⟩ := hold.2 d hd
            rw [← e] at e'
            have hlt' := (Array.getElem?_eq_some_iff.1 hD').1
            injection e' with e1
            injection e1 with e2
            omega
          · rcases List.mem_cons.1 hd with rfl | hd
            · exact ⟨D, rfl, by have := HNW.out; omega, HHK.out⟩
            · exact hm2.2 d hd
        · simp [intOf]
          omega
      case stop =>
        rintro D c pre W _ _ h _
        exact h.elim
    · have g : decide ((i : Int) < (l0.length : Int)) = false := decide_eq_false (by omega)
      have hcv := HV.out.1.cell
      have hacc : acc = r := by
        have h_ := HI.out.2.2
        cases kk with
        | zero => cases h_
        | succ kk =>
          rw [bloom_Make.l0, if_neg hlt] at h_
          exact Option.some.inj h_
      have HA := Aside0.mk hacc
      clear hacc
      gi_wp2
      refine leaves_marks (by simp) (fun W => Row8 W N 5 acc ∧ Below N w W) (fun W D hD hd hK => ⟨?s1, ?s2⟩) (fun W hK => ?s3) ds W HV.out.2.2.2 ⟨HV.out.2.1, HV.out.2.2.1⟩
      case s1 => exact Row8.own N 5 (fun (_ : Unit) => acc) () W _ (some D) hK.1 (grownBy_putObj' W D _) (fun r e => by cases e; exact ⟨_, hd, rfl⟩)
      case s2 => exact hK.2.trans (belowK_b (w := w) (by rw [hN.out]; exact Nat.le_refl _) W D _ _ (by have := hN.out; omega) hd rfl rfl)
      case s3 =>
        refine ⟨_, results_tmp rfl _ _ _, _, rfl, ?_, by rw [← hN.out]; exact hK.2⟩
        have hl := HI.out.2.1
        rw [HA.out] at hl hK
        rw [← hl]
        refine Kd.R_of_own (w := W) ⟨by simp [encs], .inr ⟨N, r.length, (encs (Value.int .u8) r).toArray, rfl, by rw [hN.out]; exact Nat.le_refl _, hK.1, Nat.le_refl _, by have := hn.out; have := HL.out; unfold maxLen; omega, by simp [encs], List.take_of_length_le (by simp [encs])⟩⟩ (fun _ _ => trivial)
end
def dragnetref06_Same.l0 : Nat → List ByteArray → List ByteArray → Int → Option (Bool)
 | 0, _, _, _ => none
 | k + 1, x0, x1, x5 => if x5 < (x0.length : Int) then (if 0 ≤ x5 then (if x5 < (x1.length : Int) then (if (rdOf ByteArray.empty x0 x5).toList = (rdOf ByteArray.empty x1 x5).toList then (dragnetref06_Same.l0 k x0 x1 (wrap64 (x5 + 1))) else (some false)) else (none)) else (none)) else (some true)
def dragnetref06_Same.f (k : Nat) (l0 : List ByteArray) (l1 : List ByteArray) : Option (Bool) := if (l0.length : Int) = (l1.length : Int) then (dragnetref06_Same.l0 k l0 l1 0) else (some false)
theorem dragnetref06_Same.mono_l : ∀ k, (∀ y0 y1 y2, LeO (dragnetref06_Same.l0 k y0 y1 y2) (dragnetref06_Same.l0 (k + 1) y0 y1 y2))
 | 0 => fun _ _ _ r h => by simp [dragnetref06_Same.l0] at h
 | k + 1 => by
  have ih0 := dragnetref06_Same.mono_l k
  ·intro y0 y1 y2
   unfold dragnetref06_Same.l0
   repeat' first
   | (with_reducible exact ih0 _ _ _)
   | (with_reducible exact LeO.refl _)
   | (with_reducible exact LeO.none _)
   | (with_reducible refine LeO.ite ?_ ?_)
   | (with_reducible refine LeO.bind ?_ (fun _ => ?_))
   | exact ih0 _ _ _
   | exact LeO.none _
   | refine LeO.ite ?_ ?_
   | refine LeO.bind ?_ (fun _ => ?_)
theorem dragnetref06_Same.mono : ∀ a0 a1 k, LeO (dragnetref06_Same.f k a0 a1) (dragnetref06_Same.f (k + 1) a0 a1) := by
 intro a0 a1 k
 have ih0 := dragnetref06_Same.mono_l k
 unfold dragnetref06_Same.f
 repeat' first
   | (with_reducible exact ih0 _ _ _)
   | (with_reducible exact LeO.refl _)
   | (with_reducible exact LeO.none _)
   | (with_reducible refine LeO.ite ?_ ?_)
   | (with_reducible refine LeO.bind ?_ (fun _ => ?_))
   | exact ih0 _ _ _
   | exact LeO.none _
   | refine LeO.ite ?_ ?_
   | refine LeO.bind ?_ (fun _ => ?_)
set_option maxHeartbeats 8000000 in
set_option maxRecDepth 100000 in
theorem dragnetref06_Same.calls (k : Nat) (A0 : Option Addr) (c0 : Nat) (l0 : List ByteArray) (A1 : Option Addr) (c1 : Nat) (l1 : List ByteArray) (r : Bool) (w : World) (hr0 : Kd.C Kd.string w A0 l0.length l0) (hc0 : l0.length ≤ c0) (hr1 : Kd.C Kd.string w A1 l1.length l1) (hc1 : l1.length ≤ c1) (h : dragnetref06_Same.f k l0 l1 = some r) :
  Calls Try.prog 17 #[.slice A0 l0.length c0, .slice A1 l1.length c1] w fun e w' => e = .returned (.bool r) ∧ Drawn0 w w' := by
 have HR0 := Aside0.mk hr0
 have HC0 := Aside0.mk hc0
 clear hr0 hc0
 have HR1 := Aside0.mk hr1
 have HC1 := Aside0.mk hc1
 clear hr1 hc1
 have H : (if (l0.length : Int) = (l1.length : Int) then (dragnetref06_Same.l0 k l0 l1 0) else (some false)) = some r := h
 clear h
 by_cases c3 : (l0.length : Int) = (l1.length : Int)
 ·rw [if_pos c3] at H
  have c3b0 : ((l0.length : Int) == (l1.length : Int)) = true := beq_iff_eq.mpr c3
  have c3b1 : ((l0.length : Int) != (l1.length : Int)) = false := bne_eq_false_iff_eq.mpr c3
  have c3b2 : (l0.length == l1.length) = true := by first | simpa using c3 | (simp at c3 ⊢; omega)
  clear c3
  have H' := Aside0.mk H
  clear H
  go_enter Try.func17, Try.ntmps17
  go_wp2
  repeat (go_quiet (fail); try go_wp2)
  go_loopg [5] k (fun kq v5 w' => ∃ (x5_1 : Int), v5 = .int .i64 x5_1 ∧ Aside0 (dragnetref06_Same.l0 kq l0 l1 x5_1 = some r) ∧ Aside0 (kq ≤ k) ∧ Drawn0 w w')
  case atStart => exact ⟨(0), (by first | rfl | (simp; done) | (simp [*]; done)), H', ⟨Nat.le_refl _⟩, by repeat (first | exact Drawn0.refl _ | apply Drawn0.step)⟩
  case round =>
   clear H'
   try clear c1
   try clear p2
   try clear c3
   try clear c3b0
   try clear c3b1
   try clear c3b2
   obtain ⟨x5_1, rfl, HA, HK1, ⟨m1, rfl⟩⟩ := hrel
   cases gk with
   | zero => exact absurd HA.out (by simp [dragnetref06_Same.l0])
   | succ k1 =>
    have H := HA.out
    clear HA
    simp only [dragnetref06_Same.l0] at H
    by_cases c4 : x5_1 < (l0.length : Int)
    ·rw [if_pos c4] at H
     have c4b0 : decide (x5_1 < (l0.length : Int)) = true := decide_eq_true c4
     clear c4
     by_cases c5 : 0 ≤ x5_1
     ·rw [if_pos c5] at H
      have c5b0 : decide (0 ≤ x5_1) = true := decide_eq_true c5
      clear c5
      by_cases c6 : x5_1 < (l1.length : Int)
      ·rw [if_pos c6] at H
       have c6b0 : decide (x5_1 < (l1.length : Int)) = true := decide_eq_true c6
       clear c6
       by_cases c7 : (rdOf ByteArray.empty l0 x5_1).toList = (rdOf ByteArray.empty l1 x5_1).toList
       ·rw [if_pos c7] at H
        have c7b0 : ((rdOf ByteArray.empty l0 x5_1).toList == (rdOf ByteArray.empty l1 x5_1).toList) = true := beq_iff_eq.mpr c7
        have c7b1 : ((rdOf ByteArray.empty l0 x5_1).toList != (rdOf ByteArray.empty l1 x5_1).toList) = false := bne_eq_false_iff_eq.mpr c7
        clear c7
        have H' := Aside0.mk H
        clear H
        have p101 : 0 ≤ (x5_1 : Int) := of_decide_eq_true (by first | (with_reducible assumption) | assumption)
        have q101 : x5_1 < (l0.length : Int) := of_decide_eq_true (by first | (with_reducible assumption) | assumption)
        obtain ⟨ad101, e101, hx101_0⟩ := Kd.at_string HR0.out x5_1 p101 q101
        cases e101
        replace p101 := eq_true p101
        replace q101 := eq_true q101
        have p102 : 0 ≤ (x5_1 : Int) := of_decide_eq_true (by first | (with_reducible assumption) | assumption)
        have q102 : x5_1 < (l1.length : Int) := of_decide_eq_true (by first | (with_reducible assumption) | assumption)
        obtain ⟨ad102, e102, hx102_0⟩ := Kd.at_string HR1.out x5_1 p102 q102
        cases e102
        replace p102 := eq_true p102
        replace q102 := eq_true q102
        go_wp2
        repeat (go_quiet (fail); try go_wp2)
        go_roundg k1
        case measure => have := HK1.out; omega
        case rel => exact ⟨(wrap64 (x5_1 + 1)), (by first | rfl | (simp; done) | (simp [*]; done)), H', ⟨by have := HK1.out; omega⟩, by repeat (first | exact Drawn0.refl _ | apply Drawn0.step)⟩
       ·rw [if_neg c7] at H
        have c7b0 : ((rdOf ByteArray.empty l0 x5_1).toList == (rdOf ByteArray.empty l1 x5_1).toList) = false := beq_eq_false_iff_ne.mpr c7
        have c7b1 : ((rdOf ByteArray.empty l0 x5_1).toList != (rdOf ByteArray.empty l1 x5_1).toList) = true := bne_iff_ne.mpr c7
        obtain rfl := Option.some.inj H
        have p101 : 0 ≤ (x5_1 : Int) := of_decide_eq_true (by first | (with_reducible assumption) | assumption)
        have q101 : x5_1 < (l0.length : Int) := of_decide_eq_true (by first | (with_reducible assumption) | assumption)
        obtain ⟨ad101, e101, hx101_0⟩ := Kd.at_string HR0.out x5_1 p101 q101
        cases e101
        replace p101 := eq_true p101
        replace q101 := eq_true q101
        have p102 : 0 ≤ (x5_1 : Int) := of_decide_eq_true (by first | (with_reducible assumption) | assumption)
        have q102 : x5_1 < (l1.length : Int) := of_decide_eq_true (by first | (with_reducible assumption) | assumption)
        obtain ⟨ad102, e102, hx102_0⟩ := Kd.at_string HR1.out x5_1 p102 q102
        cases e102
        replace p102 := eq_true p102
        replace q102 := eq_true q102
        go_wp2
        repeat (go_quiet (fail); try go_wp2)
        go_ret
        exact ⟨by first | rfl | (simp; done) | (simp [*]; done), by repeat (first | exact Drawn0.refl _ | apply Drawn0.step)⟩
      ·rw [if_neg c6] at H
       exact absurd H (by simp)
     ·rw [if_neg c5] at H
      exact absurd H (by simp)
    ·rw [if_neg c4] at H
     have c4b0 : decide (x5_1 < (l0.length : Int)) = false := decide_eq_false c4
     clear c4
     obtain rfl := Option.some.inj H
     go_wp2
     repeat (go_quiet (fail); try go_wp2)
     go_ret
     exact ⟨by first | rfl | (simp; done) | (simp [*]; done), by repeat (first | exact Drawn0.refl _ | apply Drawn0.step)⟩
 ·rw [if_neg c3] at H
  have c3b0 : ((l0.length : Int) == (l1.length : Int)) = false := beq_eq_false_iff_ne.mpr c3
  have c3b1 : ((l0.length : Int) != (l1.length : Int)) = true := bne_iff_ne.mpr c3
  have c3b2 : (l0.length == l1.length) = false := by first | simpa using c3 | (simp at c3 ⊢; omega)
  obtain rfl := Option.some.inj H
  go_enter Try.func17, Try.ntmps17
  go_wp2
  repeat (go_quiet (fail); try go_wp2)
  go_ret
  exact ⟨by first | rfl | (simp; done) | (simp [*]; done), by repeat (first | exact Drawn0.refl _ | apply Drawn0.step)⟩
def bytesList (s : ByteArray) : List UInt8 := s.data.toList
def listBytes (b : List UInt8) : ByteArray := ⟨b.toArray⟩
theorem encs_bytes (l : List ByteArray) : encs Value.string l = (l.map bytesList).map encStr := (Lib.map_encStr l).symm
theorem encs_list (z : List (List UInt8)) : encs Value.string (z.map listBytes) = z.map encStr := by unfold encs; rw [List.map_map]; rfl
def sortS (l : List ByteArray) : List ByteArray := ((l.map bytesList).mergeSort fun x y => decide (x ≤ y)).map listBytes
def slices_Sort_string_string.f (l0 : List ByteArray) : Option (List ByteArray) := if l0.length < 4611686018427387904 then some (sortS l0) else none
theorem slices_Sort_string_string.calls (P0_ : Nat → Prop) (u9000_ : Value) (l0 : List ByteArray) (r : List ByteArray) (w0 w : World) (hB : Below w0.heap.size w0 w) (ho0 : Kd.R Kd.string 9 w w0.heap.size P0_ u9000_ l0) (h : slices_Sort_string_string.f l0 = some r) :
  Calls Try.prog 29 #[u9000_] w fun e w' => e = .returned (.tuple #[]) ∧ Kd.R Kd.string 9 w' w0.heap.size (fun k_ => (P0_ k_ ∨ w.heap.size ≤ k_)) u9000_ r ∧ Below w0.heap.size w0 w' ∧ Kept w w' (fun k_ => P0_ k_) := by
 unfold slices_Sort_string_string.f at h
 by_cases hl : l0.length < 4611686018427387904
 ·rw [if_pos hl] at h
  obtain rfl := Option.some.inj h
  have hown := Kd.own_of_R ho0
  rcases hown.2 with ⟨he, h0⟩ | ⟨g, cap, cur, he, hb, hh, hnc, hcm, hcs, ht⟩
  ·obtain rfl : l0 = [] := List.eq_nil_of_length_eq_zero h0
   subst he
   refine (YtiijfpalnbpfkaaPre.sort_none none 0 w).mono ?_
   rintro e w' ⟨rfl, rfl⟩
   exact ⟨rfl, by rw [show sortS [] = [] by simp [sortS]]; exact Kd.R_mono ho0 (fun k hk => .inl hk), hB, Kept.refl _ _⟩
  ·subst he
   obtain ⟨z, hz⟩ : ∃ z, z = l0.map bytesList := ⟨_, rfl⟩
   have hzl : z.length = l0.length := by rw [hz, List.length_map]
   rw [encs_bytes, ← hz] at hown
   obtain ⟨g', cap', e', _, hgl, _, _, _, hH⟩ := Lib.holds_of_ownsRow hown (by simp)
   obtain ⟨rfl, rfl⟩ : g = g' ∧ cap = cap' := by injection e' with a _ c; injection a with a; injection a with a; exact ⟨a, c⟩
   have hs := YtiijfpalnbpfkaaPre.sort_some g 0 cap z w hH hgl (by omega)
   rw [hzl] at hs
   refine hs.mono ?_
   rintro e w' ⟨rfl, n, os, rfl⟩
   have hlen : (z.mergeSort fun x y => decide (x ≤ y)).length = z.length := List.length_mergeSort _
   have h2 := ownsRow_sorted (n := n) (os := os) (ts := z.mergeSort fun x y => decide (x ≤ y)) hlen hb hh (by omega) hcm hcs
   have hg := grownBy_sorted (w := w) (g := g) (n := n) (os := os) (z.mergeSort fun x y => decide (x ≤ y)).toArray
   have hsl : (sortS l0).length = l0.length := by unfold sortS; rw [List.length_map, ← hz, hlen, hzl]
   refine ⟨rfl, Kd.R_of_own (h1 := fun _ => rfl) ?_ (fun k hk => .inl (ho0.1 k hk)), hB.grown hg hB.size (fun k hk => by cases hk; exact hb), Kept.of_grown hg (Kept.refl _ _) (fun k hk => .inl (ho0.1 k (by simpa [Value.ownBlock] using hk)))⟩
   rw [hsl]
   unfold sortS
   rw [← hz, encs_list, ← hzl]
   exact h2
 ·rw [if_neg hl] at h; cases h
def compactS (l : List ByteArray) : List ByteArray := (Lib.compact (l.map bytesList)).map listBytes
def slices_Compact_string_string.f (l0 : List ByteArray) : Option (List ByteArray) := if l0.length < 4611686018427387904 then some (compactS l0) else none
theorem slices_Compact_string_string.calls (P0_ : Nat → Prop) (u9000_ : Value) (l0 : List ByteArray) (r : List ByteArray) (w0 w : World) (hB : Below w0.heap.size w0 w) (ho0 : Kd.R Kd.string 9 w w0.heap.size P0_ u9000_ l0) (h : slices_Compact_string_string.f l0 = some r) :
  Calls Try.prog 30 #[u9000_] w fun e w' => ∃ v0_ : Value, e = .returned (v0_) ∧ Kd.R Kd.string 9 w' w0.heap.size (fun k_ => (P0_ k_ ∨ w.heap.size ≤ k_)) v0_ r ∧ Below w0.heap.size w0 w' ∧ Kept w w' (fun k_ => P0_ k_) := by
 unfold slices_Compact_string_string.f at h
 by_cases hl : l0.length < 4611686018427387904
 ·rw [if_pos hl] at h
  obtain rfl := Option.some.inj h
  have hown := Kd.own_of_R ho0
  rcases hown.2 with ⟨he, h0⟩ | ⟨g, cap, cur, he, hb, hh, hnc, hcm, hcs, ht⟩
  ·obtain rfl : l0 = [] := List.eq_nil_of_length_eq_zero h0
   subst he
   refine (YtiijfpalnbpfkaaPre.compact_none none 0 w).mono ?_
   rintro e w' ⟨rfl, rfl⟩
   exact ⟨_, rfl, by rw [show compactS [] = [] from rfl]; exact Kd.R_mono ho0 (fun k hk => .inl hk), hB, Kept.refl _ _⟩
  ·subst he
   obtain ⟨z, hz⟩ : ∃ z, z = l0.map bytesList := ⟨_, rfl⟩
   have hzl : z.length = l0.length := by rw [hz, List.length_map]
   rw [encs_bytes, ← hz] at hown
   obtain ⟨g', cap', e', _, hgl, _, _, _, hH⟩ := Lib.holds_of_ownsRow hown (by simp)
   obtain ⟨rfl, rfl⟩ : g = g' ∧ cap = cap' := by injection e' with a _ c; injection a with a; injection a with a; exact ⟨a, c⟩
   have hs := YtiijfpalnbpfkaaPre.compact_some g 0 cap z w hH (by omega) (by omega)
   rw [hzl] at hs
   refine hs.mono ?_
   rintro e w' ⟨rfl, q, rfl⟩
   have hcl : (Lib.compact z).length ≤ l0.length := by rw [← hzl]; exact Lib.compact_length_le z
   have hw : Kd.R Kd.string 9 (Go.Sort.putRow encStr (Go.Sort.ahead w q) g 0 (Lib.compact z ++ List.replicate (l0.length - (Lib.compact z).length) []).toArray) w0.heap.size (fun k_ => (P0_ k_ ∨ w.heap.size ≤ k_)) (.slice (some ⟨g, 0, none⟩) (Lib.compact z).length cap) (compactS l0) := by
    have h2 := Lib.ownsRow_putRow (q := q) (k := (Lib.compact z).length) (ys := Lib.compact z ++ List.replicate (l0.length - (Lib.compact z).length) []) hown (by simp; omega) (by omega)
    rw [List.take_left' rfl] at h2
    have hsl : (compactS l0).length = (Lib.compact z).length := by unfold compactS; rw [List.length_map, ← hz]
    refine Kd.R_of_own (h1 := fun _ => rfl) ?_ (fun k hk => .inl (ho0.1 k hk))
    rw [hsl]
    unfold compactS
    rw [← hz, encs_list]
    exact h2
   have hg : w.grownBy (Go.Sort.putRow encStr (Go.Sort.ahead w q) g 0 (Lib.compact z ++ List.replicate (l0.length - (Lib.compact z).length) []).toArray) (some g) := by
    have := grownBy_sorted (w := w) (g := g) (n := q) (os := #[]) (Lib.compact z ++ List.replicate (l0.length - (Lib.compact z).length) []).toArray
    rwa [Go.Sort.grow_empty] at this
   exact ⟨_, rfl, hw, hB.grown hg hB.size (fun k hk => by cases hk; exact hb), Kept.of_grown hg (Kept.refl _ _) (fun k hk => .inl (ho0.1 k (by simpa [Value.ownBlock] using hk)))⟩
 ·rw [if_neg hl] at h; cases h
end Go.Proofs.Ytiijfpalnbpfkaa.P
end
section
namespace Go.Proofs.Ytiijfpalnbpfkaa.P
open Go.RowKit Go.Proofs.YtiijfpalnbpfkaaW.PrintWords Go.Proofs.YtiijfpalnbpfkaaW.PrintLast Go.Proofs.YtiijfpalnbpfkaaW.PrintMore
attribute [local go_sem] max2_int min2_int max_two min_two max_three min_three max_four min_four
set_option linter.unusedVariables false
set_option linter.unusedSimpArgs false
def bloom_Grams.l0 : Nat → List Int → List ByteArray → Int → Int → Option (List ByteArray)
 | 0, _, _, _, _ => none
 | k + 1, x0, x3, x9, x10 => if x10 < x9 then (if 0 ≤ x10 then (if x10 ≤ (wrap64 (x10 + 3)) then (if (wrap64 (x10 + 3)) ≤ (x0.length : Int) then (if x3.length < 8796093022208 then (bloom_Grams.l0 k x0 (x3 ++ [strOfNums ((x0.take ((wrap64 (x10 + 3)) : Int).toNat).drop (x10 : Int).toNat)]) x9 (wrap64 (x10 + 1))) else (none)) else (none)) else (none)) else (none)) else ((slices_Sort_string_string.f x3).bind fun t107 => ((slices_Compact_string_string.f t107).bind fun t108 => (some t108)))
def bloom_Grams.f (k : Nat) (l0 : List Int) : Option (List ByteArray) := bloom_Grams.l0 k l0 ([] : List ByteArray) (mx 0 (wrap64 ((wrap64 ((l0.length : Int) - 3)) + 1))) 0
theorem bloom_Grams.mono_l : ∀ k, (∀ y0 y1 y2 y3, LeO (bloom_Grams.l0 k y0 y1 y2 y3) (bloom_Grams.l0 (k + 1) y0 y1 y2 y3))
 | 0 => fun _ _ _ _ r h => by simp [bloom_Grams.l0] at h
 | k + 1 => by
  have ih0 := bloom_Grams.mono_l k
  ·intro y0 y1 y2 y3
   unfold bloom_Grams.l0
   repeat' first
   | (with_reducible exact ih0 _ _ _ _)
   | (with_reducible exact LeO.refl _)
   | (with_reducible exact LeO.none _)
   | (with_reducible refine LeO.ite ?_ ?_)
   | (with_reducible refine LeO.bind ?_ (fun _ => ?_))
   | exact ih0 _ _ _ _
   | exact LeO.none _
   | refine LeO.ite ?_ ?_
   | refine LeO.bind ?_ (fun _ => ?_)
theorem bloom_Grams.mono : ∀ a0 k, LeO (bloom_Grams.f k a0) (bloom_Grams.f (k + 1) a0) := by
 intro a0 k
 have ih0 := bloom_Grams.mono_l k
 unfold bloom_Grams.f
 repeat' first
   | (with_reducible exact ih0 _ _ _ _)
   | (with_reducible exact LeO.refl _)
   | (with_reducible exact LeO.none _)
   | (with_reducible refine LeO.ite ?_ ?_)
   | (with_reducible refine LeO.bind ?_ (fun _ => ?_))
   | exact ih0 _ _ _ _
   | exact LeO.none _
   | refine LeO.ite ?_ ?_
   | refine LeO.bind ?_ (fun _ => ?_)
set_option maxHeartbeats 8000000 in
set_option maxRecDepth 100000 in
theorem bloom_Grams.calls (k : Nat) (A0 : Option Addr) (c0 : Nat) (l0 : List Int) (r : List ByteArray) (w : World) (hr0 : Kd.C (Kd.int .u8) w A0 l0.length l0) (hc0 : l0.length ≤ c0) (h : bloom_Grams.f k l0 = some r) :
  Calls Try.prog 23 #[.slice A0 l0.length c0] w fun e w' => ∃ v0_ : Value, e = .returned (v0_) ∧ Kd.R Kd.string 9 w' w.heap.size (fun _ => True) v0_ r ∧ Below w.heap.size w w' := by
 have HR0 := Aside0.mk hr0
 have HC0 := Aside0.mk hc0
 clear hr0 hc0
 have HB := Aside0.mk (Below.refl w.heap.size w)
 have H : (bloom_Grams.l0 k l0 ([] : List ByteArray) (mx 0 (wrap64 ((wrap64 ((l0.length : Int) - 3)) + 1))) 0) = some r := h
 clear h
 obtain ⟨ji2, hji2⟩ : ∃ j_ : Int, (mx 0 (wrap64 ((wrap64 ((l0.length : Int) - 3)) + 1))) = j_ := ⟨_, rfl⟩
 replace H : (bloom_Grams.l0 k l0 ([] : List ByteArray) ji2 0) = some r := by first | (rw [hji2] at H; exact H) | (simp only [hji2] at H ⊢; exact H)
 (try (have hji2l : 0 ≤ ji2 := by (rw [← hji2]; unfold mx; (repeat' split) <;> omega)))
 (try (have hji2m : 0 ≤ ji2 := by omega))
 have hji2_ : (if 0 < (wrap64 ((wrap64 ((l0.length : Int) - 3)) + 1)) then (wrap64 ((wrap64 ((l0.length : Int) - 3)) + 1)) else 0) = ji2 := hji2
 have H' := Aside0.mk H
 clear H
 go_enter Try.func23, Try.ntmps23
 go_wp2
 go_loopg [3, 10] k (fun kq v3 v10 w' => ∃ (x3_1 : List ByteArray) (x10_1 : Int), v10 = .int .i64 x10_1 ∧ Aside0 (bloom_Grams.l0 kq l0 x3_1 ji2 x10_1 = some r) ∧ Aside0 (kq ≤ k) ∧ Aside0 (Kd.R Kd.string 9 w' w.heap.size (fun _ => True) v3 x3_1) ∧ Aside0 (Below w.heap.size w w'))
 case atStart => exact ⟨(([] : List ByteArray)), (0), (by first | rfl | (simp; done) | (simp [*]; done)), H', ⟨Nat.le_refl _⟩, ⟨by first | exact Kd.R_nil _ _ _ _ _ | exact Kd.N_nil _ _ _ _ _ | exact Kd.V_nil _ _ _ _ _ | exact Kd.Q_nil _ _ _ _ _ | exact Kd.S_nil _ _ _ _ _⟩, ⟨by repeat (first | (with_reducible first | exact HB.out | apply pbA_ | apply pbN_ | apply pb1_) | exact HB.out)⟩⟩
 case round =>
  clear H'
  try clear c2
  try clear p2
  obtain ⟨x3_1, x10_1, rfl, HA, HK1, HO_3, HB⟩ := hrel
  cases gk with
  | zero => exact absurd HA.out (by simp [bloom_Grams.l0])
  | succ k1 =>
   have H := HA.out
   clear HA
   simp only [bloom_Grams.l0] at H
   by_cases c3 : x10_1 < ji2
   ·rw [if_pos c3] at H
    have c3b0 : decide (x10_1 < ji2) = true := decide_eq_true c3
    clear c3
    by_cases c4 : 0 ≤ x10_1
    ·rw [if_pos c4] at H
     have c4b0 := eq_true c4
     have c4b1 : decide (0 ≤ x10_1) = true := decide_eq_true c4
     clear c4
     by_cases c5 : x10_1 ≤ (wrap64 (x10_1 + 3))
     ·rw [if_pos c5] at H
      have c5b0 := eq_true c5
      have c5b1 : decide (x10_1 ≤ (wrap64 (x10_1 + 3))) = true := decide_eq_true c5
      by_cases c6 : (wrap64 (x10_1 + 3)) ≤ (l0.length : Int)
      ·rw [if_pos c6] at H
       have c6b0 := eq_true c6
       have c6b1 : decide ((wrap64 (x10_1 + 3)) ≤ (l0.length : Int)) = true := decide_eq_true c6
       by_cases c7 : x3_1.length < 8796093022208
       ·rw [if_pos c7] at H
        have LMc7 := Aside0.mk c7
        clear c7
        obtain ⟨y104, hy104⟩ : ∃ y_ : List ByteArray, y_ = (x3_1 ++ [strOfNums ((l0.take ((wrap64 (x10_1 + 3)) : Int).toNat).drop (x10_1 : Int).toNat)]) := ⟨_, rfl⟩
        replace H : (bloom_Grams.l0 k1 l0 y104 ji2 (wrap64 (x10_1 + 1))) = some r := by first | (rw [hy104]; with_reducible exact H) | (have H2_ := (Option.bind_some _ _).symm.trans H; rw [hy104]; with_reducible exact H2_) | (have H2_ := (Option.bind_some _ _).symm.trans H; with_reducible exact H2_) | with_reducible exact H | (rw [hy104]; exact H) | exact H
        have Ny104 := Aside0.mk hy104
        clear hy104
        have H' := Aside0.mk H
        clear H
        obtain ⟨i08, hi08, _, hsz8, _⟩ := info_parts info5
        obtain ⟨A8, hcut8, hA8, hC8⟩ := print_mid_of (P := Try.prog) (Value.int .u8) 0 30 5 .i64 .i64 Try.underlying30 hi08 hsz8 A0 c0 l0 x10_1 (wrap64 (x10_1 + 3)) (of_decide_eq_true (by first | (with_reducible assumption) | assumption)) (by first | omega | exact of_decide_eq_true (by first | (with_reducible assumption) | assumption)) (of_decide_eq_true (by first | (with_reducible assumption) | assumption)) HC0.out
        have HR103 := Aside0.mk (Kd.C_of_reads (h1 := fun _ => rfl) (hA8 _ (Kd.reads_of_C HR0.out)))
        have HC103 := Aside0.mk hC8
        clear hA8 hC8 hi08 hsz8
        have hcv9 := Kd.C_string (P := Try.prog) (A := A8) (c := (c0 - x10_1.toNat)) Try.underlying30 Try.underlying5 Try.underlying9 (Kd.C_below HR103.out HB.out)
        have hcvl_ : ((wrap64 (x10_1 + 3))).toNat ≤ l0.length := Int.toNat_le.2 (of_decide_eq_true (by first | (with_reducible assumption) | assumption) : (wrap64 (x10_1 + 3)) ≤ (l0.length : Int))
        simp only [List.length_drop, List.length_take, Nat.min_eq_left hcvl_] at hcv9
        clear hcvl_
        go_wp2_with (first | ((with_reducible refine gate_builtin (b := .append) (xs := #[.tmp 13, .tmp 20]) rfl ?_); at_builtin; refine Kd.R_append Kd.string (w0 := w) w.heap.size rfl (.tmp 13) (.tmp 20) 26 9 (.string ⟨#[]⟩) 16 rfl Try.underlying26 info9 rfl (by decide) (by omega) u3 x3_1 (strOfNums ((l0.take ((wrap64 (x10_1 + 3)) : Int).toNat).drop (x10_1 : Int).toNat)) [.string (strOfNums ((l0.take ((wrap64 (x10_1 + 3)) : Int).toNat).drop (x10_1 : Int).toNat))] (fun _ => True) (fun _ => False) rfl rfl ?aP (fun _ hk => hk.elim) ?aF ?aO ?aB ?aS ?aL ?_; (case aP => exact rfl); (case aB => exact (by repeat (first | (with_reducible first | exact HB.out | apply pbA_ | apply pbN_ | apply pb1_) | exact HB.out))); (case aF => exact (fun _ _ => trivial)); (case aO => exact (by (with_reducible repeat (first | apply Kd.rA_ | apply Kd.rN_ | apply Kd.rD_)); exact HO_3.out)); (case aS => exact (pbS_ (by repeat (first | (with_reducible first | exact HB.out | apply pbA_ | apply pbN_ | apply pb1_) | exact HB.out)))); (case aL => have := LMc7.out; omega); intro v105 w10 ho hb hg hat; rw [← Ny104.out] at ho; have n0_ := Aside0.mk (hb); have n1_ := Aside0.mk (ho); clear HB; clear HO_3; have HB := n0_; have HO106 := n1_; clear n0_ n1_; clear ho hb hg hat))
        go_roundg k1
        case measure => have := HK1.out; omega
        case rel => exact ⟨(y104), (wrap64 (x10_1 + 1)), (by first | rfl | (simp; done) | (simp [*]; done)), H', ⟨by have := HK1.out; omega⟩, ⟨by (with_reducible repeat (first | apply Kd.rA_ | apply Kd.rN_ | apply Kd.rD_)); exact HO106.out⟩, ⟨by repeat (first | (with_reducible first | exact HB.out | apply pbA_ | apply pbN_ | apply pb1_) | exact HB.out)⟩⟩
       ·rw [if_neg c7] at H
        exact absurd H (by simp)
      ·rw [if_neg c6] at H
       exact absurd H (by simp)
     ·rw [if_neg c5] at H
      exact absurd H (by simp)
    ·rw [if_neg c4] at H
     exact absurd H (by simp)
   ·rw [if_neg c3] at H
    have c3b0 : decide (x10_1 < ji2) = false := decide_eq_false c3
    clear c3
    replace H := Option.bind_eq_some_iff.mp H
    obtain ⟨t107, A110, H⟩ := H
    replace H : ((slices_Compact_string_string.f t107).bind fun t108 => (some t108)) = some r := H
    have A11 := Aside0.mk A110
    clear A110
    replace H := Option.bind_eq_some_iff.mp H
    obtain ⟨t108, A120, H⟩ := H
    replace H : (some t108) = some r := H
    have A12 := Aside0.mk A120
    clear A120
    obtain rfl := Option.some.inj H
    obtain ⟨Ao13, co13, eo13⟩ := Kd.R_slice HO_3.out
    subst eo13
    go_wp2_with (first | ((with_reducible refine gaC_ (f := 29) rfl ?_); refine goesL_ (some 24) rfl rfl Try.func29 (by kernel_rfl) rfl #[.slice Ao13 x3_1.length co13] rfl (by (try simp only [List.map_toArray, List.map_cons, List.map_nil]); first | done | rfl | (simp only [List.length_drop, List.length_take]; rfl)) ?_; (with_reducible refine (slices_Sort_string_string.calls (fun k_ => some k_ = (.slice Ao13 x3_1.length co13 : Value).ownBlock) (.slice Ao13 x3_1.length co13) x3_1 t107 w _ ?side1 ?side2 A11.out).mono ?_); (case side1 => repeat (first | (with_reducible first | exact HB.out | apply pbA_ | apply pbN_ | apply pb1_) | exact HB.out)); (case side2 => exact Kd.R_tight rfl HO_3.out); rintro e w14 ⟨rfl, hy0, hb, hkp⟩; refine ⟨_, rfl, ?_⟩; have n0_ := Aside0.mk (Kd.R_reok rfl hy0 (fun k_ e_ => HO_3.out.1 k_ e_)); have n1_ := Aside0.mk (hb); clear HO_3; clear HB; have HO_3 := n0_; have HB := n1_; clear n0_ n1_; (try clear hb); (try clear hkp); (try clear hy0)) | ((with_reducible refine gaC_ (f := 30) rfl ?_); refine goesL_ (some 26) rfl rfl Try.func30 (by kernel_rfl) rfl #[.slice Ao13 x3_1.length co13] rfl (by (try simp only [List.map_toArray, List.map_cons, List.map_nil]); first | done | rfl | (simp only [List.length_drop, List.length_take]; rfl)) ?_; (with_reducible refine (slices_Compact_string_string.calls (fun k_ => some k_ = (.slice Ao13 x3_1.length co13 : Value).ownBlock) (.slice Ao13 x3_1.length co13) t107 t108 w _ ?side1 ?side2 A12.out).mono ?_); (case side1 => repeat (first | (with_reducible first | exact HB.out | apply pbA_ | apply pbN_ | apply pb1_) | exact HB.out)); (case side2 => exact Kd.R_tight rfl HO_3.out); rintro e w15 ⟨v109, rfl, ho0, hb, hkp⟩; refine ⟨_, rfl, ?_⟩; have n0_ := Aside0.mk (Kd.R_mono (ok' := fun k_ => True) ho0 (fun k_ hk_ => trivial)); have n1_ := Aside0.mk (hb); clear HB; clear HO_3; have HO110 := n0_; have HB := n1_; clear n0_ n1_; (try clear hb); (try clear hkp); (try clear ho0)))
    go_ret
    exact ⟨_, by first | rfl | (simp [eWn_, eWs_] <;> rfl) | (simp only [← hji2]; first | rfl | (simp [eWn_, eWs_] <;> rfl)) | (simp [*, eWn_, eWs_] <;> rfl), by (with_reducible repeat (first | apply Kd.rA_ | apply Kd.rN_ | apply Kd.rD_)); exact HO110.out, by repeat (first | (with_reducible first | exact HB.out | apply pbA_ | apply pbN_ | apply pb1_) | exact HB.out)⟩
section
theorem may1_calls (k : Nat) (B : Nat) (A : Option Addr) (c : Nat) (l : List Int) (g : ByteArray) (b : Bool) (w : World) (hr : Kd.C (Kd.int .u8) w A l.length l) (hc : l.length ≤ c) (hB : w.cell? ⟨B, 0, none⟩ = some (.slice A l.length c)) (h : bloom_Has.f k l g = some b) :
  Calls Try.prog 28 #[.string g, .pointer (some ⟨B, 0, none⟩)] w fun e w' => e = .returned (.bool (!b)) ∧ Below w.heap.size w w' := by
 go_enter Try.func28, Try.ntmps28
 go_wp2_with (first | (go_at_call 18; (with_reducible refine (bloom_Has.calls k A c l g b _ ?side1 ?side2 h).mono ?_); (case side1 => repeat (first | exact hr | (with_reducible refine Kd.cN_ ?_ _))); (case side2 => exact hc); rintro e w' ⟨rfl, hb⟩))
 go_ret
 exact ⟨rfl, by assumption⟩
theorem may_below {w w1 w2 : World} {o : Obj} (h1 : Below (w.alloc o).heap.size (w.alloc o) w1) (h2 : Below w1.heap.size w1 w2) : Below w.heap.size w w2 := by
 have a1 : Below w.heap.size w (w.alloc o) := (Below.refl _ w).alloc (Nat.le_refl _) _
 have a2 := h1.mono a1.size
 have a3 := a1.trans a2
 exact a3.trans (h2.mono a3.size)
theorem may_box {w w1 w2 : World} {v : Value} {t : TypeId} (h1 : Below (w.alloc (.cells #[v] t)).heap.size (w.alloc (.cells #[v] t)) w1) (h2 : Below w1.heap.size w1 w2) : w2.cell? ⟨w.heap.size, 0, none⟩ = some v := by
 have b0 := (Boxed.new w t v).cell
 have b1 := (h1.cell (p := ⟨w.heap.size, 0, none⟩) (World.block_lt_of_cell? _ _ b0)).trans b0
 exact (h2.cell (p := ⟨w.heap.size, 0, none⟩) (World.block_lt_of_cell? _ _ b1)).trans b1
def bloom_May.l0 : Nat → List Int → List ByteArray → Nat → Option Bool
 | 0, _, _, _ => none
 | k + 1, l, gs, i => if i < gs.length then (bloom_Has.f k l (rdOf ByteArray.empty gs (i : Int))).bind fun b => if b then bloom_May.l0 k l gs (i + 1) else some false else some true
def bloom_May.f (k : Nat) (l : List Int) (s : ByteArray) : Option Bool := if s.size ≤ 140737488355328 then (bloom_Grams.f k (bytesOf s)).bind fun gs => if gs.length ≤ 17592186044416 then bloom_May.l0 k l gs 0 else none else none
theorem bloom_May.mono_l : ∀ k l gs i, LeO (bloom_May.l0 k l gs i) (bloom_May.l0 (k + 1) l gs i)
 | 0, _, _, _ => LeO.none _
 | k + 1, l, gs, i => by
  rw [bloom_May.l0, bloom_May.l0]
  exact LeO.ite (LeO.bind (bloom_Has.mono _ _ _) (fun _ => LeO.ite (bloom_May.mono_l k _ _ _) (LeO.refl _))) (LeO.refl _)
theorem bloom_May.mono : ∀ l s k, LeO (bloom_May.f k l s) (bloom_May.f (k + 1) l s) := by
 intro l s k
 unfold bloom_May.f
 exact LeO.ite (LeO.bind (bloom_Grams.mono _ _) (fun _ => LeO.ite (bloom_May.mono_l _ _ _ _) (LeO.refl _))) (LeO.refl _)
theorem may_inc {i : Nat} (h : i < 17592186044416) : wrap64 ((i : Int) + 1) = ((i + 1 : Nat) : Int) := by
 unfold wrap64
 omega
set_option maxRecDepth 100000 in
set_option maxHeartbeats 4000000 in
theorem may_index (k : Nat) (B : Nat) (A : Option Addr) (c : Nat) (l : List Int) (As : Option Addr) (cs : Nat) (gs : List ByteArray) (r : Bool) (w : World) (hr : Kd.C (Kd.int .u8) w A l.length l) (hc : l.length ≤ c) (hB : w.cell? ⟨B, 0, none⟩ = some (.slice A l.length c))
  (hg : Kd.C Kd.string w As gs.length gs) (hcs : gs.length ≤ cs) (hm : gs.length ≤ 17592186044416) (h : bloom_May.l0 k l gs 0 = some r) :
  Calls Try.prog 33 #[.slice As gs.length cs, .func (.func 28) #[] #[.pointer (some ⟨B, 0, none⟩)]] w fun e w' => (∃ x : Int, e = .returned (.int .i64 x) ∧ decide (x ≥ 0) = !r) ∧ Below w.heap.size w w' := by
 have HR := Aside0.mk hr
 have HC := Aside0.mk hc
 have HBx := Aside0.mk hB
 have HG := Aside0.mk hg
 have HM := Aside0.mk hm
 have H' := Aside0.mk h
 have HB := Aside0.mk (Below.refl w.heap.size w)
 clear hr hc hB hg hm h
 go_enter Try.func33, Try.ntmps33
 go_wp2
 go_loopg [8] k (fun gg v8 wr => ∃ (i : Nat), v8 = .int .i64 (i : Int) ∧ Aside0 (bloom_May.l0 gg l gs i = some r) ∧ Aside0 (i ≤ gs.length) ∧ Aside0 (Below w.heap.size w wr))
 case atStart => exact ⟨0, rfl, H', ⟨Nat.zero_le _⟩, HB⟩
 case round =>
  obtain ⟨i, rfl, HA, HI, HBr⟩ := hrel
  cases gk with
  | zero => exact absurd HA.out (by simp [bloom_May.l0])
  | succ k1 =>
   have H := HA.out
   clear HA
   rw [bloom_May.l0] at H
   by_cases hlt : i < gs.length
   ·rw [if_pos hlt] at H
    obtain ⟨b, hb, H⟩ := Option.bind_eq_some_iff.1 H
    have g : decide ((i : Int) < (gs.length : Int)) = true := decide_eq_true (by omega)
    obtain ⟨ad, e, hx⟩ := Kd.at_string HG.out (i : Int) (by omega) (by omega)
    subst e
    have hx := (HBr.out.cell (World.block_lt_of_cell? w _ hx)).trans hx
    rw [Int.toNat_natCast] at hx
    obtain ⟨s, hs⟩ : ∃ s, rdOf ByteArray.empty gs (i : Int) = s := ⟨_, rfl⟩
    rw [hs] at hx hb
    have HHB := Aside0.mk hb
    have HHH := Aside0.mk H
    have p : ((0 : Int) ≤ (i : Int)) = True := eq_true (by omega)
    have q : ((i : Int) < (gs.length : Int)) = True := eq_true (by omega)
    have q' : (i < gs.length) = True := eq_true hlt
    clear hb H
    have hCr := Aside0.mk (Kd.C_below HR.out HBr.out)
    have hBr := Aside0.mk ((HBr.out.cell (World.block_lt_of_cell? w _ HBx.out)).trans HBx.out)
    cases b with
    | true =>
     go_wp2_with (first | (go_at_call 28; (with_reducible refine (may1_calls k1 B A c l s true _ hCr.out HC.out hBr.out HHB.out).mono ?_); rintro e w' ⟨rfl, hb⟩; have HB2 := Aside0.mk hb; clear hb))
     go_roundg k1
     case measure => omega
     case rel => exact ⟨i + 1, by rw [may_inc (by have := HM.out; omega)], ⟨by have := HHH.out; simpa using this⟩, ⟨hlt⟩, ⟨HBr.out.trans (HB2.out.mono HBr.out.size)⟩⟩
    | false =>
     go_wp2_with (first | (go_at_call 28; (with_reducible refine (may1_calls k1 B A c l s false _ hCr.out HC.out hBr.out HHB.out).mono ?_); rintro e w' ⟨rfl, hb⟩; have HB2 := Aside0.mk hb; clear hb))
     go_ret
     have e1 : r = false := by have := HHH.out; simpa using this.symm
     subst e1
     exact ⟨⟨_, rfl, by simp⟩, HBr.out.trans (HB2.out.mono HBr.out.size)⟩
   ·rw [if_neg hlt] at H
    obtain rfl := Option.some.inj H
    have g : decide ((i : Int) < (gs.length : Int)) = false := decide_eq_false (by omega)
    go_wp2
    go_ret
    exact ⟨⟨_, rfl, by decide⟩, HBr.out⟩
theorem may_contains (k : Nat) (B : Nat) (A : Option Addr) (c : Nat) (l : List Int) (As : Option Addr) (cs : Nat) (gs : List ByteArray) (r : Bool) (w : World) (hr : Kd.C (Kd.int .u8) w A l.length l) (hc : l.length ≤ c) (hB : w.cell? ⟨B, 0, none⟩ = some (.slice A l.length c))
  (hg : Kd.C Kd.string w As gs.length gs) (hcs : gs.length ≤ cs) (hm : gs.length ≤ 17592186044416) (h : bloom_May.l0 k l gs 0 = some r) :
  Calls Try.prog 27 #[.slice As gs.length cs, .func (.func 28) #[] #[.pointer (some ⟨B, 0, none⟩)]] w fun e w' => e = .returned (.bool (!r)) ∧ Below w.heap.size w w' := by
 have HX := Aside0.mk (may_index k B A c l As cs gs r w hr hc hB hg hcs hm h)
 clear hr hc hB hg hcs hm h
 go_enter Try.func27, Try.ntmps27
 go_wp2_with (first | (go_at_call 33; (with_reducible refine HX.out.mono ?_); rintro e w' ⟨⟨x, rfl, hx⟩, hb⟩; have HBX := Aside0.mk hb; clear hb))
 go_ret
 exact ⟨rfl, HBX.out⟩
set_option maxRecDepth 100000 in
set_option maxHeartbeats 4000000 in
theorem bloom_May.calls (k : Nat) (A0 : Option Addr) (c0 : Nat) (l0 : List Int) (s : ByteArray) (r : Bool) (w : World) (hr0 : Kd.C (Kd.int .u8) w A0 l0.length l0) (hc0 : l0.length ≤ c0) (h : bloom_May.f k l0 s = some r) :
  Calls Try.prog 20 #[.slice A0 l0.length c0, .string s] w fun e w' => e = .returned (.bool r) ∧ Below w.heap.size w w' := by
 have HR0 := Aside0.mk hr0
 have HC0 := Aside0.mk hc0
 clear hr0 hc0
 unfold bloom_May.f at h
 by_cases hlen : s.size ≤ 140737488355328
 case neg => rw [if_neg hlen] at h; cases h
 rw [if_pos hlen] at h
 obtain ⟨gs, hgs, h⟩ := Option.bind_eq_some_iff.1 h
 by_cases hgl : gs.length ≤ 17592186044416
 case neg => rw [if_neg hgl] at h; cases h
 rw [if_pos hgl] at h
 have HGL := Aside0.mk hgl
 clear hgl
 obtain ⟨xs, hxs⟩ : ∃ xs, xs = bytesOf s := ⟨_, rfl⟩
 rw [← hxs] at hgs
 have HXS := Aside0.mk hxs
 have HGS := Aside0.mk hgs
 have HH := Aside0.mk h
 have HL := Aside0.mk hlen
 clear hgs h hlen hxs
 go_enter Try.func20, Try.ntmps20
 go_wp2_with (first | ((with_reducible refine gate_dst (N := 6) rfl ?_); refine Kd.conv_event rfl (N := 6) rfl 9 30 5 (.tmp 5) rfl Try.underlying9 Try.underlying30 Try.underlying5 s (by first | rfl | (go_simp; rfl)) xs HXS.out (by have := HL.out; omega) ?_; intro A1 c1 w1 hcc hC hb; have HC1 := Aside0.mk hC; have HCC1 := Aside0.mk hcc; have HB1 := Aside0.mk hb; clear hcc hC hb) | (go_at_call 23; (with_reducible refine (bloom_Grams.calls k (some A1) c1 xs gs w1 HC1.out HCC1.out HGS.out).mono ?_); rintro e w2 ⟨v2, rfl, hR2, hb2⟩; obtain ⟨Ag, cg, rfl⟩ := Kd.R_slice hR2; have HR2 := Aside0.mk hR2; have HB2 := Aside0.mk hb2; clear hR2 hb2) | (go_at_call 27; (with_reducible refine (may_contains k w.heap.size A0 c0 l0 Ag cg gs r w2 ?q1 HC0.out ?q2 ?q3 ?q4 HGL.out HH.out).mono ?_); (case q1 => exact Kd.C_below HR0.out (may_below HB1.out HB2.out)); (case q2 => exact may_box HB1.out HB2.out); (case q3 => exact (Kd.R_reads' HR2.out).2.2); (case q4 => exact (Kd.R_reads' HR2.out).2.1); rintro e w3 ⟨rfl, hb3⟩; have HB3 := Aside0.mk hb3; clear hb3))
 go_ret
 have h12 := may_below HB1.out HB2.out
 exact ⟨by simp, h12.trans (HB3.out.mono h12.size)⟩
end
def dragnetlaw15_alive.f (k : Nat)  : Option (Bool) := (bloom_Make.f k (([(⟨#[97, 98, 99]⟩ : ByteArray), (⟨#[98, 99, 97]⟩ : ByteArray)] : List ByteArray))).bind fun t114 => (if (t114.length : Int) = 3 then ((bloom_Has.f k t114 (⟨#[97, 98, 99]⟩ : ByteArray)).bind fun t117 => (if t117 = true then ((bloom_Has.f k ([] : List Int) (⟨#[97, 98, 99]⟩ : ByteArray)).bind fun t118 => (if t118 = true then (some false) else ((bloom_May.f k ([] : List Int) (⟨#[97, 98]⟩ : ByteArray)).bind fun t119 => (if t119 = true then ((bloom_May.f k ([] : List Int) (⟨#[97, 98, 99]⟩ : ByteArray)).bind fun t120 => (if t120 = true then (some false) else ((bloom_Grams.f k (([97, 98, 99, 97, 98] : List Int))).bind fun t125 => ((dragnetref06_Same.f k t125 (([(⟨#[97, 98, 99]⟩ : ByteArray), (⟨#[98, 99, 97]⟩ : ByteArray), (⟨#[99, 97, 98]⟩ : ByteArray)] : List ByteArray))).bind fun t131 => (some t131))))) else (some false))))) else (some false))) else (some false))
theorem dragnetlaw15_alive.mono : ∀ k, LeO (dragnetlaw15_alive.f k ) (dragnetlaw15_alive.f (k + 1) ) := by
 intro  k
 unfold dragnetlaw15_alive.f
 repeat' first
   | (with_reducible exact bloom_Grams.mono _ _)
   | (with_reducible exact bloom_Has.mono _ _ _)
   | (with_reducible exact bloom_Make.mono _ _)
   | (with_reducible exact bloom_May.mono _ _ _)
   | (with_reducible exact dragnetref06_Same.mono _ _ _)
   | (with_reducible exact LeO.refl _)
   | (with_reducible exact LeO.none _)
   | (with_reducible refine LeO.ite ?_ ?_)
   | (with_reducible refine LeO.bind ?_ (fun _ => ?_))
   | exact bloom_Grams.mono _ _
   | exact bloom_Has.mono _ _ _
   | exact bloom_Make.mono _ _
   | exact bloom_May.mono _ _ _
   | exact dragnetref06_Same.mono _ _ _
   | exact LeO.none _
   | refine LeO.ite ?_ ?_
   | refine LeO.bind ?_ (fun _ => ?_)
set_option maxHeartbeats 8000000 in
set_option maxRecDepth 100000 in
theorem dragnetlaw15_alive.calls (k : Nat)  (r : Bool) (w : World) (h : dragnetlaw15_alive.f k  = some r) :
  Calls Try.prog 9 #[] w fun e w' => e = .returned (.bool r) ∧ Below w.heap.size w w' := by
 have HB := Aside0.mk (Below.refl w.heap.size w)
 have H : ((bloom_Make.f k (([(⟨#[97, 98, 99]⟩ : ByteArray), (⟨#[98, 99, 97]⟩ : ByteArray)] : List ByteArray))).bind fun t114 => (if (t114.length : Int) = 3 then ((bloom_Has.f k t114 (⟨#[97, 98, 99]⟩ : ByteArray)).bind fun t117 => (if t117 = true then ((bloom_Has.f k ([] : List Int) (⟨#[97, 98, 99]⟩ : ByteArray)).bind fun t118 => (if t118 = true then (some false) else ((bloom_May.f k ([] : List Int) (⟨#[97, 98]⟩ : ByteArray)).bind fun t119 => (if t119 = true then ((bloom_May.f k ([] : List Int) (⟨#[97, 98, 99]⟩ : ByteArray)).bind fun t120 => (if t120 = true then (some false) else ((bloom_Grams.f k (([97, 98, 99, 97, 98] : List Int))).bind fun t125 => ((dragnetref06_Same.f k t125 (([(⟨#[97, 98, 99]⟩ : ByteArray), (⟨#[98, 99, 97]⟩ : ByteArray), (⟨#[99, 97, 98]⟩ : ByteArray)] : List ByteArray))).bind fun t131 => (some t131))))) else (some false))))) else (some false))) else (some false))) = some r := h
 clear h
 obtain ⟨y111, hy111⟩ : ∃ y_ : List ByteArray, y_ = (([(⟨#[97, 98, 99]⟩ : ByteArray), (⟨#[98, 99, 97]⟩ : ByteArray)] : List ByteArray)) := ⟨_, rfl⟩
 replace H : ((bloom_Make.f k y111).bind fun t114 => (if (t114.length : Int) = 3 then ((bloom_Has.f k t114 (⟨#[97, 98, 99]⟩ : ByteArray)).bind fun t117 => (if t117 = true then ((bloom_Has.f k ([] : List Int) (⟨#[97, 98, 99]⟩ : ByteArray)).bind fun t118 => (if t118 = true then (some false) else ((bloom_May.f k ([] : List Int) (⟨#[97, 98]⟩ : ByteArray)).bind fun t119 => (if t119 = true then ((bloom_May.f k ([] : List Int) (⟨#[97, 98, 99]⟩ : ByteArray)).bind fun t120 => (if t120 = true then (some false) else ((bloom_Grams.f k (([97, 98, 99, 97, 98] : List Int))).bind fun t125 => ((dragnetref06_Same.f k t125 (([(⟨#[97, 98, 99]⟩ : ByteArray), (⟨#[98, 99, 97]⟩ : ByteArray), (⟨#[99, 97, 98]⟩ : ByteArray)] : List ByteArray))).bind fun t131 => (some t131))))) else (some false))))) else (some false))) else (some false))) = some r := by first | (rw [hy111]; with_reducible exact H) | (have H2_ := (Option.bind_some _ _).symm.trans H; rw [hy111]; with_reducible exact H2_) | (have H2_ := (Option.bind_some _ _).symm.trans H; with_reducible exact H2_) | with_reducible exact H | (rw [hy111]; exact H) | exact H
 have Ny111 := Aside0.mk hy111
 clear hy111
 replace H := Option.bind_eq_some_iff.mp H
 obtain ⟨t114, A10, H⟩ := H
 replace H : (if (t114.length : Int) = 3 then ((bloom_Has.f k t114 (⟨#[97, 98, 99]⟩ : ByteArray)).bind fun t117 => (if t117 = true then ((bloom_Has.f k ([] : List Int) (⟨#[97, 98, 99]⟩ : ByteArray)).bind fun t118 => (if t118 = true then (some false) else ((bloom_May.f k ([] : List Int) (⟨#[97, 98]⟩ : ByteArray)).bind fun t119 => (if t119 = true then ((bloom_May.f k ([] : List Int) (⟨#[97, 98, 99]⟩ : ByteArray)).bind fun t120 => (if t120 = true then (some false) else ((bloom_Grams.f k (([97, 98, 99, 97, 98] : List Int))).bind fun t125 => ((dragnetref06_Same.f k t125 (([(⟨#[97, 98, 99]⟩ : ByteArray), (⟨#[98, 99, 97]⟩ : ByteArray), (⟨#[99, 97, 98]⟩ : ByteArray)] : List ByteArray))).bind fun t131 => (some t131))))) else (some false))))) else (some false))) else (some false)) = some r := H
 have A1 := Aside0.mk A10
 clear A10
 by_cases c2 : (t114.length : Int) = 3
 ·rw [if_pos c2] at H
  have c2b0 : ((t114.length : Int) == 3) = true := beq_iff_eq.mpr c2
  have c2b1 : ((t114.length : Int) != 3) = false := bne_eq_false_iff_eq.mpr c2
  clear c2
  replace H := Option.bind_eq_some_iff.mp H
  obtain ⟨t117, A30, H⟩ := H
  replace H : (if t117 = true then ((bloom_Has.f k ([] : List Int) (⟨#[97, 98, 99]⟩ : ByteArray)).bind fun t118 => (if t118 = true then (some false) else ((bloom_May.f k ([] : List Int) (⟨#[97, 98]⟩ : ByteArray)).bind fun t119 => (if t119 = true then ((bloom_May.f k ([] : List Int) (⟨#[97, 98, 99]⟩ : ByteArray)).bind fun t120 => (if t120 = true then (some false) else ((bloom_Grams.f k (([97, 98, 99, 97, 98] : List Int))).bind fun t125 => ((dragnetref06_Same.f k t125 (([(⟨#[97, 98, 99]⟩ : ByteArray), (⟨#[98, 99, 97]⟩ : ByteArray), (⟨#[99, 97, 98]⟩ : ByteArray)] : List ByteArray))).bind fun t131 => (some t131))))) else (some false))))) else (some false)) = some r := H
  have A3 := Aside0.mk A30
  clear A30
  by_cases c4 : t117 = true
  ·subst c4
   have H1 : ((bloom_Has.f k ([] : List Int) (⟨#[97, 98, 99]⟩ : ByteArray)).bind fun t118 => (if t118 = true then (some false) else ((bloom_May.f k ([] : List Int) (⟨#[97, 98]⟩ : ByteArray)).bind fun t119 => (if t119 = true then ((bloom_May.f k ([] : List Int) (⟨#[97, 98, 99]⟩ : ByteArray)).bind fun t120 => (if t120 = true then (some false) else ((bloom_Grams.f k (([97, 98, 99, 97, 98] : List Int))).bind fun t125 => ((dragnetref06_Same.f k t125 (([(⟨#[97, 98, 99]⟩ : ByteArray), (⟨#[98, 99, 97]⟩ : ByteArray), (⟨#[99, 97, 98]⟩ : ByteArray)] : List ByteArray))).bind fun t131 => (some t131))))) else (some false))))) = some r := by rw [if_pos rfl] at H; exact H
   clear H
   have H := H1
   clear H1
   replace H := Option.bind_eq_some_iff.mp H
   obtain ⟨t118, A50, H⟩ := H
   replace H : (if t118 = true then (some false) else ((bloom_May.f k ([] : List Int) (⟨#[97, 98]⟩ : ByteArray)).bind fun t119 => (if t119 = true then ((bloom_May.f k ([] : List Int) (⟨#[97, 98, 99]⟩ : ByteArray)).bind fun t120 => (if t120 = true then (some false) else ((bloom_Grams.f k (([97, 98, 99, 97, 98] : List Int))).bind fun t125 => ((dragnetref06_Same.f k t125 (([(⟨#[97, 98, 99]⟩ : ByteArray), (⟨#[98, 99, 97]⟩ : ByteArray), (⟨#[99, 97, 98]⟩ : ByteArray)] : List ByteArray))).bind fun t131 => (some t131))))) else (some false)))) = some r := H
   have A5 := Aside0.mk A50
   clear A50
   by_cases c6 : t118 = true
   ·subst c6
    have H1 : (some false) = some r := by rw [if_pos rfl] at H; exact H
    clear H
    have H := H1
    clear H1
    obtain rfl := Option.some.inj H
    go_enter Try.func9, Try.ntmps9
    go_wp2_with (first | ((with_reducible refine gate_dst (N := 2) rfl ?_); (try (refine gate_guard (by rfl) ?_; dsimp only)); refine Kd.R_lit Kd.string _ 9 ?hg (N := 2) ?hd (xs := ([(⟨#[97, 98, 99]⟩ : ByteArray), (⟨#[98, 99, 97]⟩ : ByteArray)] : List ByteArray)) (inner := [.string (⟨#[97, 98, 99]⟩ : ByteArray), .string (⟨#[98, 99, 97]⟩ : ByteArray)]) (ok := fun _ => True) (okp := fun _ => True) ?hr ?hp (fun _ hk => hk) trivial (Below.refl _ _) (Nat.le_refl _) (by simp) ?_; (case hd => rfl); (case hg => rfl); (case hr => first | (go_simp; done) | (go_simp; rfl)); (case hp => exact (Reps.one (show Kd.M Kd.string _ _ _ (⟨#[97, 98, 99]⟩ : ByteArray) [.string (⟨#[97, 98, 99]⟩ : ByteArray)] from rfl) (Reps.one (show Kd.M Kd.string _ _ _ (⟨#[98, 99, 97]⟩ : ByteArray) [.string (⟨#[98, 99, 97]⟩ : ByteArray)] from rfl) (Reps.none _ _)))); intro v112 w7 ho8 hb hg_ hnew_; clear hg_ hnew_; (first | rw [← Ny111.out] at ho8 | (simp only [Int.reduceToNat] at ho8; rw [← Ny111.out] at ho8)); have n0_ := Aside0.mk (Kd.R_lower ho8 (pbS_ (by repeat (first | (with_reducible first | exact HB.out | apply pbA_ | apply pbN_ | apply pb1_) | exact HB.out)))); have n1_ := Aside0.mk (below_step (by repeat (first | (with_reducible first | exact HB.out | apply pbA_ | apply pbN_ | apply pb1_) | exact HB.out)) hb); clear HB; have HO113 := n0_; have HB := n1_; clear n0_ n1_; clear hb ho8; obtain ⟨Ao9, co9, eo9⟩ := Kd.R_slice HO113.out; subst eo9) | ((with_reducible refine gaC_ (f := 15) rfl ?_); refine goesL_ (some 3) rfl rfl Try.func15 (by kernel_rfl) rfl #[.slice Ao9 y111.length co9] rfl (by (try simp only [List.map_toArray, List.map_cons, List.map_nil]); first | done | rfl | (simp only [List.length_drop, List.length_take]; rfl)) ?_; (with_reducible refine (bloom_Make.calls k _ _ y111 t114 _ ?side1 ?side2 A1.out).mono ?_); (case side1 => repeat (first | exact (Kd.R_reads' HO113.out).2.2 | (with_reducible refine Kd.cA_ ?_ _) | (with_reducible refine Kd.cN_ ?_ _) | (with_reducible refine Kd.cD_ ?_))); (case side2 => exact (Kd.R_reads' HO113.out).2.1); rintro e w10 ⟨v115, rfl, ho0, hb⟩; refine ⟨_, rfl, ?_⟩; have n0_ := Aside0.mk (Kd.R_below (by (with_reducible repeat (first | apply Kd.rA_ | apply Kd.rN_ | apply Kd.rD_)); exact HO113.out) hb); have n1_ := Aside0.mk (Kd.R_lower ho0 (pbS_ (by repeat (first | (with_reducible first | exact HB.out | apply pbA_ | apply pbN_ | apply pb1_) | exact HB.out)))); have n2_ := Aside0.mk (below_step (by repeat (first | (with_reducible first | exact HB.out | apply pbA_ | apply pbN_ | apply pb1_) | exact HB.out)) hb); clear HO113; clear HB; have HO113 := n0_; have HO116 := n1_; have HB := n2_; clear n0_ n1_ n2_; (try clear hb); (try clear hb2); (try clear hk); (try clear hi); (try clear ho0); obtain ⟨Ao11, co11, eo11⟩ := Kd.R_slice HO116.out; subst eo11) | (go_at_call 18; (with_reducible refine (bloom_Has.calls k _ _ t114 (⟨#[97, 98, 99]⟩ : ByteArray) true _ ?side1 ?side2 A3.out).mono ?_); (case side1 => repeat (first | exact (Kd.R_reads' HO116.out).2.2 | (with_reducible refine Kd.cA_ ?_ _) | (with_reducible refine Kd.cN_ ?_ _) | (with_reducible refine Kd.cD_ ?_))); (case side2 => exact (Kd.R_reads' HO116.out).2.1); rintro e w12 ⟨rfl, hb⟩; have n0_ := Aside0.mk (Kd.R_below (by (with_reducible repeat (first | apply Kd.rA_ | apply Kd.rN_ | apply Kd.rD_)); exact HO113.out) hb); have n1_ := Aside0.mk (Kd.R_below (by (with_reducible repeat (first | apply Kd.rA_ | apply Kd.rN_ | apply Kd.rD_)); exact HO116.out) hb); have n2_ := Aside0.mk (below_step (by repeat (first | (with_reducible first | exact HB.out | apply pbA_ | apply pbN_ | apply pb1_) | exact HB.out)) hb); clear HO113; clear HO116; clear HB; have HO113 := n0_; have HO116 := n1_; have HB := n2_; clear n0_ n1_ n2_; (try clear hb); (try clear hb2); (try clear hk); (try clear hi)) | (go_at_call 18; (refine (bloom_Has.calls k _ _ ([] : List Int) (⟨#[97, 98, 99]⟩ : ByteArray) true _ ?side1 ?side2 A5.out).mono ?_); (case side1 => exact Kd.C_nil _ _); (case side2 => exact Nat.le_refl _); rintro e w13 ⟨rfl, hb⟩; have n0_ := Aside0.mk (Kd.R_below (by (with_reducible repeat (first | apply Kd.rA_ | apply Kd.rN_ | apply Kd.rD_)); exact HO113.out) hb); have n1_ := Aside0.mk (Kd.R_below (by (with_reducible repeat (first | apply Kd.rA_ | apply Kd.rN_ | apply Kd.rD_)); exact HO116.out) hb); have n2_ := Aside0.mk (below_step (by repeat (first | (with_reducible first | exact HB.out | apply pbA_ | apply pbN_ | apply pb1_) | exact HB.out)) hb); clear HO113; clear HO116; clear HB; have HO113 := n0_; have HO116 := n1_; have HB := n2_; clear n0_ n1_ n2_; (try clear hb); (try clear hb2); (try clear hk); (try clear hi); (try clear A5)))
    go_ret
    exact ⟨by first | rfl | (simp [eWn_, eWs_] <;> rfl) | (simp [*, eWn_, eWs_] <;> rfl), by repeat (first | (with_reducible first | exact HB.out | apply pbA_ | apply pbN_ | apply pb1_) | exact HB.out)⟩
   ·replace c6 := Bool.eq_false_iff.mpr c6
    subst c6
    have H1 : ((bloom_May.f k ([] : List Int) (⟨#[97, 98]⟩ : ByteArray)).bind fun t119 => (if t119 = true then ((bloom_May.f k ([] : List Int) (⟨#[97, 98, 99]⟩ : ByteArray)).bind fun t120 => (if t120 = true then (some false) else ((bloom_Grams.f k (([97, 98, 99, 97, 98] : List Int))).bind fun t125 => ((dragnetref06_Same.f k t125 (([(⟨#[97, 98, 99]⟩ : ByteArray), (⟨#[98, 99, 97]⟩ : ByteArray), (⟨#[99, 97, 98]⟩ : ByteArray)] : List ByteArray))).bind fun t131 => (some t131))))) else (some false))) = some r := by rw [if_neg (show ¬ (false = true) by decide)] at H; exact H
    clear H
    have H := H1
    clear H1
    replace H := Option.bind_eq_some_iff.mp H
    obtain ⟨t119, A140, H⟩ := H
    replace H : (if t119 = true then ((bloom_May.f k ([] : List Int) (⟨#[97, 98, 99]⟩ : ByteArray)).bind fun t120 => (if t120 = true then (some false) else ((bloom_Grams.f k (([97, 98, 99, 97, 98] : List Int))).bind fun t125 => ((dragnetref06_Same.f k t125 (([(⟨#[97, 98, 99]⟩ : ByteArray), (⟨#[98, 99, 97]⟩ : ByteArray), (⟨#[99, 97, 98]⟩ : ByteArray)] : List ByteArray))).bind fun t131 => (some t131))))) else (some false)) = some r := H
    have A14 := Aside0.mk A140
    clear A140
    by_cases c15 : t119 = true
    ·subst c15
     have H1 : ((bloom_May.f k ([] : List Int) (⟨#[97, 98, 99]⟩ : ByteArray)).bind fun t120 => (if t120 = true then (some false) else ((bloom_Grams.f k (([97, 98, 99, 97, 98] : List Int))).bind fun t125 => ((dragnetref06_Same.f k t125 (([(⟨#[97, 98, 99]⟩ : ByteArray), (⟨#[98, 99, 97]⟩ : ByteArray), (⟨#[99, 97, 98]⟩ : ByteArray)] : List ByteArray))).bind fun t131 => (some t131))))) = some r := by rw [if_pos rfl] at H; exact H
     clear H
     have H := H1
     clear H1
     replace H := Option.bind_eq_some_iff.mp H
     obtain ⟨t120, A160, H⟩ := H
     replace H : (if t120 = true then (some false) else ((bloom_Grams.f k (([97, 98, 99, 97, 98] : List Int))).bind fun t125 => ((dragnetref06_Same.f k t125 (([(⟨#[97, 98, 99]⟩ : ByteArray), (⟨#[98, 99, 97]⟩ : ByteArray), (⟨#[99, 97, 98]⟩ : ByteArray)] : List ByteArray))).bind fun t131 => (some t131)))) = some r := H
     have A16 := Aside0.mk A160
     clear A160
     by_cases c17 : t120 = true
     ·subst c17
      have H1 : (some false) = some r := by rw [if_pos rfl] at H; exact H
      clear H
      have H := H1
      clear H1
      obtain rfl := Option.some.inj H
      go_enter Try.func9, Try.ntmps9
      go_wp2_with (first | ((with_reducible refine gate_dst (N := 2) rfl ?_); (try (refine gate_guard (by rfl) ?_; dsimp only)); refine Kd.R_lit Kd.string _ 9 ?hg (N := 2) ?hd (xs := ([(⟨#[97, 98, 99]⟩ : ByteArray), (⟨#[98, 99, 97]⟩ : ByteArray)] : List ByteArray)) (inner := [.string (⟨#[97, 98, 99]⟩ : ByteArray), .string (⟨#[98, 99, 97]⟩ : ByteArray)]) (ok := fun _ => True) (okp := fun _ => True) ?hr ?hp (fun _ hk => hk) trivial (Below.refl _ _) (Nat.le_refl _) (by simp) ?_; (case hd => rfl); (case hg => rfl); (case hr => first | (go_simp; done) | (go_simp; rfl)); (case hp => exact (Reps.one (show Kd.M Kd.string _ _ _ (⟨#[97, 98, 99]⟩ : ByteArray) [.string (⟨#[97, 98, 99]⟩ : ByteArray)] from rfl) (Reps.one (show Kd.M Kd.string _ _ _ (⟨#[98, 99, 97]⟩ : ByteArray) [.string (⟨#[98, 99, 97]⟩ : ByteArray)] from rfl) (Reps.none _ _)))); intro v112 w18 ho19 hb hg_ hnew_; clear hg_ hnew_; (first | rw [← Ny111.out] at ho19 | (simp only [Int.reduceToNat] at ho19; rw [← Ny111.out] at ho19)); have n0_ := Aside0.mk (Kd.R_lower ho19 (pbS_ (by repeat (first | (with_reducible first | exact HB.out | apply pbA_ | apply pbN_ | apply pb1_) | exact HB.out)))); have n1_ := Aside0.mk (below_step (by repeat (first | (with_reducible first | exact HB.out | apply pbA_ | apply pbN_ | apply pb1_) | exact HB.out)) hb); clear HB; have HO113 := n0_; have HB := n1_; clear n0_ n1_; clear hb ho19; obtain ⟨Ao20, co20, eo20⟩ := Kd.R_slice HO113.out; subst eo20) | ((with_reducible refine gaC_ (f := 15) rfl ?_); refine goesL_ (some 3) rfl rfl Try.func15 (by kernel_rfl) rfl #[.slice Ao20 y111.length co20] rfl (by (try simp only [List.map_toArray, List.map_cons, List.map_nil]); first | done | rfl | (simp only [List.length_drop, List.length_take]; rfl)) ?_; (with_reducible refine (bloom_Make.calls k _ _ y111 t114 _ ?side1 ?side2 A1.out).mono ?_); (case side1 => repeat (first | exact (Kd.R_reads' HO113.out).2.2 | (with_reducible refine Kd.cA_ ?_ _) | (with_reducible refine Kd.cN_ ?_ _) | (with_reducible refine Kd.cD_ ?_))); (case side2 => exact (Kd.R_reads' HO113.out).2.1); rintro e w21 ⟨v115, rfl, ho0, hb⟩; refine ⟨_, rfl, ?_⟩; have n0_ := Aside0.mk (Kd.R_below (by (with_reducible repeat (first | apply Kd.rA_ | apply Kd.rN_ | apply Kd.rD_)); exact HO113.out) hb); have n1_ := Aside0.mk (Kd.R_lower ho0 (pbS_ (by repeat (first | (with_reducible first | exact HB.out | apply pbA_ | apply pbN_ | apply pb1_) | exact HB.out)))); have n2_ := Aside0.mk (below_step (by repeat (first | (with_reducible first | exact HB.out | apply pbA_ | apply pbN_ | apply pb1_) | exact HB.out)) hb); clear HO113; clear HB; have HO113 := n0_; have HO116 := n1_; have HB := n2_; clear n0_ n1_ n2_; (try clear hb); (try clear hb2); (try clear hk); (try clear hi); (try clear ho0); obtain ⟨Ao22, co22, eo22⟩ := Kd.R_slice HO116.out; subst eo22) | (go_at_call 18; (with_reducible refine (bloom_Has.calls k _ _ t114 (⟨#[97, 98, 99]⟩ : ByteArray) true _ ?side1 ?side2 A3.out).mono ?_); (case side1 => repeat (first | exact (Kd.R_reads' HO116.out).2.2 | (with_reducible refine Kd.cA_ ?_ _) | (with_reducible refine Kd.cN_ ?_ _) | (with_reducible refine Kd.cD_ ?_))); (case side2 => exact (Kd.R_reads' HO116.out).2.1); rintro e w23 ⟨rfl, hb⟩; have n0_ := Aside0.mk (Kd.R_below (by (with_reducible repeat (first | apply Kd.rA_ | apply Kd.rN_ | apply Kd.rD_)); exact HO113.out) hb); have n1_ := Aside0.mk (Kd.R_below (by (with_reducible repeat (first | apply Kd.rA_ | apply Kd.rN_ | apply Kd.rD_)); exact HO116.out) hb); have n2_ := Aside0.mk (below_step (by repeat (first | (with_reducible first | exact HB.out | apply pbA_ | apply pbN_ | apply pb1_) | exact HB.out)) hb); clear HO113; clear HO116; clear HB; have HO113 := n0_; have HO116 := n1_; have HB := n2_; clear n0_ n1_ n2_; (try clear hb); (try clear hb2); (try clear hk); (try clear hi)) | (go_at_call 18; (refine (bloom_Has.calls k _ _ ([] : List Int) (⟨#[97, 98, 99]⟩ : ByteArray) false _ ?side1 ?side2 A5.out).mono ?_); (case side1 => exact Kd.C_nil _ _); (case side2 => exact Nat.le_refl _); rintro e w24 ⟨rfl, hb⟩; have n0_ := Aside0.mk (Kd.R_below (by (with_reducible repeat (first | apply Kd.rA_ | apply Kd.rN_ | apply Kd.rD_)); exact HO113.out) hb); have n1_ := Aside0.mk (Kd.R_below (by (with_reducible repeat (first | apply Kd.rA_ | apply Kd.rN_ | apply Kd.rD_)); exact HO116.out) hb); have n2_ := Aside0.mk (below_step (by repeat (first | (with_reducible first | exact HB.out | apply pbA_ | apply pbN_ | apply pb1_) | exact HB.out)) hb); clear HO113; clear HO116; clear HB; have HO113 := n0_; have HO116 := n1_; have HB := n2_; clear n0_ n1_ n2_; (try clear hb); (try clear hb2); (try clear hk); (try clear hi); (try clear A5)) | (go_at_call 20; (refine (bloom_May.calls k _ _ ([] : List Int) (⟨#[97, 98]⟩ : ByteArray) true _ ?side1 ?side2 A14.out).mono ?_); (case side1 => exact Kd.C_nil _ _); (case side2 => exact Nat.le_refl _); rintro e w25 ⟨rfl, hb⟩; have n0_ := Aside0.mk (Kd.R_below (by (with_reducible repeat (first | apply Kd.rA_ | apply Kd.rN_ | apply Kd.rD_)); exact HO113.out) hb); have n1_ := Aside0.mk (Kd.R_below (by (with_reducible repeat (first | apply Kd.rA_ | apply Kd.rN_ | apply Kd.rD_)); exact HO116.out) hb); have n2_ := Aside0.mk (below_step (by repeat (first | (with_reducible first | exact HB.out | apply pbA_ | apply pbN_ | apply pb1_) | exact HB.out)) hb); clear HO113; clear HO116; clear HB; have HO113 := n0_; have HO116 := n1_; have HB := n2_; clear n0_ n1_ n2_; (try clear hb); (try clear hb2); (try clear hk); (try clear hi); (try clear A14)) | (go_at_call 20; (refine (bloom_May.calls k _ _ ([] : List Int) (⟨#[97, 98, 99]⟩ : ByteArray) true _ ?side1 ?side2 A16.out).mono ?_); (case side1 => exact Kd.C_nil _ _); (case side2 => exact Nat.le_refl _); rintro e w26 ⟨rfl, hb⟩; have n0_ := Aside0.mk (Kd.R_below (by (with_reducible repeat (first | apply Kd.rA_ | apply Kd.rN_ | apply Kd.rD_)); exact HO113.out) hb); have n1_ := Aside0.mk (Kd.R_below (by (with_reducible repeat (first | apply Kd.rA_ | apply Kd.rN_ | apply Kd.rD_)); exact HO116.out) hb); have n2_ := Aside0.mk (below_step (by repeat (first | (with_reducible first | exact HB.out | apply pbA_ | apply pbN_ | apply pb1_) | exact HB.out)) hb); clear HO113; clear HO116; clear HB; have HO113 := n0_; have HO116 := n1_; have HB := n2_; clear n0_ n1_ n2_; (try clear hb); (try clear hb2); (try clear hk); (try clear hi); (try clear A16)))
      go_ret
      exact ⟨by first | rfl | (simp [eWn_, eWs_] <;> rfl) | (simp [*, eWn_, eWs_] <;> rfl), by repeat (first | (with_reducible first | exact HB.out | apply pbA_ | apply pbN_ | apply pb1_) | exact HB.out)⟩
     ·replace c17 := Bool.eq_false_iff.mpr c17
      subst c17
      have H1 : ((bloom_Grams.f k (([97, 98, 99, 97, 98] : List Int))).bind fun t125 => ((dragnetref06_Same.f k t125 (([(⟨#[97, 98, 99]⟩ : ByteArray), (⟨#[98, 99, 97]⟩ : ByteArray), (⟨#[99, 97, 98]⟩ : ByteArray)] : List ByteArray))).bind fun t131 => (some t131))) = some r := by rw [if_neg (show ¬ (false = true) by decide)] at H; exact H
      clear H
      have H := H1
      clear H1
      obtain ⟨y121, hy121⟩ : ∃ y_ : List Int, y_ = (([97, 98, 99, 97, 98] : List Int)) := ⟨_, rfl⟩
      replace H : ((bloom_Grams.f k (([97, 98, 99, 97, 98] : List Int))).bind fun t125 => ((dragnetref06_Same.f k t125 (([(⟨#[97, 98, 99]⟩ : ByteArray), (⟨#[98, 99, 97]⟩ : ByteArray), (⟨#[99, 97, 98]⟩ : ByteArray)] : List ByteArray))).bind fun t131 => (some t131))) = some r := by first | (rw [hy121]; with_reducible exact H) | (have H2_ := (Option.bind_some _ _).symm.trans H; rw [hy121]; with_reducible exact H2_) | (have H2_ := (Option.bind_some _ _).symm.trans H; with_reducible exact H2_) | with_reducible exact H | (rw [hy121]; exact H) | exact H
      have Ny121 := Aside0.mk hy121
      clear hy121
      obtain ⟨y121, hy121⟩ : ∃ y_ : List Int, y_ = (([97, 98, 99, 97, 98] : List Int)) := ⟨_, rfl⟩
      replace H : ((bloom_Grams.f k y121).bind fun t125 => ((dragnetref06_Same.f k t125 (([(⟨#[97, 98, 99]⟩ : ByteArray), (⟨#[98, 99, 97]⟩ : ByteArray), (⟨#[99, 97, 98]⟩ : ByteArray)] : List ByteArray))).bind fun t131 => (some t131))) = some r := by first | (rw [hy121]; with_reducible exact H) | (have H2_ := (Option.bind_some _ _).symm.trans H; rw [hy121]; with_reducible exact H2_) | (have H2_ := (Option.bind_some _ _).symm.trans H; with_reducible exact H2_) | with_reducible exact H | (rw [hy121]; exact H) | exact H
      have Ny121 := Aside0.mk hy121
      clear hy121
      replace H := Option.bind_eq_some_iff.mp H
      obtain ⟨t125, A270, H⟩ := H
      replace H : ((dragnetref06_Same.f k t125 (([(⟨#[97, 98, 99]⟩ : ByteArray), (⟨#[98, 99, 97]⟩ : ByteArray), (⟨#[99, 97, 98]⟩ : ByteArray)] : List ByteArray))).bind fun t131 => (some t131)) = some r := H
      have A27 := Aside0.mk A270
      clear A270
      obtain ⟨y128, hy128⟩ : ∃ y_ : List ByteArray, y_ = (([(⟨#[97, 98, 99]⟩ : ByteArray), (⟨#[98, 99, 97]⟩ : ByteArray), (⟨#[99, 97, 98]⟩ : ByteArray)] : List ByteArray)) := ⟨_, rfl⟩
      replace H : ((dragnetref06_Same.f k t125 y128).bind fun t131 => (some t131)) = some r := by first | (rw [hy128]; with_reducible exact H) | (have H2_ := (Option.bind_some _ _).symm.trans H; rw [hy128]; with_reducible exact H2_) | (have H2_ := (Option.bind_some _ _).symm.trans H; with_reducible exact H2_) | with_reducible exact H | (rw [hy128]; exact H) | exact H
      have Ny128 := Aside0.mk hy128
      clear hy128
      replace H := Option.bind_eq_some_iff.mp H
      obtain ⟨t131, A280, H⟩ := H
      replace H : (some t131) = some r := H
      have A28 := Aside0.mk A280
      clear A280
      obtain rfl := Option.some.inj H
      go_enter Try.func9, Try.ntmps9
      go_wp2_with (first | ((with_reducible refine gate_dst (N := 2) rfl ?_); (try (refine gate_guard (by rfl) ?_; dsimp only)); refine Kd.R_lit Kd.string _ 9 ?hg (N := 2) ?hd (xs := ([(⟨#[97, 98, 99]⟩ : ByteArray), (⟨#[98, 99, 97]⟩ : ByteArray)] : List ByteArray)) (inner := [.string (⟨#[97, 98, 99]⟩ : ByteArray), .string (⟨#[98, 99, 97]⟩ : ByteArray)]) (ok := fun _ => True) (okp := fun _ => True) ?hr ?hp (fun _ hk => hk) trivial (Below.refl _ _) (Nat.le_refl _) (by simp) ?_; (case hd => rfl); (case hg => rfl); (case hr => first | (go_simp; done) | (go_simp; rfl)); (case hp => exact (Reps.one (show Kd.M Kd.string _ _ _ (⟨#[97, 98, 99]⟩ : ByteArray) [.string (⟨#[97, 98, 99]⟩ : ByteArray)] from rfl) (Reps.one (show Kd.M Kd.string _ _ _ (⟨#[98, 99, 97]⟩ : ByteArray) [.string (⟨#[98, 99, 97]⟩ : ByteArray)] from rfl) (Reps.none _ _)))); intro v112 w29 ho30 hb hg_ hnew_; clear hg_ hnew_; (first | rw [← Ny111.out] at ho30 | (simp only [Int.reduceToNat] at ho30; rw [← Ny111.out] at ho30)); have n0_ := Aside0.mk (Kd.R_lower ho30 (pbS_ (by repeat (first | (with_reducible first | exact HB.out | apply pbA_ | apply pbN_ | apply pb1_) | exact HB.out)))); have n1_ := Aside0.mk (below_step (by repeat (first | (with_reducible first | exact HB.out | apply pbA_ | apply pbN_ | apply pb1_) | exact HB.out)) hb); clear HB; have HO113 := n0_; have HB := n1_; clear n0_ n1_; clear hb ho30; obtain ⟨Ao31, co31, eo31⟩ := Kd.R_slice HO113.out; subst eo31) | ((with_reducible refine gaC_ (f := 15) rfl ?_); refine goesL_ (some 3) rfl rfl Try.func15 (by kernel_rfl) rfl #[.slice Ao31 y111.length co31] rfl (by (try simp only [List.map_toArray, List.map_cons, List.map_nil]); first | done | rfl | (simp only [List.length_drop, List.length_take]; rfl)) ?_; (with_reducible refine (bloom_Make.calls k _ _ y111 t114 _ ?side1 ?side2 A1.out).mono ?_); (case side1 => repeat (first | exact (Kd.R_reads' HO113.out).2.2 | (with_reducible refine Kd.cA_ ?_ _) | (with_reducible refine Kd.cN_ ?_ _) | (with_reducible refine Kd.cD_ ?_))); (case side2 => exact (Kd.R_reads' HO113.out).2.1); rintro e w32 ⟨v115, rfl, ho0, hb⟩; refine ⟨_, rfl, ?_⟩; have n0_ := Aside0.mk (Kd.R_below (by (with_reducible repeat (first | apply Kd.rA_ | apply Kd.rN_ | apply Kd.rD_)); exact HO113.out) hb); have n1_ := Aside0.mk (Kd.R_lower ho0 (pbS_ (by repeat (first | (with_reducible first | exact HB.out | apply pbA_ | apply pbN_ | apply pb1_) | exact HB.out)))); have n2_ := Aside0.mk (below_step (by repeat (first | (with_reducible first | exact HB.out | apply pbA_ | apply pbN_ | apply pb1_) | exact HB.out)) hb); clear HO113; clear HB; have HO113 := n0_; have HO116 := n1_; have HB := n2_; clear n0_ n1_ n2_; (try clear hb); (try clear hb2); (try clear hk); (try clear hi); (try clear ho0); obtain ⟨Ao33, co33, eo33⟩ := Kd.R_slice HO116.out; subst eo33) | (go_at_call 18; (with_reducible refine (bloom_Has.calls k _ _ t114 (⟨#[97, 98, 99]⟩ : ByteArray) true _ ?side1 ?side2 A3.out).mono ?_); (case side1 => repeat (first | exact (Kd.R_reads' HO116.out).2.2 | (with_reducible refine Kd.cA_ ?_ _) | (with_reducible refine Kd.cN_ ?_ _) | (with_reducible refine Kd.cD_ ?_))); (case side2 => exact (Kd.R_reads' HO116.out).2.1); rintro e w34 ⟨rfl, hb⟩; have n0_ := Aside0.mk (Kd.R_below (by (with_reducible repeat (first | apply Kd.rA_ | apply Kd.rN_ | apply Kd.rD_)); exact HO113.out) hb); have n1_ := Aside0.mk (Kd.R_below (by (with_reducible repeat (first | apply Kd.rA_ | apply Kd.rN_ | apply Kd.rD_)); exact HO116.out) hb); have n2_ := Aside0.mk (below_step (by repeat (first | (with_reducible first | exact HB.out | apply pbA_ | apply pbN_ | apply pb1_) | exact HB.out)) hb); clear HO113; clear HO116; clear HB; have HO113 := n0_; have HO116 := n1_; have HB := n2_; clear n0_ n1_ n2_; (try clear hb); (try clear hb2); (try clear hk); (try clear hi)) | (go_at_call 18; (refine (bloom_Has.calls k _ _ ([] : List Int) (⟨#[97, 98, 99]⟩ : ByteArray) false _ ?side1 ?side2 A5.out).mono ?_); (case side1 => exact Kd.C_nil _ _); (case side2 => exact Nat.le_refl _); rintro e w35 ⟨rfl, hb⟩; have n0_ := Aside0.mk (Kd.R_below (by (with_reducible repeat (first | apply Kd.rA_ | apply Kd.rN_ | apply Kd.rD_)); exact HO113.out) hb); have n1_ := Aside0.mk (Kd.R_below (by (with_reducible repeat (first | apply Kd.rA_ | apply Kd.rN_ | apply Kd.rD_)); exact HO116.out) hb); have n2_ := Aside0.mk (below_step (by repeat (first | (with_reducible first | exact HB.out | apply pbA_ | apply pbN_ | apply pb1_) | exact HB.out)) hb); clear HO113; clear HO116; clear HB; have HO113 := n0_; have HO116 := n1_; have HB := n2_; clear n0_ n1_ n2_; (try clear hb); (try clear hb2); (try clear hk); (try clear hi); (try clear A5)) | (go_at_call 20; (refine (bloom_May.calls k _ _ ([] : List Int) (⟨#[97, 98]⟩ : ByteArray) true _ ?side1 ?side2 A14.out).mono ?_); (case side1 => exact Kd.C_nil _ _); (case side2 => exact Nat.le_refl _); rintro e w36 ⟨rfl, hb⟩; have n0_ := Aside0.mk (Kd.R_below (by (with_reducible repeat (first | apply Kd.rA_ | apply Kd.rN_ | apply Kd.rD_)); exact HO113.out) hb); have n1_ := Aside0.mk (Kd.R_below (by (with_reducible repeat (first | apply Kd.rA_ | apply Kd.rN_ | apply Kd.rD_)); exact HO116.out) hb); have n2_ := Aside0.mk (below_step (by repeat (first | (with_reducible first | exact HB.out | apply pbA_ | apply pbN_ | apply pb1_) | exact HB.out)) hb); clear HO113; clear HO116; clear HB; have HO113 := n0_; have HO116 := n1_; have HB := n2_; clear n0_ n1_ n2_; (try clear hb); (try clear hb2); (try clear hk); (try clear hi); (try clear A14)) | (go_at_call 20; (refine (bloom_May.calls k _ _ ([] : List Int) (⟨#[97, 98, 99]⟩ : ByteArray) false _ ?side1 ?side2 A16.out).mono ?_); (case side1 => exact Kd.C_nil _ _); (case side2 => exact Nat.le_refl _); rintro e w37 ⟨rfl, hb⟩; have n0_ := Aside0.mk (Kd.R_below (by (with_reducible repeat (first | apply Kd.rA_ | apply Kd.rN_ | apply Kd.rD_)); exact HO113.out) hb); have n1_ := Aside0.mk (Kd.R_below (by (with_reducible repeat (first | apply Kd.rA_ | apply Kd.rN_ | apply Kd.rD_)); exact HO116.out) hb); have n2_ := Aside0.mk (below_step (by repeat (first | (with_reducible first | exact HB.out | apply pbA_ | apply pbN_ | apply pb1_) | exact HB.out)) hb); clear HO113; clear HO116; clear HB; have HO113 := n0_; have HO116 := n1_; have HB := n2_; clear n0_ n1_ n2_; (try clear hb); (try clear hb2); (try clear hk); (try clear hi); (try clear A16)) | ((with_reducible refine gate_dst (N := 23) rfl ?_); (try (refine gate_guard (by rfl) ?_; dsimp only)); refine Kd.R_lit (Kd.int .u8) _ 5 ?hg (N := 23) ?hd (xs := ([97, 98, 99, 97, 98] : List Int)) (inner := [.int .u8 97, .int .u8 98, .int .u8 99, .int .u8 97, .int .u8 98]) (ok := fun _ => True) (okp := fun _ => True) ?hr ?hp (fun _ hk => hk) trivial (Below.refl _ _) (Nat.le_refl _) (by simp) ?_; (case hd => rfl); (case hg => rfl); (case hr => first | (go_simp; done) | (go_simp; rfl)); (case hp => exact (Reps.one (show Kd.M (Kd.int .u8) _ _ _ 97 [.int .u8 97] from rfl) (Reps.one (show Kd.M (Kd.int .u8) _ _ _ 98 [.int .u8 98] from rfl) (Reps.one (show Kd.M (Kd.int .u8) _ _ _ 99 [.int .u8 99] from rfl) (Reps.one (show Kd.M (Kd.int .u8) _ _ _ 97 [.int .u8 97] from rfl) (Reps.one (show Kd.M (Kd.int .u8) _ _ _ 98 [.int .u8 98] from rfl) (Reps.none _ _))))))); intro v122 w38 ho39 hb hg_ hnew_; clear hg_ hnew_; (first | rw [← Ny121.out] at ho39 | (simp only [Int.reduceToNat] at ho39; rw [← Ny121.out] at ho39)); have n0_ := Aside0.mk (Kd.R_below (by (with_reducible repeat (first | apply Kd.rA_ | apply Kd.rN_ | apply Kd.rD_)); exact HO113.out) hb); have n1_ := Aside0.mk (Kd.R_elder' (by (with_reducible repeat (first | apply Kd.rA_ | apply Kd.rN_ | apply Kd.rD_)); exact HO116.out) (Kd.R_base ho39) hb); have n2_ := Aside0.mk (Kd.R_lower (Kd.R_new' ho39 (Kd.R_lt (by (with_reducible repeat (first | apply Kd.rA_ | apply Kd.rN_ | apply Kd.rD_)); exact HO116.out))) (pbS_ (by repeat (first | (with_reducible first | exact HB.out | apply pbA_ | apply pbN_ | apply pb1_) | exact HB.out)))); have n3_ := Aside0.mk (below_step (by repeat (first | (with_reducible first | exact HB.out | apply pbA_ | apply pbN_ | apply pb1_) | exact HB.out)) hb); clear HO113; clear HO116; clear HB; have HO113 := n0_; have HO116 := n1_; have HO123 := n2_; have HB := n3_; clear n0_ n1_ n2_ n3_; clear hb ho39; obtain ⟨Ao40, co40, eo40⟩ := Kd.R_slice HO123.out; subst eo40) | ((with_reducible refine gate_dst (N := 24) rfl ?_); (try (refine gate_guard (by rfl) ?_; dsimp only)); refine Kd.mark_event rfl (N := 24) rfl 30 5 (.tmp 23) rfl Try.underlying30 Try.underlying5 Ao40 co40 y121 (by first | rfl | (go_simp; rfl)) _ (by first | decide | (rw [Ny121.out]; decide)) (by (with_reducible repeat (first | apply Kd.rA_ | apply Kd.rN_ | apply Kd.rD_)); exact HO123.out) (by repeat (first | (with_reducible first | exact HB.out | apply pbA_ | apply pbN_ | apply pb1_) | exact HB.out)) ?_; intro w41 hcc_ hC_ hb; have n0_ := Aside0.mk (hb); have n1_ := Aside0.mk (hC_); have n2_ := Aside0.mk (hcc_); clear HB; have HB := n0_; have HR124 := n1_; have HC124 := n2_; clear n0_ n1_ n2_; clear hb hC_ hcc_) | (go_at_call 23; (with_reducible refine (bloom_Grams.calls k _ _ y121 t125 _ ?side1 ?side2 A27.out).mono ?_); (case side1 => repeat (first | exact (by repeat (first | (with_reducible exact HR124.out) | (with_reducible refine Kd.cA_ ?_ _) | (with_reducible refine Kd.cN_ ?_ _) | (with_reducible refine Kd.cD_ ?_) | exact HR124.out)) | (with_reducible refine Kd.cA_ ?_ _) | (with_reducible refine Kd.cN_ ?_ _) | (with_reducible refine Kd.cD_ ?_))); (case side2 => exact HC124.out); rintro e w42 ⟨v126, rfl, ho0, hb⟩; have n0_ := Aside0.mk (Kd.R_lower ho0 (pbS_ (by repeat (first | (with_reducible first | exact HB.out | apply pbA_ | apply pbN_ | apply pb1_) | exact HB.out)))); have n1_ := Aside0.mk (Kd.C_below (by repeat (first | (with_reducible exact HR124.out) | (with_reducible refine Kd.cA_ ?_ _) | (with_reducible refine Kd.cN_ ?_ _) | (with_reducible refine Kd.cD_ ?_) | exact HR124.out)) hb); have n2_ := Aside0.mk (below_step (by repeat (first | (with_reducible first | exact HB.out | apply pbA_ | apply pbN_ | apply pb1_) | exact HB.out)) hb); clear HR124; clear HB; have HO127 := n0_; have HR124 := n1_; have HB := n2_; clear n0_ n1_ n2_; (try clear hb); (try clear hb2); (try clear hk); (try clear hi); (try clear ho0)) | ((with_reducible refine gate_dst (N := 26) rfl ?_); (try (refine gate_guard (by rfl) ?_; dsimp only)); refine Kd.R_lit Kd.string _ 9 ?hg (N := 26) ?hd (xs := ([(⟨#[97, 98, 99]⟩ : ByteArray), (⟨#[98, 99, 97]⟩ : ByteArray), (⟨#[99, 97, 98]⟩ : ByteArray)] : List ByteArray)) (inner := [.string (⟨#[97, 98, 99]⟩ : ByteArray), .string (⟨#[98, 99, 97]⟩ : ByteArray), .string (⟨#[99, 97, 98]⟩ : ByteArray)]) (ok := fun _ => True) (okp := fun _ => True) ?hr ?hp (fun _ hk => hk) trivial (Below.refl _ _) (Nat.le_refl _) (by simp) ?_; (case hd => rfl); (case hg => rfl); (case hr => first | (go_simp; done) | (go_simp; rfl)); (case hp => exact (Reps.one (show Kd.M Kd.string _ _ _ (⟨#[97, 98, 99]⟩ : ByteArray) [.string (⟨#[97, 98, 99]⟩ : ByteArray)] from rfl) (Reps.one (show Kd.M Kd.string _ _ _ (⟨#[98, 99, 97]⟩ : ByteArray) [.string (⟨#[98, 99, 97]⟩ : ByteArray)] from rfl) (Reps.one (show Kd.M Kd.string _ _ _ (⟨#[99, 97, 98]⟩ : ByteArray) [.string (⟨#[99, 97, 98]⟩ : ByteArray)] from rfl) (Reps.none _ _))))); intro v129 w43 ho44 hb hg_ hnew_; clear hg_ hnew_; (first | rw [← Ny128.out] at ho44 | (simp only [Int.reduceToNat] at ho44; rw [← Ny128.out] at ho44)); have n0_ := Aside0.mk (Kd.R_elder' (by (with_reducible repeat (first | apply Kd.rA_ | apply Kd.rN_ | apply Kd.rD_)); exact HO127.out) (Kd.R_base ho44) hb); have n1_ := Aside0.mk (Kd.R_lower (Kd.R_new' ho44 (Kd.R_lt (by (with_reducible repeat (first | apply Kd.rA_ | apply Kd.rN_ | apply Kd.rD_)); exact HO127.out))) (pbS_ (by repeat (first | (with_reducible first | exact HB.out | apply pbA_ | apply pbN_ | apply pb1_) | exact HB.out)))); have n2_ := Aside0.mk (Kd.C_below (by repeat (first | (with_reducible exact HR124.out) | (with_reducible refine Kd.cA_ ?_ _) | (with_reducible refine Kd.cN_ ?_ _) | (with_reducible refine Kd.cD_ ?_) | exact HR124.out)) hb); have n3_ := Aside0.mk (below_step (by repeat (first | (with_reducible first | exact HB.out | apply pbA_ | apply pbN_ | apply pb1_) | exact HB.out)) hb); clear HO127; clear HR124; clear HB; have HO127 := n0_; have HO130 := n1_; have HR124 := n2_; have HB := n3_; clear n0_ n1_ n2_ n3_; clear hb ho44; obtain ⟨Ao45, co45, eo45⟩ := Kd.R_slice HO127.out; subst eo45; obtain ⟨Ao46, co46, eo46⟩ := Kd.R_slice HO130.out; subst eo46) | (go_at_call 17; (with_reducible refine (dragnetref06_Same.calls k _ _ t125 _ _ y128 t131 _ ?side1 ?side2 ?side3 ?side4 A28.out).mono ?_); (case side1 => repeat (first | exact (Kd.R_reads' HO127.out).2.2 | (with_reducible refine Kd.cA_ ?_ _) | (with_reducible refine Kd.cN_ ?_ _) | (with_reducible refine Kd.cD_ ?_))); (case side2 => exact (Kd.R_reads' HO127.out).2.1); (case side3 => repeat (first | exact (Kd.R_reads' HO130.out).2.2 | (with_reducible refine Kd.cA_ ?_ _) | (with_reducible refine Kd.cN_ ?_ _) | (with_reducible refine Kd.cD_ ?_))); (case side4 => exact (Kd.R_reads' HO130.out).2.1); rintro e w' ⟨rfl, ⟨nd, rfl⟩⟩))
      go_ret
      exact ⟨by first | rfl | (simp [eWn_, eWs_] <;> rfl) | (simp [*, eWn_, eWs_] <;> rfl), by repeat (first | (with_reducible first | exact HB.out | apply pbA_ | apply pbN_ | apply pb1_) | exact HB.out)⟩
    ·replace c15 := Bool.eq_false_iff.mpr c15
     subst c15
     have H1 : (some false) = some r := by rw [if_neg (show ¬ (false = true) by decide)] at H; exact H
     clear H
     have H := H1
     clear H1
     obtain rfl := Option.some.inj H
     go_enter Try.func9, Try.ntmps9
     go_wp2_with (first | ((with_reducible refine gate_dst (N := 2) rfl ?_); (try (refine gate_guard (by rfl) ?_; dsimp only)); refine Kd.R_lit Kd.string _ 9 ?hg (N := 2) ?hd (xs := ([(⟨#[97, 98, 99]⟩ : ByteArray), (⟨#[98, 99, 97]⟩ : ByteArray)] : List ByteArray)) (inner := [.string (⟨#[97, 98, 99]⟩ : ByteArray), .string (⟨#[98, 99, 97]⟩ : ByteArray)]) (ok := fun _ => True) (okp := fun _ => True) ?hr ?hp (fun _ hk => hk) trivial (Below.refl _ _) (Nat.le_refl _) (by simp) ?_; (case hd => rfl); (case hg => rfl); (case hr => first | (go_simp; done) | (go_simp; rfl)); (case hp => exact (Reps.one (show Kd.M Kd.string _ _ _ (⟨#[97, 98, 99]⟩ : ByteArray) [.string (⟨#[97, 98, 99]⟩ : ByteArray)] from rfl) (Reps.one (show Kd.M Kd.string _ _ _ (⟨#[98, 99, 97]⟩ : ByteArray) [.string (⟨#[98, 99, 97]⟩ : ByteArray)] from rfl) (Reps.none _ _)))); intro v112 w47 ho48 hb hg_ hnew_; clear hg_ hnew_; (first | rw [← Ny111.out] at ho48 | (simp only [Int.reduceToNat] at ho48; rw [← Ny111.out] at ho48)); have n0_ := Aside0.mk (Kd.R_lower ho48 (pbS_ (by repeat (first | (with_reducible first | exact HB.out | apply pbA_ | apply pbN_ | apply pb1_) | exact HB.out)))); have n1_ := Aside0.mk (below_step (by repeat (first | (with_reducible first | exact HB.out | apply pbA_ | apply pbN_ | apply pb1_) | exact HB.out)) hb); clear HB; have HO113 := n0_; have HB := n1_; clear n0_ n1_; clear hb ho48; obtain ⟨Ao49, co49, eo49⟩ := Kd.R_slice HO113.out; subst eo49) | ((with_reducible refine gaC_ (f := 15) rfl ?_); refine goesL_ (some 3) rfl rfl Try.func15 (by kernel_rfl) rfl #[.slice Ao49 y111.length co49] rfl (by (try simp only [List.map_toArray, List.map_cons, List.map_nil]); first | done | rfl | (simp only [List.length_drop, List.length_take]; rfl)) ?_; (with_reducible refine (bloom_Make.calls k _ _ y111 t114 _ ?side1 ?side2 A1.out).mono ?_); (case side1 => repeat (first | exact (Kd.R_reads' HO113.out).2.2 | (with_reducible refine Kd.cA_ ?_ _) | (with_reducible refine Kd.cN_ ?_ _) | (with_reducible refine Kd.cD_ ?_))); (case side2 => exact (Kd.R_reads' HO113.out).2.1); rintro e w50 ⟨v115, rfl, ho0, hb⟩; refine ⟨_, rfl, ?_⟩; have n0_ := Aside0.mk (Kd.R_below (by (with_reducible repeat (first | apply Kd.rA_ | apply Kd.rN_ | apply Kd.rD_)); exact HO113.out) hb); have n1_ := Aside0.mk (Kd.R_lower ho0 (pbS_ (by repeat (first | (with_reducible first | exact HB.out | apply pbA_ | apply pbN_ | apply pb1_) | exact HB.out)))); have n2_ := Aside0.mk (below_step (by repeat (first | (with_reducible first | exact HB.out | apply pbA_ | apply pbN_ | apply pb1_) | exact HB.out)) hb); clear HO113; clear HB; have HO113 := n0_; have HO116 := n1_; have HB := n2_; clear n0_ n1_ n2_; (try clear hb); (try clear hb2); (try clear hk); (try clear hi); (try clear ho0); obtain ⟨Ao51, co51, eo51⟩ := Kd.R_slice HO116.out; subst eo51) | (go_at_call 18; (with_reducible refine (bloom_Has.calls k _ _ t114 (⟨#[97, 98, 99]⟩ : ByteArray) true _ ?side1 ?side2 A3.out).mono ?_); (case side1 => repeat (first | exact (Kd.R_reads' HO116.out).2.2 | (with_reducible refine Kd.cA_ ?_ _) | (with_reducible refine Kd.cN_ ?_ _) | (with_reducible refine Kd.cD_ ?_))); (case side2 => exact (Kd.R_reads' HO116.out).2.1); rintro e w52 ⟨rfl, hb⟩; have n0_ := Aside0.mk (Kd.R_below (by (with_reducible repeat (first | apply Kd.rA_ | apply Kd.rN_ | apply Kd.rD_)); exact HO113.out) hb); have n1_ := Aside0.mk (Kd.R_below (by (with_reducible repeat (first | apply Kd.rA_ | apply Kd.rN_ | apply Kd.rD_)); exact HO116.out) hb); have n2_ := Aside0.mk (below_step (by repeat (first | (with_reducible first | exact HB.out | apply pbA_ | apply pbN_ | apply pb1_) | exact HB.out)) hb); clear HO113; clear HO116; clear HB; have HO113 := n0_; have HO116 := n1_; have HB := n2_; clear n0_ n1_ n2_; (try clear hb); (try clear hb2); (try clear hk); (try clear hi)) | (go_at_call 18; (refine (bloom_Has.calls k _ _ ([] : List Int) (⟨#[97, 98, 99]⟩ : ByteArray) false _ ?side1 ?side2 A5.out).mono ?_); (case side1 => exact Kd.C_nil _ _); (case side2 => exact Nat.le_refl _); rintro e w53 ⟨rfl, hb⟩; have n0_ := Aside0.mk (Kd.R_below (by (with_reducible repeat (first | apply Kd.rA_ | apply Kd.rN_ | apply Kd.rD_)); exact HO113.out) hb); have n1_ := Aside0.mk (Kd.R_below (by (with_reducible repeat (first | apply Kd.rA_ | apply Kd.rN_ | apply Kd.rD_)); exact HO116.out) hb); have n2_ := Aside0.mk (below_step (by repeat (first | (with_reducible first | exact HB.out | apply pbA_ | apply pbN_ | apply pb1_) | exact HB.out)) hb); clear HO113; clear HO116; clear HB; have HO113 := n0_; have HO116 := n1_; have HB := n2_; clear n0_ n1_ n2_; (try clear hb); (try clear hb2); (try clear hk); (try clear hi); (try clear A5)) | (go_at_call 20; (refine (bloom_May.calls k _ _ ([] : List Int) (⟨#[97, 98]⟩ : ByteArray) false _ ?side1 ?side2 A14.out).mono ?_); (case side1 => exact Kd.C_nil _ _); (case side2 => exact Nat.le_refl _); rintro e w54 ⟨rfl, hb⟩; have n0_ := Aside0.mk (Kd.R_below (by (with_reducible repeat (first | apply Kd.rA_ | apply Kd.rN_ | apply Kd.rD_)); exact HO113.out) hb); have n1_ := Aside0.mk (Kd.R_below (by (with_reducible repeat (first | apply Kd.rA_ | apply Kd.rN_ | apply Kd.rD_)); exact HO116.out) hb); have n2_ := Aside0.mk (below_step (by repeat (first | (with_reducible first | exact HB.out | apply pbA_ | apply pbN_ | apply pb1_) | exact HB.out)) hb); clear HO113; clear HO116; clear HB; have HO113 := n0_; have HO116 := n1_; have HB := n2_; clear n0_ n1_ n2_; (try clear hb); (try clear hb2); (try clear hk); (try clear hi); (try clear A14)))
     go_ret
     exact ⟨by first | rfl | (simp [eWn_, eWs_] <;> rfl) | (simp [*, eWn_, eWs_] <;> rfl), by repeat (first | (with_reducible first | exact HB.out | apply pbA_ | apply pbN_ | apply pb1_) | exact HB.out)⟩
  ·replace c4 := Bool.eq_false_iff.mpr c4
   subst c4
   have H1 : (some false) = some r := by rw [if_neg (show ¬ (false = true) by decide)] at H; exact H
   clear H
   have H := H1
   clear H1
   obtain rfl := Option.some.inj H
   go_enter Try.func9, Try.ntmps9
   go_wp2_with (first | ((with_reducible refine gate_dst (N := 2) rfl ?_); (try (refine gate_guard (by rfl) ?_; dsimp only)); refine Kd.R_lit Kd.string _ 9 ?hg (N := 2) ?hd (xs := ([(⟨#[97, 98, 99]⟩ : ByteArray), (⟨#[98, 99, 97]⟩ : ByteArray)] : List ByteArray)) (inner := [.string (⟨#[97, 98, 99]⟩ : ByteArray), .string (⟨#[98, 99, 97]⟩ : ByteArray)]) (ok := fun _ => True) (okp := fun _ => True) ?hr ?hp (fun _ hk => hk) trivial (Below.refl _ _) (Nat.le_refl _) (by simp) ?_; (case hd => rfl); (case hg => rfl); (case hr => first | (go_simp; done) | (go_simp; rfl)); (case hp => exact (Reps.one (show Kd.M Kd.string _ _ _ (⟨#[97, 98, 99]⟩ : ByteArray) [.string (⟨#[97, 98, 99]⟩ : ByteArray)] from rfl) (Reps.one (show Kd.M Kd.string _ _ _ (⟨#[98, 99, 97]⟩ : ByteArray) [.string (⟨#[98, 99, 97]⟩ : ByteArray)] from rfl) (Reps.none _ _)))); intro v112 w55 ho56 hb hg_ hnew_; clear hg_ hnew_; (first | rw [← Ny111.out] at ho56 | (simp only [Int.reduceToNat] at ho56; rw [← Ny111.out] at ho56)); have n0_ := Aside0.mk (Kd.R_lower ho56 (pbS_ (by repeat (first | (with_reducible first | exact HB.out | apply pbA_ | apply pbN_ | apply pb1_) | exact HB.out)))); have n1_ := Aside0.mk (below_step (by repeat (first | (with_reducible first | exact HB.out | apply pbA_ | apply pbN_ | apply pb1_) | exact HB.out)) hb); clear HB; have HO113 := n0_; have HB := n1_; clear n0_ n1_; clear hb ho56; obtain ⟨Ao57, co57, eo57⟩ := Kd.R_slice HO113.out; subst eo57) | ((with_reducible refine gaC_ (f := 15) rfl ?_); refine goesL_ (some 3) rfl rfl Try.func15 (by kernel_rfl) rfl #[.slice Ao57 y111.length co57] rfl (by (try simp only [List.map_toArray, List.map_cons, List.map_nil]); first | done | rfl | (simp only [List.length_drop, List.length_take]; rfl)) ?_; (with_reducible refine (bloom_Make.calls k _ _ y111 t114 _ ?side1 ?side2 A1.out).mono ?_); (case side1 => repeat (first | exact (Kd.R_reads' HO113.out).2.2 | (with_reducible refine Kd.cA_ ?_ _) | (with_reducible refine Kd.cN_ ?_ _) | (with_reducible refine Kd.cD_ ?_))); (case side2 => exact (Kd.R_reads' HO113.out).2.1); rintro e w58 ⟨v115, rfl, ho0, hb⟩; refine ⟨_, rfl, ?_⟩; have n0_ := Aside0.mk (Kd.R_below (by (with_reducible repeat (first | apply Kd.rA_ | apply Kd.rN_ | apply Kd.rD_)); exact HO113.out) hb); have n1_ := Aside0.mk (Kd.R_lower ho0 (pbS_ (by repeat (first | (with_reducible first | exact HB.out | apply pbA_ | apply pbN_ | apply pb1_) | exact HB.out)))); have n2_ := Aside0.mk (below_step (by repeat (first | (with_reducible first | exact HB.out | apply pbA_ | apply pbN_ | apply pb1_) | exact HB.out)) hb); clear HO113; clear HB; have HO113 := n0_; have HO116 := n1_; have HB := n2_; clear n0_ n1_ n2_; (try clear hb); (try clear hb2); (try clear hk); (try clear hi); (try clear ho0); obtain ⟨Ao59, co59, eo59⟩ := Kd.R_slice HO116.out; subst eo59) | (go_at_call 18; (with_reducible refine (bloom_Has.calls k _ _ t114 (⟨#[97, 98, 99]⟩ : ByteArray) false _ ?side1 ?side2 A3.out).mono ?_); (case side1 => repeat (first | exact (Kd.R_reads' HO116.out).2.2 | (with_reducible refine Kd.cA_ ?_ _) | (with_reducible refine Kd.cN_ ?_ _) | (with_reducible refine Kd.cD_ ?_))); (case side2 => exact (Kd.R_reads' HO116.out).2.1); rintro e w60 ⟨rfl, hb⟩; have n0_ := Aside0.mk (Kd.R_below (by (with_reducible repeat (first | apply Kd.rA_ | apply Kd.rN_ | apply Kd.rD_)); exact HO113.out) hb); have n1_ := Aside0.mk (Kd.R_below (by (with_reducible repeat (first | apply Kd.rA_ | apply Kd.rN_ | apply Kd.rD_)); exact HO116.out) hb); have n2_ := Aside0.mk (below_step (by repeat (first | (with_reducible first | exact HB.out | apply pbA_ | apply pbN_ | apply pb1_) | exact HB.out)) hb); clear HO113; clear HO116; clear HB; have HO113 := n0_; have HO116 := n1_; have HB := n2_; clear n0_ n1_ n2_; (try clear hb); (try clear hb2); (try clear hk); (try clear hi)))
   go_ret
   exact ⟨by first | rfl | (simp [eWn_, eWs_] <;> rfl) | (simp [*, eWn_, eWs_] <;> rfl), by repeat (first | (with_reducible first | exact HB.out | apply pbA_ | apply pbN_ | apply pb1_) | exact HB.out)⟩
 ·rw [if_neg c2] at H
  have c2b0 : ((t114.length : Int) == 3) = false := beq_eq_false_iff_ne.mpr c2
  have c2b1 : ((t114.length : Int) != 3) = true := bne_iff_ne.mpr c2
  obtain rfl := Option.some.inj H
  go_enter Try.func9, Try.ntmps9
  go_wp2_with (first | ((with_reducible refine gate_dst (N := 2) rfl ?_); (try (refine gate_guard (by rfl) ?_; dsimp only)); refine Kd.R_lit Kd.string _ 9 ?hg (N := 2) ?hd (xs := ([(⟨#[97, 98, 99]⟩ : ByteArray), (⟨#[98, 99, 97]⟩ : ByteArray)] : List ByteArray)) (inner := [.string (⟨#[97, 98, 99]⟩ : ByteArray), .string (⟨#[98, 99, 97]⟩ : ByteArray)]) (ok := fun _ => True) (okp := fun _ => True) ?hr ?hp (fun _ hk => hk) trivial (Below.refl _ _) (Nat.le_refl _) (by simp) ?_; (case hd => rfl); (case hg => rfl); (case hr => first | (go_simp; done) | (go_simp; rfl)); (case hp => exact (Reps.one (show Kd.M Kd.string _ _ _ (⟨#[97, 98, 99]⟩ : ByteArray) [.string (⟨#[97, 98, 99]⟩ : ByteArray)] from rfl) (Reps.one (show Kd.M Kd.string _ _ _ (⟨#[98, 99, 97]⟩ : ByteArray) [.string (⟨#[98, 99, 97]⟩ : ByteArray)] from rfl) (Reps.none _ _)))); intro v112 w61 ho62 hb hg_ hnew_; clear hg_ hnew_; (first | rw [← Ny111.out] at ho62 | (simp only [Int.reduceToNat] at ho62; rw [← Ny111.out] at ho62)); have n0_ := Aside0.mk (Kd.R_lower ho62 (pbS_ (by repeat (first | (with_reducible first | exact HB.out | apply pbA_ | apply pbN_ | apply pb1_) | exact HB.out)))); have n1_ := Aside0.mk (below_step (by repeat (first | (with_reducible first | exact HB.out | apply pbA_ | apply pbN_ | apply pb1_) | exact HB.out)) hb); clear HB; have HO113 := n0_; have HB := n1_; clear n0_ n1_; clear hb ho62; obtain ⟨Ao63, co63, eo63⟩ := Kd.R_slice HO113.out; subst eo63) | ((with_reducible refine gaC_ (f := 15) rfl ?_); refine goesL_ (some 3) rfl rfl Try.func15 (by kernel_rfl) rfl #[.slice Ao63 y111.length co63] rfl (by (try simp only [List.map_toArray, List.map_cons, List.map_nil]); first | done | rfl | (simp only [List.length_drop, List.length_take]; rfl)) ?_; (with_reducible refine (bloom_Make.calls k _ _ y111 t114 _ ?side1 ?side2 A1.out).mono ?_); (case side1 => repeat (first | exact (Kd.R_reads' HO113.out).2.2 | (with_reducible refine Kd.cA_ ?_ _) | (with_reducible refine Kd.cN_ ?_ _) | (with_reducible refine Kd.cD_ ?_))); (case side2 => exact (Kd.R_reads' HO113.out).2.1); rintro e w64 ⟨v115, rfl, ho0, hb⟩; refine ⟨_, rfl, ?_⟩; have n0_ := Aside0.mk (Kd.R_below (by (with_reducible repeat (first | apply Kd.rA_ | apply Kd.rN_ | apply Kd.rD_)); exact HO113.out) hb); have n1_ := Aside0.mk (Kd.R_lower ho0 (pbS_ (by repeat (first | (with_reducible first | exact HB.out | apply pbA_ | apply pbN_ | apply pb1_) | exact HB.out)))); have n2_ := Aside0.mk (below_step (by repeat (first | (with_reducible first | exact HB.out | apply pbA_ | apply pbN_ | apply pb1_) | exact HB.out)) hb); clear HO113; clear HB; have HO113 := n0_; have HO116 := n1_; have HB := n2_; clear n0_ n1_ n2_; (try clear hb); (try clear hb2); (try clear hk); (try clear hi); (try clear ho0); obtain ⟨Ao65, co65, eo65⟩ := Kd.R_slice HO116.out; subst eo65))
  go_ret
  exact ⟨by first | rfl | (simp [eWn_, eWs_] <;> rfl) | (simp [*, eWn_, eWs_] <;> rfl), by repeat (first | (with_reducible first | exact HB.out | apply pbA_ | apply pbN_ | apply pb1_) | exact HB.out)⟩
def dragnetlaw15_wide.l0 : Nat → List ByteArray → Int → Int → Option (Bool)
 | 0, _, _, _ => none
 | k + 1, x0, x3, x4 => if x4 < (x0.length : Int) then (if x3 ≤ 4000 then (if 0 ≤ x4 then (dragnetlaw15_wide.l0 k x0 (wrap64 (x3 + (mn ((rdOf ByteArray.empty x0 x4).size : Int) 10000))) (wrap64 (x4 + 1))) else (none)) else (some (decide (x3 > 4000)))) else (some (decide (x3 > 4000)))
def dragnetlaw15_wide.f (k : Nat) (l0 : List ByteArray) : Option (Bool) := dragnetlaw15_wide.l0 k l0 (l0.length : Int) 0
theorem dragnetlaw15_wide.mono_l : ∀ k, (∀ y0 y1 y2, LeO (dragnetlaw15_wide.l0 k y0 y1 y2) (dragnetlaw15_wide.l0 (k + 1) y0 y1 y2))
 | 0 => fun _ _ _ r h => by simp [dragnetlaw15_wide.l0] at h
 | k + 1 => by
  have ih0 := dragnetlaw15_wide.mono_l k
  ·intro y0 y1 y2
   unfold dragnetlaw15_wide.l0
   repeat' first
   | (with_reducible exact ih0 _ _ _)
   | (with_reducible exact LeO.refl _)
   | (with_reducible exact LeO.none _)
   | (with_reducible refine LeO.ite ?_ ?_)
   | (with_reducible refine LeO.bind ?_ (fun _ => ?_))
   | exact ih0 _ _ _
   | exact LeO.none _
   | refine LeO.ite ?_ ?_
   | refine LeO.bind ?_ (fun _ => ?_)
theorem dragnetlaw15_wide.mono : ∀ a0 k, LeO (dragnetlaw15_wide.f k a0) (dragnetlaw15_wide.f (k + 1) a0) := by
 intro a0 k
 have ih0 := dragnetlaw15_wide.mono_l k
 unfold dragnetlaw15_wide.f
 repeat' first
   | (with_reducible exact ih0 _ _ _)
   | (with_reducible exact LeO.refl _)
   | (with_reducible exact LeO.none _)
   | (with_reducible refine LeO.ite ?_ ?_)
   | (with_reducible refine LeO.bind ?_ (fun _ => ?_))
   | exact ih0 _ _ _
   | exact LeO.none _
   | refine LeO.ite ?_ ?_
   | refine LeO.bind ?_ (fun _ => ?_)
set_option maxHeartbeats 8000000 in
set_option maxRecDepth 100000 in
theorem dragnetlaw15_wide.calls (k : Nat) (A0 : Option Addr) (c0 : Nat) (l0 : List ByteArray) (r : Bool) (w : World) (hr0 : Kd.C Kd.string w A0 l0.length l0) (hc0 : l0.length ≤ c0) (h : dragnetlaw15_wide.f k l0 = some r) :
  Calls Try.prog 12 #[.slice A0 l0.length c0] w fun e w' => e = .returned (.bool r) ∧ Below w.heap.size w w' := by
 have HR0 := Aside0.mk hr0
 have HC0 := Aside0.mk hc0
 clear hr0 hc0
 have HB := Aside0.mk (Below.refl w.heap.size w)
 have H : (dragnetlaw15_wide.l0 k l0 (l0.length : Int) 0) = some r := h
 clear h
 have H' := Aside0.mk H
 clear H
 go_enter Try.func12, Try.ntmps12
 go_wp2
 go_loopg [3, 4] k (fun kq v3 v4 w' => ∃ (x3_1 : Int) (x4_1 : Int), v3 = .int .i64 x3_1 ∧ v4 = .int .i64 x4_1 ∧ Aside0 (dragnetlaw15_wide.l0 kq l0 x3_1 x4_1 = some r) ∧ Aside0 (kq ≤ k) ∧ Aside0 (Below w.heap.size w w'))
 case atStart => exact ⟨((l0.length : Int)), (0), (by first | rfl | (simp; done) | (simp [*]; done)), (by first | rfl | (simp; done) | (simp [*]; done)), H', ⟨Nat.le_refl _⟩, ⟨by repeat (first | (with_reducible first | exact HB.out | apply pbA_ | apply pbN_ | apply pb1_) | exact HB.out)⟩⟩
 case round =>
  clear H'
  try clear c1
  obtain ⟨x3_1, x4_1, rfl, rfl, HA, HK1, HB⟩ := hrel
  cases gk with
  | zero => exact absurd HA.out (by simp [dragnetlaw15_wide.l0])
  | succ k1 =>
   have H := HA.out
   clear HA
   simp only [dragnetlaw15_wide.l0] at H
   by_cases c2 : x4_1 < (l0.length : Int)
   ·rw [if_pos c2] at H
    have c2b0 : decide (x4_1 < (l0.length : Int)) = true := decide_eq_true c2
    clear c2
    by_cases c3 : x3_1 ≤ 4000
    ·rw [if_pos c3] at H
     have c3b0 : decide (x3_1 ≤ 4000) = true := decide_eq_true c3
     clear c3
     by_cases c4 : 0 ≤ x4_1
     ·rw [if_pos c4] at H
      have c4b0 : decide (0 ≤ x4_1) = true := decide_eq_true c4
      clear c4
      obtain ⟨ji5, hji5⟩ : ∃ j_ : Int, (mn ((rdOf ByteArray.empty l0 x4_1).size : Int) 10000) = j_ := ⟨_, rfl⟩
      replace H : (dragnetlaw15_wide.l0 k1 l0 (wrap64 (x3_1 + (ji5))) (wrap64 (x4_1 + 1))) = some r := by first | (rw [hji5] at H; exact H) | (simp only [hji5] at H ⊢; exact H)
      have hji5_ : (if 10000 < ((rdOf ByteArray.empty l0 x4_1).size : Int) then 10000 else ((rdOf ByteArray.empty l0 x4_1).size : Int)) = ji5 := hji5
      have H' := Aside0.mk H
      clear H
      have p135 : 0 ≤ (x4_1 : Int) := of_decide_eq_true (by first | (with_reducible assumption) | assumption)
      have q135 : x4_1 < (l0.length : Int) := of_decide_eq_true (by first | (with_reducible assumption) | assumption)
      obtain ⟨ad135, e135, hx135_0⟩ := Kd.at_string HR0.out x4_1 p135 q135
      cases e135
      replace hx135_0 := (HB.out.cell (World.block_lt_of_cell? w _ hx135_0)).trans hx135_0
      replace p135 := eq_true p135
      replace q135 := eq_true q135
      go_wp2
      (try subst hji5)
      go_roundg k1
      case measure => have := HK1.out; omega
      case rel => exact ⟨(wrap64 (x3_1 + ((mn ((rdOf ByteArray.empty l0 x4_1).size : Int) 10000)))), (wrap64 (x4_1 + 1)), (by first | rfl | (simp; done) | (simp only [← hji5] <;> (first | rfl | simp)) | (simp [*]; done)), (by first | rfl | (simp; done) | (simp [*]; done)), H', ⟨by have := HK1.out; omega⟩, ⟨by repeat (first | (with_reducible first | exact HB.out | apply pbA_ | apply pbN_ | apply pb1_) | exact HB.out)⟩⟩
     ·rw [if_neg c4] at H
      exact absurd H (by simp)
    ·rw [if_neg c3] at H
     have c3b0 : decide (x3_1 ≤ 4000) = false := decide_eq_false c3
     clear c3
     obtain rfl := Option.some.inj H
     go_wp2
     go_ret
     exact ⟨by first | rfl | (simp [eWn_, eWs_] <;> rfl) | (simp [*, eWn_, eWs_] <;> rfl), by repeat (first | (with_reducible first | exact HB.out | apply pbA_ | apply pbN_ | apply pb1_) | exact HB.out)⟩
   ·rw [if_neg c2] at H
    have c2b0 : decide (x4_1 < (l0.length : Int)) = false := decide_eq_false c2
    clear c2
    obtain rfl := Option.some.inj H
    go_wp2
    go_ret
    exact ⟨by first | rfl | (simp [eWn_, eWs_] <;> rfl) | (simp [*, eWn_, eWs_] <;> rfl), by repeat (first | (with_reducible first | exact HB.out | apply pbA_ | apply pbN_ | apply pb1_) | exact HB.out)⟩
end Go.Proofs.Ytiijfpalnbpfkaa.P
end
section
namespace Go.Proofs.Ytiijfpalnbpfkaa.P
open Go.RowKit Go.Proofs.YtiijfpalnbpfkaaW.PrintWords Go.Proofs.YtiijfpalnbpfkaaW.PrintLast Go.Proofs.YtiijfpalnbpfkaaW.PrintMore
attribute [local go_sem] max2_int min2_int max_two min_two max_three min_three max_four min_four
set_option linter.unusedVariables false
set_option linter.unusedSimpArgs false
section
end
section
end
end Go.Proofs.Ytiijfpalnbpfkaa.P
end
section
namespace Go.Proofs.Ytiijfpalnbpfkaa.P
open Go.RowKit Go.Proofs.YtiijfpalnbpfkaaW.PrintWords Go.Proofs.YtiijfpalnbpfkaaW.PrintLast Go.Proofs.YtiijfpalnbpfkaaW.PrintMore
attribute [local go_sem] max2_int min2_int max_two min_two max_three min_three max_four min_four
set_option linter.unusedVariables false
set_option linter.unusedSimpArgs false
end Go.Proofs.Ytiijfpalnbpfkaa.P
end
section
namespace Go.Proofs.Ytiijfpalnbpfkaa.P
open Go.RowKit Go.Proofs.YtiijfpalnbpfkaaW.PrintWords Go.Proofs.YtiijfpalnbpfkaaW.PrintLast Go.Proofs.YtiijfpalnbpfkaaW.PrintMore
attribute [local go_sem] max2_int min2_int max_two min_two max_three min_three max_four min_four
set_option linter.unusedVariables false
set_option linter.unusedSimpArgs false
end Go.Proofs.Ytiijfpalnbpfkaa.P
end
