/- Words and proofs that BloomNever leans on; put together by wip/tools/shake.py. -/
import Derived.Test.YtiijfpalnbpfkaaZBloomNever7
import Derived.Test.YtiijfpalnbpfkaaZBloomNever8
import Derived.ArgAppend
import Derived.Below
import Derived.BigQuiet
import Derived.Deep.AppendLies
import Derived.Deep.CutBlock
import Derived.Deep.DeepCutAuto
import Derived.Deep.Draws
import Derived.Deep.LoopGhost
import Derived.Deep.OwnRows
import Derived.Deep.QuietTactic
import Derived.Deep.RegionHeld3
import Derived.Ground.NamesProg
import Derived.Handy
import Derived.KernelRfl
import Derived.Laws.BitsLemmas
import Derived.Laws.BytesArg
import Derived.Laws.Cover1
import Derived.Laws.IdiomCopy
import Derived.Laws.MakeOwn
import Derived.Laws.OwnMore
import Derived.Laws.Rows
import Derived.Laws.Slices
import Derived.Laws.StructEq
import Derived.Lib.AppendStr
import Derived.Lib.BitFns
import Derived.Lib.ConvBytes
import Derived.Lib.OwnBridge
import Derived.Lib.RowBridge
import Derived.Lib.Slices
import Derived.Lib.Small
import Derived.Lib.Strings
import Derived.Lib.Walk
import Derived.LoopIn
import Derived.LoopN
import Derived.LoopNIn
import Derived.Maps.AppendAt
import Derived.OrdersHeld
import Derived.OwnWalk
import Derived.OwnWalkIn
import Derived.RangeFuncBound
import Derived.RangeFuncBox
import Derived.RangeFuncCalls
import Derived.RangeFuncFrom
import Derived.RangeFuncLeaves
import Derived.RangeFuncNested
import Derived.RowKit
import Derived.RowKit3
import Derived.ScopeJumps
import Derived.Shelf.Abstract
import Derived.Shelf.Lay
import Derived.Shelf.Slices.CompactS
import Derived.Shelf.Slices.In.SortNone
import Derived.Shelf.Sort.Plain
import Derived.Sort.EveryDepth
import Derived.Sort.OwnSorted
import Derived.Sort.QuietIn
import Derived.Tactics
import Derived.TacticsInMore
import Derived.Test.YtiijfpalnbpfkaaChecked
import Derived.Test.YtiijfpalnbpfkaaProg
import Derived.WalkKit
import Derived.WalkMore
import Derived.WalkSpells
import Derived.WideLaws
section
namespace Go.Proofs.YtiijfpalnbpfkaaQ
open Go.RowKit Go.Proofs.YtiijfpalnbpfkaaW.PrintWords Go.Proofs.YtiijfpalnbpfkaaW.PrintMore Go.Proofs.YtiijfpalnbpfkaaW.PrintLast Go.Proofs.Ytiijfpalnbpfkaa.P
theorem u64_range (x : Int) : 0 ≤ IntKind.u64.wrap x ∧ IntKind.u64.wrap x ≤ 18446744073709551615 := by
 simp only [IntKind.wrap, IntKind.bits, IntKind.signed, Bool.false_and, Bool.false_eq_true, if_false]
 omega
def hashFin (h : Int) : Int := IntKind.u64.wrap ((Go.bits .xor .u64 h (h / 4294967296)) * 11400714819323198485)
def hashGo (s : ByteArray) : Nat → Nat → Int → Int
 | 0, _, h => hashFin h
 | d + 1, i, h => hashGo s d (i + 1) (IntKind.u64.wrap ((Go.bits .xor .u64 h (IntKind.u64.wrap (bt s (i : Int)))) * 1099511628211))
def hashOf (s : ByteArray) : Int := hashGo s s.size 0 14695981039346656037
theorem hashGo_range (s : ByteArray) : ∀ d i h, 0 ≤ hashGo s d i h ∧ hashGo s d i h ≤ 18446744073709551615
 | 0, _, _ => u64_range _
 | d + 1, i, _ => hashGo_range s d (i + 1) _
theorem hashOf_range (s : ByteArray) : 0 ≤ hashOf s ∧ hashOf s ≤ 18446744073709551615 := hashGo_range s _ _ _
theorem hash_l0 (s : ByteArray) (hs : s.size ≤ 9223372036854775000) : ∀ (d i : Nat) (h : Int), i + d = s.size → Ev (fun k => bloom_Hash.l0 k s h (s.size : Int) (i : Int)) (hashGo s d i h)
 | 0, i, h, hi => by
  apply Ev.succ
  simp only [bloom_Hash.l0, hashGo]
  exact Ev.if_f (by omega) (Ev.now _)
 | d + 1, i, h, hi => by
  apply Ev.succ
  simp only [bloom_Hash.l0, hashGo]
  rw [inc i (by omega)]
  exact Ev.if_t (by omega) (Ev.if_t (by omega) (Ev.if_t (by omega) (hash_l0 s hs d (i + 1) _ (by omega))))
theorem hash_ev (s : ByteArray) (hs : s.size ≤ 9223372036854775000) : Ev (fun k => bloom_Hash.f k s) (hashOf s) := by
 unfold bloom_Hash.f
 exact hash_l0 s hs s.size 0 _ (by omega)
theorem bit_two (q : Int) (h0 : 0 ≤ q) : bloom_bit q = ((2 ^ (q.toNat % 8) : Nat) : Int) := by
 unfold bloom_bit
 rw [Int.tmod_eq_emod_of_nonneg h0]
 have e : (q % 8).toNat = q.toNat % 8 := by omega
 rw [e]
 have hp : (2 : Int) ^ (q.toNat % 8) = ((2 ^ (q.toNat % 8) : Nat) : Int) := by simp
 rw [hp]
 have : 2 ^ (q.toNat % 8) ≤ 2 ^ 7 := Nat.pow_le_pow_right (by decide) (by omega)
 generalize 2 ^ (q.toNat % 8) = p at this ⊢
 exact wu8 (by omega) (by omega)
theorem and_u8 (a b : Nat) (ha : a < 2 ^ 8) (hb : b < 2 ^ 8) : Go.bits .and .u8 (a : Int) (b : Int) = ((a &&& b : Nat) : Int) := (bits_nat .u8 8 (by decide) wraps_u8 a b ha hb).1
theorem or_u8 (a b : Nat) (ha : a < 2 ^ 8) (hb : b < 2 ^ 8) : Go.bits .or .u8 (a : Int) (b : Int) = ((a ||| b : Nat) : Int) := (bits_nat .u8 8 (by decide) wraps_u8 a b ha hb).2
theorem two8 (n : Nat) : 2 ^ (n % 8) < 2 ^ 8 := Nat.pow_lt_pow_right (by decide) (by omega)
theorem and_pow (a n : Nat) : (a &&& 2 ^ n = 0) ↔ a.testBit n = false := by
 constructor
 ·intro h
  have h1 := congrArg (fun x => x.testBit n) h
  simpa [Nat.testBit_and, Nat.testBit_two_pow] using h1
 ·intro h
  apply Nat.eq_of_testBit_eq
  intro i
  rw [Nat.testBit_and, Nat.testBit_two_pow, Nat.zero_testBit]
  by_cases e : n = i
  ·subst e; simp [h]
  ·simp [e]
theorem hit_eq {x q : Int} (hx : 0 ≤ x ∧ x ≤ 255) (h0 : 0 ≤ q) : (Go.bits .and .u8 x (bloom_bit q) == 0) = !(x.toNat.testBit (q.toNat % 8)) := by
 obtain ⟨a, rfl⟩ := Int.eq_ofNat_of_zero_le hx.1
 rw [bit_two q h0, and_u8 a _ (by omega) (two8 _), Int.toNat_natCast]
 have h := and_pow a (q.toNat % 8)
 rw [Bool.eq_iff_iff, beq_iff_eq, Bool.not_eq_true']
 rw [← h]
 generalize a &&& 2 ^ (q.toNat % 8) = p
 omega
end Go.Proofs.YtiijfpalnbpfkaaQ
end
