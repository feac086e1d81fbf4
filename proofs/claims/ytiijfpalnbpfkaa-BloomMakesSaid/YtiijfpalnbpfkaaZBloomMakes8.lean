/- Words and proofs that BloomMakes leans on; put together by wip/tools/shake.py. -/
import Derived.Test.YtiijfpalnbpfkaaZBloomMakes6
import Derived.Test.YtiijfpalnbpfkaaZBloomMakes7
import Derived.ArgAppend
import Derived.Below
import Derived.BigQuiet
import Derived.Deep.AppendLies
import Derived.Deep.CutBlock
import Derived.Deep.DeepCutAuto
import Derived.Deep.Draws
import Derived.Deep.LoopGhost
import Derived.Deep.OwnRows
import Derived.Deep.QuietTactic
import Derived.Deep.RegionHeld3
import Derived.Ground.NamesProg
import Derived.Handy
import Derived.KernelRfl
import Derived.Laws.BitsLemmas
import Derived.Laws.BytesArg
import Derived.Laws.Cover1
import Derived.Laws.IdiomCopy
import Derived.Laws.MakeOwn
import Derived.Laws.OwnMore
import Derived.Laws.Rows
import Derived.Laws.Slices
import Derived.Laws.StructEq
import Derived.Lib.AppendStr
import Derived.Lib.BitFns
import Derived.Lib.ConvBytes
import Derived.Lib.OwnBridge
import Derived.Lib.RowBridge
import Derived.Lib.Slices
import Derived.Lib.Small
import Derived.Lib.Strings
import Derived.Lib.Walk
import Derived.LoopIn
import Derived.LoopN
import Derived.LoopNIn
import Derived.Maps.AppendAt
import Derived.OrdersHeld
import Derived.OwnWalk
import Derived.OwnWalkIn
import Derived.RangeFuncBound
import Derived.RangeFuncBox
import Derived.RangeFuncCalls
import Derived.RangeFuncFrom
import Derived.RangeFuncLeaves
import Derived.RangeFuncNested
import Derived.RowKit
import Derived.RowKit3
import Derived.ScopeJumps
import Derived.Shelf.Abstract
import Derived.Shelf.Lay
import Derived.Shelf.Slices.CompactS
import Derived.Shelf.Slices.In.SortNone
import Derived.Shelf.Sort.Plain
import Derived.Sort.EveryDepth
import Derived.Sort.OwnSorted
import Derived.Sort.QuietIn
import Derived.Tactics
import Derived.TacticsInMore
import Derived.Test.YtiijfpalnbpfkaaChecked
import Derived.Test.YtiijfpalnbpfkaaProg
import Derived.WalkKit
import Derived.WalkMore
import Derived.WalkSpells
import Derived.WideLaws
section
namespace Go.Proofs.YtiijfpalnbpfkaaQ
open Go.RowKit Go.Proofs.YtiijfpalnbpfkaaW.PrintWords Go.Proofs.YtiijfpalnbpfkaaW.PrintMore Go.Proofs.YtiijfpalnbpfkaaW.PrintLast Go.Proofs.Ytiijfpalnbpfkaa.P
theorem u64_range (x : Int) : 0 ≤ IntKind.u64.wrap x ∧ IntKind.u64.wrap x ≤ 18446744073709551615 := by
 simp only [IntKind.wrap, IntKind.bits, IntKind.signed, Bool.false_and, Bool.false_eq_true, if_false]
 omega
def hashFin (h : Int) : Int := IntKind.u64.wrap ((Go.bits .xor .u64 h (h / 4294967296)) * 11400714819323198485)
def hashGo (s : ByteArray) : Nat → Nat → Int → Int
 | 0, _, h => hashFin h
 | d + 1, i, h => hashGo s d (i + 1) (IntKind.u64.wrap ((Go.bits .xor .u64 h (IntKind.u64.wrap (bt s (i : Int)))) * 1099511628211))
def hashOf (s : ByteArray) : Int := hashGo s s.size 0 14695981039346656037
theorem hashGo_range (s : ByteArray) : ∀ d i h, 0 ≤ hashGo s d i h ∧ hashGo s d i h ≤ 18446744073709551615
 | 0, _, _ => u64_range _
 | d + 1, i, _ => hashGo_range s d (i + 1) _
theorem hashOf_range (s : ByteArray) : 0 ≤ hashOf s ∧ hashOf s ≤ 18446744073709551615 := hashGo_range s _ _ _
theorem hash_l0 (s : ByteArray) (hs : s.size ≤ 9223372036854775000) : ∀ (d i : Nat) (h : Int), i + d = s.size → Ev (fun k => bloom_Hash.l0 k s h (s.size : Int) (i : Int)) (hashGo s d i h)
 | 0, i, h, hi => by
  apply Ev.succ
  simp only [bloom_Hash.l0, hashGo]
  exact Ev.if_f (by omega) (Ev.now _)
 | d + 1, i, h, hi => by
  apply Ev.succ
  simp only [bloom_Hash.l0, hashGo]
  rw [inc i (by omega)]
  exact Ev.if_t (by omega) (Ev.if_t (by omega) (Ev.if_t (by omega) (hash_l0 s hs d (i + 1) _ (by omega))))
theorem hash_ev (s : ByteArray) (hs : s.size ≤ 9223372036854775000) : Ev (fun k => bloom_Hash.f k s) (hashOf s) := by
 unfold bloom_Hash.f
 exact hash_l0 s hs s.size 0 _ (by omega)
theorem ref_hash_l0 (s : ByteArray) (hs : s.size ≤ 9223372036854775000) : ∀ (d i : Nat) (h : Int), i + d = s.size → Ev (fun k => dragnetref15_Hash.l0 k s h (i : Int)) (hashGo s d i h)
 | 0, i, h, hi => by
  apply Ev.succ
  simp only [dragnetref15_Hash.l0, hashGo]
  exact Ev.if_f (by omega) (Ev.now _)
 | d + 1, i, h, hi => by
  apply Ev.succ
  simp only [dragnetref15_Hash.l0, hashGo]
  rw [inc i (by omega)]
  exact Ev.if_t (by omega) (Ev.if_t (by omega) (ref_hash_l0 s hs d (i + 1) _ (by omega)))
theorem ref_hash_ev (s : ByteArray) (hs : s.size ≤ 9223372036854775000) : Ev (fun k => dragnetref15_Hash.f k s) (hashOf s) := by
 unfold dragnetref15_Hash.f
 exact ref_hash_l0 s hs s.size 0 _ (by omega)
theorem or_one {a : Int} (h0 : 0 ≤ a) (h1 : a < 4294967296) : Go.bits .or .u64 a 1 = if a.tmod 2 = 0 then IntKind.u64.wrap (a + 1) else a := by
 have hm : a.tmod 2 = a % 2 := Int.tmod_eq_emod_of_nonneg h0
 rw [hm]
 by_cases h : a % 2 = 0
 ·rw [if_pos h, wu64 (by omega) (by omega)]
  have := or_low 1 a 1 h0 (by simpa using h) (by omega) (by omega) (by decide) (by decide)
  exact this
 ·rw [if_neg h]
  obtain ⟨b, rfl⟩ : ∃ b, a = b + 1 := ⟨a - 1, by omega⟩
  have hb := or_low 1 b 1 (by omega) (by show b % 2 = 0; omega) (by omega) (by omega) (by decide) (by decide)
  obtain ⟨n, rfl⟩ := Int.eq_ofNat_of_zero_le (show 0 ≤ b by omega)
  have e1 := or_u64 n 1 (by omega) (by decide)
  have e2 := or_u64 (n + 1) 1 (by omega) (by decide)
  have e3 : n ||| 1 = n + 1 := by
   have h_ : ((n ||| 1 : Nat) : Int) = (n : Int) + 1 := e1.symm.trans hb
   omega
  have e4 : (n + 1) ||| 1 = n + 1 := by
   rw [← e3, Nat.or_assoc, Nat.or_self]
  have : Go.bits .or .u64 ((n : Int) + 1) 1 = (((n + 1) ||| 1 : Nat) : Int) := e2
  rw [this, e4]
  rfl
theorem low32 {h : Int} (h0 : 0 ≤ h) (h1 : h ≤ 18446744073709551615) : Go.bits .and .u64 h 4294967295 = h.tmod 4294967296 := by
 rw [Int.tmod_eq_emod_of_nonneg h0]
 have := mask_u64 32 (by decide) h h0 (by omega)
 simpa using this
theorem spot_eq {h : Int} (m : Int) (h0 : 0 ≤ h) (h1 : h ≤ 18446744073709551615) (j : Nat) (hj : j < 4) : bloom_spot h m j = ref15_spot h m j := by
 have hy : ref15_y h = Go.bits .or .u64 (h / 4294967296) 1 := (or_one (a := h / 4294967296) (by omega) (by omega)).symm
 have hyr : 0 ≤ ref15_y h ∧ ref15_y h ≤ 4294967296 := by
  unfold ref15_y
  split
  ·rw [wu64 (by omega) (by omega)]; omega
  ·omega
 have hx := low32 h0 h1
 have hxr : 0 ≤ h.tmod 4294967296 ∧ h.tmod 4294967296 < 4294967296 := by
  rw [Int.tmod_eq_emod_of_nonneg h0]; omega
 have p0 : bloom_probe h 0 = h.tmod 4294967296 := hx
 have p1 : bloom_probe h 1 = h.tmod 4294967296 + ref15_y h := by
  show IntKind.u64.wrap (bloom_probe h 0 + Go.bits .or .u64 (h / 4294967296) 1) = _
  rw [p0, ← hy, wu64 (by omega) (by omega)]
 have p2 : bloom_probe h 2 = h.tmod 4294967296 + 2 * ref15_y h := by
  show IntKind.u64.wrap (bloom_probe h 1 + Go.bits .or .u64 (h / 4294967296) 1) = _
  rw [p1, ← hy, wu64 (by omega) (by omega)]; omega
 have p3 : bloom_probe h 3 = h.tmod 4294967296 + 3 * ref15_y h := by
  show IntKind.u64.wrap (bloom_probe h 2 + Go.bits .or .u64 (h / 4294967296) 1) = _
  rw [p2, ← hy, wu64 (by omega) (by omega)]; omega
 unfold bloom_spot
 match j, hj with
 | 0, _ => rw [p0]; show _ = (IntKind.u64.wrap (h.tmod 4294967296)).tmod m; rw [wu64 (by omega) (by omega)]
 | 1, _ => rw [p1]; show _ = (IntKind.u64.wrap (h.tmod 4294967296 + IntKind.u64.wrap (ref15_y h))).tmod m; rw [wu64 (x := ref15_y h) (by omega) (by omega), wu64 (by omega) (by omega)]
 | 2, _ => rw [p2]; show _ = (IntKind.u64.wrap (h.tmod 4294967296 + IntKind.u64.wrap (2 * ref15_y h))).tmod m; rw [wu64 (x := 2 * ref15_y h) (by omega) (by omega), wu64 (by omega) (by omega)]
 | 3, _ => rw [p3]; show _ = (IntKind.u64.wrap (h.tmod 4294967296 + IntKind.u64.wrap (3 * ref15_y h))).tmod m; rw [wu64 (x := 3 * ref15_y h) (by omega) (by omega), wu64 (by omega) (by omega)]
end Go.Proofs.YtiijfpalnbpfkaaQ
end
