/- BloomNever: a filter has each text that it was made of; where a line holds a text, the filter of its grams may hold it; of up to 4000 texts and bytes. No condition. -/
import Derived.Test.YtiijfpalnbpfkaaZBloomNever7
import Derived.Test.YtiijfpalnbpfkaaZBloomNever12
import Derived.Test.YtiijfpalnbpfkaaZBloomNever13
import Derived.ArgAppend
import Derived.Below
import Derived.BigQuiet
import Derived.ChangeOld
import Derived.ChangeSlices
import Derived.Deep.AppendLies
import Derived.Deep.CutBlock
import Derived.Deep.DeepCutAuto
import Derived.Deep.Draws
import Derived.Deep.LoopGhost
import Derived.Deep.OwnRows
import Derived.Deep.QuietTactic
import Derived.Deep.RegionHeld3
import Derived.Deep.SlicePairs
import Derived.Deep.Slices
import Derived.Ground.NamesProg
import Derived.Handy
import Derived.KernelRfl
import Derived.Laws.BitsLemmas
import Derived.Laws.BytesArg
import Derived.Laws.Cover1
import Derived.Laws.IdiomCopy
import Derived.Laws.MakeOwn
import Derived.Laws.OwnMore
import Derived.Laws.Rows
import Derived.Laws.Slices
import Derived.Laws.StructEq
import Derived.Lib.AppendStr
import Derived.Lib.BitFns
import Derived.Lib.ConvBytes
import Derived.Lib.OwnBridge
import Derived.Lib.RowBridge
import Derived.Lib.Slices
import Derived.Lib.Small
import Derived.Lib.Strings
import Derived.Lib.Walk
import Derived.LoopIn
import Derived.LoopN
import Derived.LoopNIn
import Derived.Maps.AppendAt
import Derived.OpenShut
import Derived.OrdersHeld
import Derived.OwnWalk
import Derived.OwnWalkIn
import Derived.ProofKit
import Derived.RangeFuncBound
import Derived.RangeFuncBox
import Derived.RangeFuncCalls
import Derived.RangeFuncFrom
import Derived.RangeFuncLeaves
import Derived.RangeFuncNested
import Derived.RowKit
import Derived.RowKit3
import Derived.ScopeJumps
import Derived.Shelf.Abstract
import Derived.Shelf.Lay
import Derived.Shelf.Slices.CompactS
import Derived.Shelf.Slices.In.SortNone
import Derived.Shelf.Sort.Plain
import Derived.ShutString
import Derived.SizedLaws
import Derived.Sort.EveryDepth
import Derived.Sort.KeysCollected
import Derived.Sort.OwnSorted
import Derived.Sort.QuietIn
import Derived.Sort.Walk0
import Derived.Tactics
import Derived.TacticsInMore
import Derived.Test.YtiijfpalnbpfkaaChecked
import Derived.Test.YtiijfpalnbpfkaaProg
import Derived.Test.YtiijfpalnbpfkaaRows
import Derived.WalkKit
import Derived.WalkMore
import Derived.WalkSpells
import Derived.WideLaws
section
namespace Go.Proofs.Ytiijfpalnbpfkaa.bloomNever
open Go.ChangeShapes Go.WideShapes Go.ChangeAt Go.RowKit Go.Proofs.YtiijfpalnbpfkaaW.PrintWords Go.Proofs.YtiijfpalnbpfkaaW.PrintLast Go.Proofs.YtiijfpalnbpfkaaO
open Go.ChangeMaps (open_string shut_string)
set_option linter.unusedVariables false
theorem own : ownKnob Try.prog.godebug = none := by kernel_rfl
theorem laidOut : laidOutB Try.prog = true := by kernel_rfl
theorem sized {H : Type} {enc : TypeId × Value → H} {P : Program} {W : World} {base : Nat} {spare : Nat → Bool} {held : Bool} {t e : TypeId} {a : Option Addr} {len cap : Nat} {d : DataW H} {ps : List MemPlace} {ts : List TypeId} {ds : List (DataW H)} {j : Nat}
  (hsz : (DataW.weightsEach P ts ds).all (· ≤ reachBytes) = true) (ht : ts[j]? = some t) (hd : ds[j]? = some d) (hu : P.underlying t = some (.slice e)) {B : Nat} (hB : P.bytesOf e = B)
  (h : DataW.Trod enc P W base spare held t (.slice a len cap) d ps) : len * B ≤ 140737488351232 := by
 obtain ⟨fuel, hf⟩ := h
 rcases Go.Deep.open_slice hu hf with ⟨hcs, _⟩ | ⟨x, l, c, m, n, D, Pl, hcs, _, hl, _, hmm, hx, _⟩
 ·simp [Value.cells] at hcs
  obtain ⟨rfl, rfl, rfl⟩ := hcs
  simp
 ·simp [Value.cells] at hcs
  obtain ⟨rfl, rfl, rfl⟩ := hcs
  obtain ⟨hx, _⟩ := Prod.mk.inj hx
  subst hx
  have z := sized_slice hsz ht hd hu
  rw [hB] at z
  refine Nat.le_trans (Nat.mul_le_mul_right _ ?_) z
  simp
theorem two {α : Type} (l : Array α) (h : l.size = 2) : ∃ a b, l = #[a, b] := by
 obtain ⟨l⟩ := l
 match l, h with
 | [a, b], _ => exact ⟨a, b, rfl⟩
theorem bounds_u16 {n : Int} (h : (Lit.int .u16 n).wf = true) : 0 ≤ n ∧ n ≤ 65535 := by
 simp [Lit.wf, IntKind.min, IntKind.max, IntKind.signed, IntKind.bits] at h
 omega
theorem two_ints {H : Type} {enc : TypeId × Value → H} {P : Program} {w : World} {base : Nat} {spare : Nat → Bool} {held : Bool} {t e : TypeId} {k : IntKind} {u v : Value} {d : DataW H} {ps : List MemPlace}
  (ht : P.underlying t = some (.array 2 e)) (he : P.underlying e = some (.int k)) (c1 : P.cellsOf e = 1) (c2 : P.cellsOf t = 2) (h : DataW.Trod enc P w base spare held t (.agg #[u, v]) d ps) :
  ∃ a : Int × Int, u = .int k a.1 ∧ v = .int k a.2 ∧ (Lit.int k a.1).wf = true ∧ (Lit.int k a.2).wf = true := by
 obtain ⟨fuel, hf⟩ := h
 obtain ⟨xs, m, rfl, _, hcl, hxl, hx⟩ := DataW.trod_array ht hf
 match xs, hxl with
 | [y0, y1], _ =>
  have g0 := hx 0 (by decide)
  have g1 := hx 1 (by decide)
  rw [c1] at g0 g1
  obtain ⟨n, e0, _, w0⟩ := DataW.trod_int he (show DataW.trod enc P w base spare held m e [u] = some y0 from g0)
  obtain ⟨n', e1, _, w1⟩ := DataW.trod_int he (show DataW.trod enc P w base spare held m e [v] = some y1 from g1)
  exact ⟨(n, n'), by simpa using e0, by simpa using e1, w0, w1⟩
theorem walk (b0 : Option Addr) (l0 : (List ByteArray)) (cap0 : Nat) (b1 : Option Addr) (l1 : (List Int)) (cap1 : Nat) (a2 : (Int × Int)) (w : World) (hc0 : l0.length ≤ cap0) (hC0 : Kd.C Kd.string w b0 l0.length l0) (hc1 : l1.length ≤ cap1) (hC1 : Kd.C (Kd.int .u8) w b1 l1.length l1) (y0 : l0.length * 16 ≤ 140737488351232) (y1 : (∀ y ∈ l0, y.size ≤ maxLen)) (y2 : l1.length * 1 ≤ 140737488351232) (y3 : (∀ y ∈ l1, (Lit.int .u8 y).wf = true)) (y4 : (0 ≤ a2.1 ∧ a2.1 ≤ 65535)) (y5 : (0 ≤ a2.2 ∧ a2.2 ≤ 65535)) :
  Calls Try.prog 7 #[.slice b0 l0.length cap0, .slice b1 l1.length cap1, .agg #[.int .u16 a2.1, .int .u16 a2.2]] w fun e w' => e = .returned (.bool true) ∧ Below w.heap.size w w' := by
 obtain ⟨k, h⟩ := Pure.BloomNever l0 l1 a2 y0 y1 y2 y3 y4 y5
 exact (P.dragnetlaw15_BloomNever.calls k _ _ l0 _ _ l1 a2 true w hC0 hc0 hC1 hc1 h).mono fun e w' ⟨he, hd⟩ => ⟨he, by first | exact hd | exact hd.below⟩
set_option maxHeartbeats 2000000 in
set_option maxRecDepth 100000 in
theorem lifted (os : Os) (started : os.Started) (H : Type) (enc : TypeId × Value → H) :
  ReturnsInHanded {} Try.checked os 7 .any (Rows.bloomNeverSpec.pre6 enc Try.prog Try.f7 Rows.bloomNeverRow.domain false) (Rows.bloomNeverSpec.post enc Try.prog Try.f7 false true false false) := by
 refine returnsInHanded_of_change_sized (C := Try.checked) own started (by kernel_rfl) Try.func7
  (ChangeSpec.witness6 (enc := enc) (C := Try.checked) false ⟨#[], #[.slice none 0 0, .slice none 0 0, .agg #[.int .u16 0, .int .u16 0]], []⟩ 8 (by kernel_rfl) (by kernel_rfl) (by kernel_rfl) (by kernel_rfl)) ?_
 intro W base args ds gs before hval0 hW hcnd hsz0 _
 have hsz : (DataW.weightsEach Try.prog (Try.f7.params.toList ++ Rows.bloomNeverSpec.plain.varTypes Try.prog) (ds ++ gs)).all (· ≤ reachBytes) = true := hsz0
 have hval : ∀ (j : Nat) t v, Try.f7.params[j]? = some t → args[j]? = some v → Value.okWide Try.prog W .any base t v := hval0
 have hW' := hW
 obtain ⟨p, q, hA0, hV, rfl, hfz, hnd⟩ := hW
 have hA : DataW.TrodAll enc Try.prog W 0 (fun _ => true) true Try.f7.params.toList args.toList ds p := hA0
 rw [Try.params7] at hA hval hsz
 obtain ⟨v0, vs0, d0, ds0, p0, q0, hargs, rfl, rfl, h0, r0⟩ := trodAll_cons hA
 obtain ⟨v1, vs1, d1, ds1, p1, q1, rfl, rfl, rfl, h1, r1⟩ := trodAll_cons r0
 obtain ⟨v2, vs2, d2, ds2, p2, q2, rfl, rfl, rfl, h2, r2⟩ := trodAll_cons r1
 obtain ⟨rfl, rfl, rfl⟩ := trodAll_nil r2
 obtain rfl : args = #[v0, v1, v2] := by cases args; simp_all
 obtain ⟨rfl, rfl⟩ := trodVars_none hV
 obtain ⟨b0, len0, cap0, rfl⟩ := okWide_slice Try.underlying26 (hval 0 26 v0 rfl rfl)
 have k0 := h0
 have lt0 : ∀ x ∈ p0, x.block < W.heap.size := by obtain ⟨m, hm⟩ := k0; exact DataW.trod_lt m _ _ _ hm
 obtain ⟨l0, hlen0, hc0, hC0, hp0⟩ : ∃ l : (List ByteArray), l.length = len0 ∧ l.length ≤ cap0 ∧ Kd.C Kd.string W b0 l.length l ∧ ∀ y ∈ l, y.size ≤ maxLen := by
  obtain ⟨fuel, hf⟩ := h0
  obtain ⟨l, ⟨A, c, hcs, hl, hC⟩, hp⟩ : ∃ l : (List ByteArray), (Kd.slice 9 Kd.string).K W l (Value.slice b0 len0 cap0).cells.toList ∧ (l.length ≤ maxLen ∧ ∀ y ∈ l, y.size ≤ maxLen) := (opens_slice (d := Kd.string) Try.underlying26 (by kernel_rfl) (opens_string Try.underlying9) ⟨ByteArray.empty⟩) hf
  simp [Value.cells] at hcs
  obtain ⟨rfl, rfl, rfl⟩ := hcs
  exact ⟨l, rfl, hl, hC, hp.2⟩
 have y0 : len0 * 16 ≤ 140737488351232 := sized hsz (j := 0) (t := 26) rfl rfl Try.underlying26 (by kernel_rfl) h0
 obtain ⟨b1, len1, cap1, rfl⟩ := okWide_slice Try.underlying30 (hval 1 30 v1 rfl rfl)
 have k1 := h1
 have lt1 : ∀ x ∈ p1, x.block < W.heap.size := by obtain ⟨m, hm⟩ := k1; exact DataW.trod_lt m _ _ _ hm
 obtain ⟨l1, hlen1, hc1, hC1, hp1⟩ : ∃ l : (List Int), l.length = len1 ∧ l.length ≤ cap1 ∧ Kd.C (Kd.int .u8) W b1 l.length l ∧ ∀ y ∈ l, (Lit.int .u8 y).wf = true := by
  obtain ⟨fuel, hf⟩ := h1
  obtain ⟨l, ⟨A, c, hcs, hl, hC⟩, hp⟩ : ∃ l : (List Int), (Kd.slice 5 (Kd.int .u8)).K W l (Value.slice b1 len1 cap1).cells.toList ∧ (l.length ≤ maxLen ∧ ∀ y ∈ l, (Lit.int .u8 y).wf = true) := (opens_slice (d := (Kd.int .u8)) Try.underlying30 (by kernel_rfl) (opens_int Try.underlying5) ⟨0⟩) hf
  simp [Value.cells] at hcs
  obtain ⟨rfl, rfl, rfl⟩ := hcs
  exact ⟨l, rfl, hl, hC, hp.2⟩
 have y1 : len1 * 1 ≤ 140737488351232 := sized hsz (j := 1) (t := 30) rfl rfl Try.underlying30 (by kernel_rfl) h1
 have k2 := h2
 have lt2 : ∀ x ∈ p2, x.block < W.heap.size := by obtain ⟨m, hm⟩ := k2; exact DataW.trod_lt m _ _ _ hm
 obtain ⟨cs2, rfl, hsz2, _⟩ : ∃ cs, v2 = .agg cs ∧ cs.size = Try.prog.cellsOf 39 ∧ Row.okWide Try.prog W .any base 39 cs := by
  have := hval 2 39 v2 rfl rfl
  simpa [Value.okWide, Try.underlying39] using this
 rw [show Try.prog.cellsOf 39 = 2 by kernel_rfl] at hsz2
 obtain ⟨u2, t2, rfl⟩ := two cs2 hsz2
 obtain ⟨a2, rfl, rfl, z2, zz2⟩ := two_ints (k := .u16) Try.underlying39 Try.underlying38 (by kernel_rfl) (by kernel_rfl) h2
 clear hA0 hval0 hsz0 hsz
 subst hlen0
 subst hlen1
 refine (walk b0 l0 cap0 b1 l1 cap1 a2 W hc0 hC0 hc1 hC1 y0 hp0 y1 hp1 (bounds_u16 z2) (bounds_u16 zz2)).mono fun e W' ⟨he, bel⟩ => ?_
 subst he
 exact ⟨_, rfl, _, _, _, [], _, [], hW', trodAll_mk1 (shut_bool Try.underlying4 _), (trodAll_cons_mk (Below.trod laidOut (by kernel_rfl) (of_decide_eq_true (by kernel_rfl)) k0 bel lt0) (trodAll_cons_mk (Below.trod laidOut (by kernel_rfl) (of_decide_eq_true (by kernel_rfl)) k1 bel lt1) (trodAll_cons_mk (Below.trod laidOut (by kernel_rfl) (of_decide_eq_true (by kernel_rfl)) k2 bel lt2) trodAll_mk0))), rfl, bel.frame _, fun h => by cases h⟩
theorem over : Rows.bloomNeverRow.holds Try.pinned (OpenSpec.ofChange Rows.bloomNeverSpec) :=
 OpenClaim.holds_of_wide 7 Try.f7 rfl rfl rfl rfl rfl rfl rfl ⟨rfl, rfl, rfl, rfl, rfl⟩ rfl rfl rfl rfl rfl (by kernel_rfl) Try.func7 (by kernel_rfl)
  (of_decide_eq_true (by kernel_rfl)) (by unfold Func.isWrapper; first | (rw [if_pos (by decide +kernel)]; kernel_rfl) | (rw [if_neg (by decide +kernel)]; exact ⟨rfl, rfl⟩))
  (fun os started H enc _ => lifted os started H enc)
theorem proved : Rows.BloomNeverSaid := over
#print axioms proved
end Go.Proofs.Ytiijfpalnbpfkaa.bloomNever
namespace Go.Proofs.Ytiijfpalnbpfkaa
theorem bloomNever_holds : Rows.BloomNeverSaid := bloomNever.proved
end Go.Proofs.Ytiijfpalnbpfkaa
end
