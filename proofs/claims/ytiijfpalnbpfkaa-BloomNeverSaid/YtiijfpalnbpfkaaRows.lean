/-
  No cell of these rows narrows 'for every input' (looked for: loops, veiled, ifaces, maps, wideKeys, modest, calm, conditions, laid).
  DERIVED. THE GIVEN ROWS OF THIS SEAT. 6 by the template 'for every input the law returns true; each argument reads behind the call as it read before'; 0 by the template 'total and deterministic' (their statements: YtiijfpalnbpfkaaTotals.lean).
  GIVEN WITH THE SEED: the statements are not yours to turn. If you find one false, say at which input.
  Laid BY PROGRAM, IN A SANDBOX (cutbox-rows.mjs): the forced cells as the released guide's own fill.sh prints them over the translation 27d38acc2288fa27… (all of the seat's roots in one cut). By AI agents, Wed Nov 11 2026. No macro, syntax, notation, axiom, sorry.
-/
import Derived.Test.YtiijfpalnbpfkaaChecked
import GoSem.Claim
import GoSem.ClaimJoined
import GoSem.ClaimMapViews
import Derived.JoinedTies
import Derived.KernelRfl
namespace Go.Proofs.Ytiijfpalnbpfkaa
/- THE CELL 'sum', in the pinned program and in every row, IS THE sha256 OF THE DUMP (.gsa) THAT YtiijfpalnbpfkaaProg.lean LOADS. Nothing in Lean hashes anything: it is a label: what it is worth is what the hold of that sum in a sandbox is worth. -/
noncomputable def Try.pinned : Pinned := { name := "ytiijfpalnbpfkaa", sum := "27d38acc2288fa2703a3011e720d5405f79e34161378e7809f397d100db9e8c8", checked := Try.checked }
namespace Rows
def none {H : Type} : Left H := { results := [], args := [] }

/-- 'dragnetlaw15.BloomHashes': WHATEVER THE INPUT: true; the input reads as it did. -/
def bloomHashesSpec : ChangeSpec := { name := "bloomHashes", fn := fun _ => fun
  | [d] => { results := [.lit (.bool true)], args := [d] }
  | _ => none }
def bloomHashesRow : OpenClaim := { program := "ytiijfpalnbpfkaa", sum := "27d38acc2288fa2703a3011e720d5405f79e34161378e7809f397d100db9e8c8", func := "dragnet/dragnetlaw15.BloomHashes", spec := "bloomHashes", unfollowed := true, recurses := true, apart := false }
def BloomHashesSaid : Prop := bloomHashesRow.holds Try.pinned (OpenSpec.ofChange bloomHashesSpec)

/-- ITS FALSE NEIGHBOUR: 'it returns false'. Refute it at one input. -/
def bloomHashesWrong : ChangeSpec := { name := "bloomHashes", fn := fun _ => fun
  | [d] => { results := [.lit (.bool false)], args := [d] }
  | _ => none }
def BloomHashesWrongFalsely : Prop := bloomHashesRow.holds Try.pinned (OpenSpec.ofChange bloomHashesWrong)

/-- 'dragnetlaw15.BloomMakes': WHATEVER THE INPUT: true; the input reads as it did. -/
def bloomMakesSpec : ChangeSpec := { name := "bloomMakes", fn := fun _ => fun
  | [d] => { results := [.lit (.bool true)], args := [d] }
  | _ => none }
def bloomMakesRow : OpenClaim := { program := "ytiijfpalnbpfkaa", sum := "27d38acc2288fa2703a3011e720d5405f79e34161378e7809f397d100db9e8c8", func := "dragnet/dragnetlaw15.BloomMakes", spec := "bloomMakes", unfollowed := true, recurses := true, apart := false }
def BloomMakesSaid : Prop := bloomMakesRow.holds Try.pinned (OpenSpec.ofChange bloomMakesSpec)

/-- ITS FALSE NEIGHBOUR: 'it returns false'. Refute it at one input. -/
def bloomMakesWrong : ChangeSpec := { name := "bloomMakes", fn := fun _ => fun
  | [d] => { results := [.lit (.bool false)], args := [d] }
  | _ => none }
def BloomMakesWrongFalsely : Prop := bloomMakesRow.holds Try.pinned (OpenSpec.ofChange bloomMakesWrong)

/-- 'dragnetlaw15.BloomAsks': WHATEVER THE INPUT: true; the input reads as it did. -/
def bloomAsksSpec : ChangeSpec := { name := "bloomAsks", fn := fun _ => fun
  | [d1, d2] => { results := [.lit (.bool true)], args := [d1, d2] }
  | _ => none }
def bloomAsksRow : OpenClaim := { program := "ytiijfpalnbpfkaa", sum := "27d38acc2288fa2703a3011e720d5405f79e34161378e7809f397d100db9e8c8", func := "dragnet/dragnetlaw15.BloomAsks", spec := "bloomAsks", unfollowed := true, recurses := true, apart := false }
def BloomAsksSaid : Prop := bloomAsksRow.holds Try.pinned (OpenSpec.ofChange bloomAsksSpec)

/-- ITS FALSE NEIGHBOUR: 'it returns false'. Refute it at one input. -/
def bloomAsksWrong : ChangeSpec := { name := "bloomAsks", fn := fun _ => fun
  | [d1, d2] => { results := [.lit (.bool false)], args := [d1, d2] }
  | _ => none }
def BloomAsksWrongFalsely : Prop := bloomAsksRow.holds Try.pinned (OpenSpec.ofChange bloomAsksWrong)

/-- 'dragnetlaw15.BloomGrams': WHATEVER THE INPUT: true; the input reads as it did. -/
def bloomGramsSpec : ChangeSpec := { name := "bloomGrams", fn := fun _ => fun
  | [d] => { results := [.lit (.bool true)], args := [d] }
  | _ => none }
def bloomGramsRow : OpenClaim := { program := "ytiijfpalnbpfkaa", sum := "27d38acc2288fa2703a3011e720d5405f79e34161378e7809f397d100db9e8c8", func := "dragnet/dragnetlaw15.BloomGrams", spec := "bloomGrams", unfollowed := true, recurses := true, apart := false }
def BloomGramsSaid : Prop := bloomGramsRow.holds Try.pinned (OpenSpec.ofChange bloomGramsSpec)

/-- ITS FALSE NEIGHBOUR: 'it returns false'. Refute it at one input. -/
def bloomGramsWrong : ChangeSpec := { name := "bloomGrams", fn := fun _ => fun
  | [d] => { results := [.lit (.bool false)], args := [d] }
  | _ => none }
def BloomGramsWrongFalsely : Prop := bloomGramsRow.holds Try.pinned (OpenSpec.ofChange bloomGramsWrong)

/-- 'dragnetlaw15.BloomNever': WHATEVER THE INPUT: true; the input reads as it did. -/
def bloomNeverSpec : ChangeSpec := { name := "bloomNever", fn := fun _ => fun
  | [d1, d2, d3] => { results := [.lit (.bool true)], args := [d1, d2, d3] }
  | _ => none }
def bloomNeverRow : OpenClaim := { program := "ytiijfpalnbpfkaa", sum := "27d38acc2288fa2703a3011e720d5405f79e34161378e7809f397d100db9e8c8", func := "dragnet/dragnetlaw15.BloomNever", spec := "bloomNever", unfollowed := true, recurses := true, apart := false }
def BloomNeverSaid : Prop := bloomNeverRow.holds Try.pinned (OpenSpec.ofChange bloomNeverSpec)

/-- ITS FALSE NEIGHBOUR: 'it returns false'. Refute it at one input. -/
def bloomNeverWrong : ChangeSpec := { name := "bloomNever", fn := fun _ => fun
  | [d1, d2, d3] => { results := [.lit (.bool false)], args := [d1, d2, d3] }
  | _ => none }
def BloomNeverWrongFalsely : Prop := bloomNeverRow.holds Try.pinned (OpenSpec.ofChange bloomNeverWrong)

/-- 'dragnetlaw15.BloomOrder': WHATEVER THE INPUT: true; the input reads as it did. -/
def bloomOrderSpec : ChangeSpec := { name := "bloomOrder", fn := fun _ => fun
  | [d] => { results := [.lit (.bool true)], args := [d] }
  | _ => none }
def bloomOrderRow : OpenClaim := { program := "ytiijfpalnbpfkaa", sum := "27d38acc2288fa2703a3011e720d5405f79e34161378e7809f397d100db9e8c8", func := "dragnet/dragnetlaw15.BloomOrder", spec := "bloomOrder", unfollowed := true, recurses := true, apart := false }
def BloomOrderSaid : Prop := bloomOrderRow.holds Try.pinned (OpenSpec.ofChange bloomOrderSpec)

/-- ITS FALSE NEIGHBOUR: 'it returns false'. Refute it at one input. -/
def bloomOrderWrong : ChangeSpec := { name := "bloomOrder", fn := fun _ => fun
  | [d] => { results := [.lit (.bool false)], args := [d] }
  | _ => none }
def BloomOrderWrongFalsely : Prop := bloomOrderRow.holds Try.pinned (OpenSpec.ofChange bloomOrderWrong)

/- THE SECOND FORM. 'bulk': how many values and letters a reading holds, each counted each time it is reached (what is shared counts as often as it is met; a slice's spare places count too). A statement '..UptoSaid' is the law's where the arguments, and the package variables that the reading takes, are together of bulk at most 1048576: NARROWER than '..Said'. Prove '..Said' where nothing that the law and all that it calls make is longer than what came in: it says more and counts as full. Else prove '..UptoSaid'. A law counts once. -/
mutual
def uptoBulk {H : Type} : DataW H → Nat
  | .lit (.string bytes) => bytes.length + 1
  | .lit _ => 1
  | .nil => 1
  | .ptr d => uptoBulk d + 1
  | .slice elems spare => uptoBulkAll elems + uptoBulkAll spare + 1
  | .agg parts => uptoBulkAll parts + 1
  | .iface _ d => uptoBulk d + 1
  | .map entries => uptoBulkEntries entries + 1
  | .held _ => 1
def uptoBulkAll {H : Type} : List (DataW H) → Nat
  | [] => 0
  | d :: r => uptoBulk d + uptoBulkAll r
def uptoBulkEntries {H : Type} : List (Lit × DataW H) → Nat
  | [] => 0
  | x :: r => uptoBulkEntry x + uptoBulkEntries r
def uptoBulkEntry {H : Type} : Lit × DataW H → Nat
  | (.string bytes, d) => bytes.length + uptoBulk d + 1
  | (_, d) => uptoBulk d + 1
 end
def uptoSmall : (H : Type) → List (DataW H) → Bool := fun _ ds => decide (uptoBulkAll ds ≤ 1048576)
def OpenSpec.upto (s : _root_.Go.ChangeSpec) : _root_.Go.OpenSpec := { _root_.Go.OpenSpec.ofChange s with cond := some uptoSmall }

/-- 'dragnetlaw15.BloomHashes', WHERE WHAT IT READS IS OF BULK AT MOST 1048576: true; the input reads as it did. -/
def bloomHashesUptoRow : OpenClaim := { program := "ytiijfpalnbpfkaa", sum := "27d38acc2288fa2703a3011e720d5405f79e34161378e7809f397d100db9e8c8", func := "dragnet/dragnetlaw15.BloomHashes", spec := "bloomHashes", unfollowed := true, recurses := true, apart := false, narrowed := true }
def BloomHashesUptoSaid : Prop := bloomHashesUptoRow.holds Try.pinned (OpenSpec.upto bloomHashesSpec)

/-- 'dragnetlaw15.BloomMakes', WHERE WHAT IT READS IS OF BULK AT MOST 1048576: true; the input reads as it did. -/
def bloomMakesUptoRow : OpenClaim := { program := "ytiijfpalnbpfkaa", sum := "27d38acc2288fa2703a3011e720d5405f79e34161378e7809f397d100db9e8c8", func := "dragnet/dragnetlaw15.BloomMakes", spec := "bloomMakes", unfollowed := true, recurses := true, apart := false, narrowed := true }
def BloomMakesUptoSaid : Prop := bloomMakesUptoRow.holds Try.pinned (OpenSpec.upto bloomMakesSpec)

/-- 'dragnetlaw15.BloomAsks', WHERE WHAT IT READS IS OF BULK AT MOST 1048576: true; the input reads as it did. -/
def bloomAsksUptoRow : OpenClaim := { program := "ytiijfpalnbpfkaa", sum := "27d38acc2288fa2703a3011e720d5405f79e34161378e7809f397d100db9e8c8", func := "dragnet/dragnetlaw15.BloomAsks", spec := "bloomAsks", unfollowed := true, recurses := true, apart := false, narrowed := true }
def BloomAsksUptoSaid : Prop := bloomAsksUptoRow.holds Try.pinned (OpenSpec.upto bloomAsksSpec)

/-- 'dragnetlaw15.BloomGrams', WHERE WHAT IT READS IS OF BULK AT MOST 1048576: true; the input reads as it did. -/
def bloomGramsUptoRow : OpenClaim := { program := "ytiijfpalnbpfkaa", sum := "27d38acc2288fa2703a3011e720d5405f79e34161378e7809f397d100db9e8c8", func := "dragnet/dragnetlaw15.BloomGrams", spec := "bloomGrams", unfollowed := true, recurses := true, apart := false, narrowed := true }
def BloomGramsUptoSaid : Prop := bloomGramsUptoRow.holds Try.pinned (OpenSpec.upto bloomGramsSpec)

/-- 'dragnetlaw15.BloomNever', WHERE WHAT IT READS IS OF BULK AT MOST 1048576: true; the input reads as it did. -/
def bloomNeverUptoRow : OpenClaim := { program := "ytiijfpalnbpfkaa", sum := "27d38acc2288fa2703a3011e720d5405f79e34161378e7809f397d100db9e8c8", func := "dragnet/dragnetlaw15.BloomNever", spec := "bloomNever", unfollowed := true, recurses := true, apart := false, narrowed := true }
def BloomNeverUptoSaid : Prop := bloomNeverUptoRow.holds Try.pinned (OpenSpec.upto bloomNeverSpec)

/-- 'dragnetlaw15.BloomOrder', WHERE WHAT IT READS IS OF BULK AT MOST 1048576: true; the input reads as it did. -/
def bloomOrderUptoRow : OpenClaim := { program := "ytiijfpalnbpfkaa", sum := "27d38acc2288fa2703a3011e720d5405f79e34161378e7809f397d100db9e8c8", func := "dragnet/dragnetlaw15.BloomOrder", spec := "bloomOrder", unfollowed := true, recurses := true, apart := false, narrowed := true }
def BloomOrderUptoSaid : Prop := bloomOrderUptoRow.holds Try.pinned (OpenSpec.upto bloomOrderSpec)

end Rows
end Go.Proofs.Ytiijfpalnbpfkaa
