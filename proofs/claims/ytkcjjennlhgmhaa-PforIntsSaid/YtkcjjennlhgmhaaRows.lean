/-
  No cell of these rows narrows 'for every input' (looked for: loops, veiled, ifaces, maps, wideKeys, modest, calm, conditions, laid).
  DERIVED. THE GIVEN ROWS OF THIS SEAT. 6 by the template 'for every input the law returns true; each argument reads behind the call as it read before'; 0 by the template 'total and deterministic' (their statements: YtkcjjennlhgmhaaTotals.lean).
  GIVEN WITH THE SEED: the statements are not yours to turn. If you find one false, say at which input.
  Laid BY PROGRAM, IN A SANDBOX (cutbox-rows.mjs): the forced cells as the released guide's own fill.sh prints them over the translation 025b1cf2bfeaf287… (all of the seat's roots in one cut). By AI agents, Wed Nov 11 2026. No macro, syntax, notation, axiom, sorry.
-/
import Derived.Test.YtkcjjennlhgmhaaChecked
import GoSem.Claim
import GoSem.ClaimJoined
import GoSem.ClaimMapViews
import Derived.JoinedTies
import Derived.KernelRfl
namespace Go.Proofs.Ytkcjjennlhgmhaa
/- THE CELL 'sum', in the pinned program and in every row, IS THE sha256 OF THE DUMP (.gsa) THAT YtkcjjennlhgmhaaProg.lean LOADS. Nothing in Lean hashes anything: it is a label: what it is worth is what the hold of that sum in a sandbox is worth. -/
noncomputable def Try.pinned : Pinned := { name := "ytkcjjennlhgmhaa", sum := "025b1cf2bfeaf2878e58d2497142bfceea1403e53d5a97f8ce14589507fd1074", checked := Try.checked }
namespace Rows
def none {H : Type} : Left H := { results := [], args := [] }

/-- 'dragnetlaw04.PforBlocks': WHATEVER THE INPUT: true; the input reads as it did. -/
def pforBlocksSpec : ChangeSpec := { name := "pforBlocks", fn := fun _ => fun
  | [d1, d2] => { results := [.lit (.bool true)], args := [d1, d2] }
  | _ => none }
def pforBlocksRow : OpenClaim := { program := "ytkcjjennlhgmhaa", sum := "025b1cf2bfeaf2878e58d2497142bfceea1403e53d5a97f8ce14589507fd1074", func := "dragnet/dragnetlaw04.PforBlocks", spec := "pforBlocks", apart := false }
def PforBlocksSaid : Prop := pforBlocksRow.holds Try.pinned (OpenSpec.ofChange pforBlocksSpec)

/-- ITS FALSE NEIGHBOUR: 'it returns false'. Refute it at one input. -/
def pforBlocksWrong : ChangeSpec := { name := "pforBlocks", fn := fun _ => fun
  | [d1, d2] => { results := [.lit (.bool false)], args := [d1, d2] }
  | _ => none }
def PforBlocksWrongFalsely : Prop := pforBlocksRow.holds Try.pinned (OpenSpec.ofChange pforBlocksWrong)

/-- 'dragnetlaw04.PforTakes': WHATEVER THE INPUT: true; the input reads as it did. -/
def pforTakesSpec : ChangeSpec := { name := "pforTakes", fn := fun _ => fun
  | [d] => { results := [.lit (.bool true)], args := [d] }
  | _ => none }
def pforTakesRow : OpenClaim := { program := "ytkcjjennlhgmhaa", sum := "025b1cf2bfeaf2878e58d2497142bfceea1403e53d5a97f8ce14589507fd1074", func := "dragnet/dragnetlaw04.PforTakes", spec := "pforTakes", apart := false }
def PforTakesSaid : Prop := pforTakesRow.holds Try.pinned (OpenSpec.ofChange pforTakesSpec)

/-- ITS FALSE NEIGHBOUR: 'it returns false'. Refute it at one input. -/
def pforTakesWrong : ChangeSpec := { name := "pforTakes", fn := fun _ => fun
  | [d] => { results := [.lit (.bool false)], args := [d] }
  | _ => none }
def PforTakesWrongFalsely : Prop := pforTakesRow.holds Try.pinned (OpenSpec.ofChange pforTakesWrong)

/-- 'dragnetlaw04.PforFew': WHATEVER THE INPUT: true; the input reads as it did. -/
def pforFewSpec : ChangeSpec := { name := "pforFew", fn := fun _ => fun
  | [d1, d2] => { results := [.lit (.bool true)], args := [d1, d2] }
  | _ => none }
def pforFewRow : OpenClaim := { program := "ytkcjjennlhgmhaa", sum := "025b1cf2bfeaf2878e58d2497142bfceea1403e53d5a97f8ce14589507fd1074", func := "dragnet/dragnetlaw04.PforFew", spec := "pforFew", apart := false }
def PforFewSaid : Prop := pforFewRow.holds Try.pinned (OpenSpec.ofChange pforFewSpec)

/-- ITS FALSE NEIGHBOUR: 'it returns false'. Refute it at one input. -/
def pforFewWrong : ChangeSpec := { name := "pforFew", fn := fun _ => fun
  | [d1, d2] => { results := [.lit (.bool false)], args := [d1, d2] }
  | _ => none }
def PforFewWrongFalsely : Prop := pforFewRow.holds Try.pinned (OpenSpec.ofChange pforFewWrong)

/-- 'dragnetlaw04.PforLists': WHATEVER THE INPUT: true; the input reads as it did. -/
def pforListsSpec : ChangeSpec := { name := "pforLists", fn := fun _ => fun
  | [d1, d2, d3] => { results := [.lit (.bool true)], args := [d1, d2, d3] }
  | _ => none }
def pforListsRow : OpenClaim := { program := "ytkcjjennlhgmhaa", sum := "025b1cf2bfeaf2878e58d2497142bfceea1403e53d5a97f8ce14589507fd1074", func := "dragnet/dragnetlaw04.PforLists", spec := "pforLists", unfollowed := true, recurses := true, apart := false }
def PforListsSaid : Prop := pforListsRow.holds Try.pinned (OpenSpec.ofChange pforListsSpec)

/-- ITS FALSE NEIGHBOUR: 'it returns false'. Refute it at one input. -/
def pforListsWrong : ChangeSpec := { name := "pforLists", fn := fun _ => fun
  | [d1, d2, d3] => { results := [.lit (.bool false)], args := [d1, d2, d3] }
  | _ => none }
def PforListsWrongFalsely : Prop := pforListsRow.holds Try.pinned (OpenSpec.ofChange pforListsWrong)

/-- 'dragnetlaw04.PforBack': WHATEVER THE INPUT: true; the input reads as it did. -/
def pforBackSpec : ChangeSpec := { name := "pforBack", fn := fun _ => fun
  | [d1, d2] => { results := [.lit (.bool true)], args := [d1, d2] }
  | _ => none }
def pforBackRow : OpenClaim := { program := "ytkcjjennlhgmhaa", sum := "025b1cf2bfeaf2878e58d2497142bfceea1403e53d5a97f8ce14589507fd1074", func := "dragnet/dragnetlaw04.PforBack", spec := "pforBack", unfollowed := true, recurses := true, apart := false }
def PforBackSaid : Prop := pforBackRow.holds Try.pinned (OpenSpec.ofChange pforBackSpec)

/-- ITS FALSE NEIGHBOUR: 'it returns false'. Refute it at one input. -/
def pforBackWrong : ChangeSpec := { name := "pforBack", fn := fun _ => fun
  | [d1, d2] => { results := [.lit (.bool false)], args := [d1, d2] }
  | _ => none }
def PforBackWrongFalsely : Prop := pforBackRow.holds Try.pinned (OpenSpec.ofChange pforBackWrong)

/-- 'dragnetlaw04.PforInts': WHATEVER THE INPUT: true; the input reads as it did. -/
def pforIntsSpec : ChangeSpec := { name := "pforInts", fn := fun _ => fun
  | [d1, d2, d3] => { results := [.lit (.bool true)], args := [d1, d2, d3] }
  | _ => none }
def pforIntsRow : OpenClaim := { program := "ytkcjjennlhgmhaa", sum := "025b1cf2bfeaf2878e58d2497142bfceea1403e53d5a97f8ce14589507fd1074", func := "dragnet/dragnetlaw04.PforInts", spec := "pforInts", unfollowed := true, recurses := true, apart := false }
def PforIntsSaid : Prop := pforIntsRow.holds Try.pinned (OpenSpec.ofChange pforIntsSpec)

/-- ITS FALSE NEIGHBOUR: 'it returns false'. Refute it at one input. -/
def pforIntsWrong : ChangeSpec := { name := "pforInts", fn := fun _ => fun
  | [d1, d2, d3] => { results := [.lit (.bool false)], args := [d1, d2, d3] }
  | _ => none }
def PforIntsWrongFalsely : Prop := pforIntsRow.holds Try.pinned (OpenSpec.ofChange pforIntsWrong)

/- THE SECOND FORM. 'bulk': how many values and letters a reading holds, each counted each time it is reached (what is shared counts as often as it is met; a slice's spare places count too). A statement '..UptoSaid' is the law's where the arguments, and the package variables that the reading takes, are together of bulk at most 1048576: NARROWER than '..Said'. Prove '..Said' where nothing that the law and all that it calls make is longer than what came in: it says more and counts as full. Else prove '..UptoSaid'. A law counts once. -/
mutual
def uptoBulk {H : Type} : DataW H → Nat
  | .lit (.string bytes) => bytes.length + 1
  | .lit _ => 1
  | .nil => 1
  | .ptr d => uptoBulk d + 1
  | .slice elems spare => uptoBulkAll elems + uptoBulkAll spare + 1
  | .agg parts => uptoBulkAll parts + 1
  | .iface _ d => uptoBulk d + 1
  | .map entries => uptoBulkEntries entries + 1
  | .held _ => 1
def uptoBulkAll {H : Type} : List (DataW H) → Nat
  | [] => 0
  | d :: r => uptoBulk d + uptoBulkAll r
def uptoBulkEntries {H : Type} : List (Lit × DataW H) → Nat
  | [] => 0
  | x :: r => uptoBulkEntry x + uptoBulkEntries r
def uptoBulkEntry {H : Type} : Lit × DataW H → Nat
  | (.string bytes, d) => bytes.length + uptoBulk d + 1
  | (_, d) => uptoBulk d + 1
 end
def uptoSmall : (H : Type) → List (DataW H) → Bool := fun _ ds => decide (uptoBulkAll ds ≤ 1048576)
def OpenSpec.upto (s : _root_.Go.ChangeSpec) : _root_.Go.OpenSpec := { _root_.Go.OpenSpec.ofChange s with cond := some uptoSmall }

/-- 'dragnetlaw04.PforBlocks', WHERE WHAT IT READS IS OF BULK AT MOST 1048576: true; the input reads as it did. -/
def pforBlocksUptoRow : OpenClaim := { program := "ytkcjjennlhgmhaa", sum := "025b1cf2bfeaf2878e58d2497142bfceea1403e53d5a97f8ce14589507fd1074", func := "dragnet/dragnetlaw04.PforBlocks", spec := "pforBlocks", apart := false, narrowed := true }
def PforBlocksUptoSaid : Prop := pforBlocksUptoRow.holds Try.pinned (OpenSpec.upto pforBlocksSpec)

/-- 'dragnetlaw04.PforTakes', WHERE WHAT IT READS IS OF BULK AT MOST 1048576: true; the input reads as it did. -/
def pforTakesUptoRow : OpenClaim := { program := "ytkcjjennlhgmhaa", sum := "025b1cf2bfeaf2878e58d2497142bfceea1403e53d5a97f8ce14589507fd1074", func := "dragnet/dragnetlaw04.PforTakes", spec := "pforTakes", apart := false, narrowed := true }
def PforTakesUptoSaid : Prop := pforTakesUptoRow.holds Try.pinned (OpenSpec.upto pforTakesSpec)

/-- 'dragnetlaw04.PforFew', WHERE WHAT IT READS IS OF BULK AT MOST 1048576: true; the input reads as it did. -/
def pforFewUptoRow : OpenClaim := { program := "ytkcjjennlhgmhaa", sum := "025b1cf2bfeaf2878e58d2497142bfceea1403e53d5a97f8ce14589507fd1074", func := "dragnet/dragnetlaw04.PforFew", spec := "pforFew", apart := false, narrowed := true }
def PforFewUptoSaid : Prop := pforFewUptoRow.holds Try.pinned (OpenSpec.upto pforFewSpec)

/-- 'dragnetlaw04.PforLists', WHERE WHAT IT READS IS OF BULK AT MOST 1048576: true; the input reads as it did. -/
def pforListsUptoRow : OpenClaim := { program := "ytkcjjennlhgmhaa", sum := "025b1cf2bfeaf2878e58d2497142bfceea1403e53d5a97f8ce14589507fd1074", func := "dragnet/dragnetlaw04.PforLists", spec := "pforLists", unfollowed := true, recurses := true, apart := false, narrowed := true }
def PforListsUptoSaid : Prop := pforListsUptoRow.holds Try.pinned (OpenSpec.upto pforListsSpec)

/-- 'dragnetlaw04.PforBack', WHERE WHAT IT READS IS OF BULK AT MOST 1048576: true; the input reads as it did. -/
def pforBackUptoRow : OpenClaim := { program := "ytkcjjennlhgmhaa", sum := "025b1cf2bfeaf2878e58d2497142bfceea1403e53d5a97f8ce14589507fd1074", func := "dragnet/dragnetlaw04.PforBack", spec := "pforBack", unfollowed := true, recurses := true, apart := false, narrowed := true }
def PforBackUptoSaid : Prop := pforBackUptoRow.holds Try.pinned (OpenSpec.upto pforBackSpec)

/-- 'dragnetlaw04.PforInts', WHERE WHAT IT READS IS OF BULK AT MOST 1048576: true; the input reads as it did. -/
def pforIntsUptoRow : OpenClaim := { program := "ytkcjjennlhgmhaa", sum := "025b1cf2bfeaf2878e58d2497142bfceea1403e53d5a97f8ce14589507fd1074", func := "dragnet/dragnetlaw04.PforInts", spec := "pforInts", unfollowed := true, recurses := true, apart := false, narrowed := true }
def PforIntsUptoSaid : Prop := pforIntsUptoRow.holds Try.pinned (OpenSpec.upto pforIntsSpec)

end Rows
end Go.Proofs.Ytkcjjennlhgmhaa
