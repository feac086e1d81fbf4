/-
  No cell of these rows narrows 'for every input' (looked for: loops, veiled, ifaces, maps, wideKeys, modest, calm, conditions, laid).
  DERIVED. THE GIVEN ROWS OF THIS SEAT. 6 by the template 'for every input the law returns true; each argument reads behind the call as it read before'; 0 by the template 'total and deterministic' (their statements: YtlmegmjdjdmmgaaTotals.lean).
  GIVEN WITH THE SEED: the statements are not yours to turn. If you find one false, say at which input.
  Laid BY PROGRAM, IN A SANDBOX (cutbox-rows.mjs): the forced cells as the released guide's own fill.sh prints them over the translation 4ad8556eb6c2e4ef… (all of the seat's roots in one cut). By AI agents, Wed Nov 11 2026. No macro, syntax, notation, axiom, sorry.
-/
import Derived.Test.YtlmegmjdjdmmgaaChecked
import GoSem.Claim
import GoSem.ClaimJoined
import GoSem.ClaimMapViews
import Derived.JoinedTies
import Derived.KernelRfl
namespace Go.Proofs.Ytlmegmjdjdmmgaa
/- THE CELL 'sum', in the pinned program and in every row, IS THE sha256 OF THE DUMP (.gsa) THAT YtlmegmjdjdmmgaaProg.lean LOADS. Nothing in Lean hashes anything: it is a label: what it is worth is what the hold of that sum in a sandbox is worth. -/
noncomputable def Try.pinned : Pinned := { name := "ytlmegmjdjdmmgaa", sum := "4ad8556eb6c2e4efd5825b756e81505883d7ce4f17492b70d4df3bc68334ff13", checked := Try.checked }
namespace Rows
def none {H : Type} : Left H := { results := [], args := [] }

/-- 'dragnetlaw07.TokenCuts': WHATEVER THE INPUT: true; the input reads as it did. -/
def tokenCutsSpec : ChangeSpec := { name := "tokenCuts", fn := fun _ => fun
  | [d] => { results := [.lit (.bool true)], args := [d] }
  | _ => none }
def tokenCutsRow : OpenClaim := { program := "ytlmegmjdjdmmgaa", sum := "4ad8556eb6c2e4efd5825b756e81505883d7ce4f17492b70d4df3bc68334ff13", func := "dragnet/dragnetlaw07.TokenCuts", spec := "tokenCuts", apart := false }
def TokenCutsSaid : Prop := tokenCutsRow.holds Try.pinned (OpenSpec.ofChange tokenCutsSpec)

/-- ITS FALSE NEIGHBOUR: 'it returns false'. Refute it at one input. -/
def tokenCutsWrong : ChangeSpec := { name := "tokenCuts", fn := fun _ => fun
  | [d] => { results := [.lit (.bool false)], args := [d] }
  | _ => none }
def TokenCutsWrongFalsely : Prop := tokenCutsRow.holds Try.pinned (OpenSpec.ofChange tokenCutsWrong)

/-- 'dragnetlaw07.TokenParts': WHATEVER THE INPUT: true; the input reads as it did. -/
def tokenPartsSpec : ChangeSpec := { name := "tokenParts", fn := fun _ => fun
  | [d1, d2] => { results := [.lit (.bool true)], args := [d1, d2] }
  | _ => none }
def tokenPartsRow : OpenClaim := { program := "ytlmegmjdjdmmgaa", sum := "4ad8556eb6c2e4efd5825b756e81505883d7ce4f17492b70d4df3bc68334ff13", func := "dragnet/dragnetlaw07.TokenParts", spec := "tokenParts", apart := false }
def TokenPartsSaid : Prop := tokenPartsRow.holds Try.pinned (OpenSpec.ofChange tokenPartsSpec)

/-- ITS FALSE NEIGHBOUR: 'it returns false'. Refute it at one input. -/
def tokenPartsWrong : ChangeSpec := { name := "tokenParts", fn := fun _ => fun
  | [d1, d2] => { results := [.lit (.bool false)], args := [d1, d2] }
  | _ => none }
def TokenPartsWrongFalsely : Prop := tokenPartsRow.holds Try.pinned (OpenSpec.ofChange tokenPartsWrong)

/-- 'dragnetlaw07.TokenJoined': WHATEVER THE INPUT: true; the input reads as it did. -/
def tokenJoinedSpec : ChangeSpec := { name := "tokenJoined", fn := fun _ => fun
  | [d] => { results := [.lit (.bool true)], args := [d] }
  | _ => none }
def tokenJoinedRow : OpenClaim := { program := "ytlmegmjdjdmmgaa", sum := "4ad8556eb6c2e4efd5825b756e81505883d7ce4f17492b70d4df3bc68334ff13", func := "dragnet/dragnetlaw07.TokenJoined", spec := "tokenJoined", apart := false }
def TokenJoinedSaid : Prop := tokenJoinedRow.holds Try.pinned (OpenSpec.ofChange tokenJoinedSpec)

/-- ITS FALSE NEIGHBOUR: 'it returns false'. Refute it at one input. -/
def tokenJoinedWrong : ChangeSpec := { name := "tokenJoined", fn := fun _ => fun
  | [d] => { results := [.lit (.bool false)], args := [d] }
  | _ => none }
def TokenJoinedWrongFalsely : Prop := tokenJoinedRow.holds Try.pinned (OpenSpec.ofChange tokenJoinedWrong)

/-- 'dragnetlaw07.TokenIs': WHATEVER THE INPUT: true; the input reads as it did. -/
def tokenIsSpec : ChangeSpec := { name := "tokenIs", fn := fun _ => fun
  | [d] => { results := [.lit (.bool true)], args := [d] }
  | _ => none }
def tokenIsRow : OpenClaim := { program := "ytlmegmjdjdmmgaa", sum := "4ad8556eb6c2e4efd5825b756e81505883d7ce4f17492b70d4df3bc68334ff13", func := "dragnet/dragnetlaw07.TokenIs", spec := "tokenIs", apart := false }
def TokenIsSaid : Prop := tokenIsRow.holds Try.pinned (OpenSpec.ofChange tokenIsSpec)

/-- ITS FALSE NEIGHBOUR: 'it returns false'. Refute it at one input. -/
def tokenIsWrong : ChangeSpec := { name := "tokenIs", fn := fun _ => fun
  | [d] => { results := [.lit (.bool false)], args := [d] }
  | _ => none }
def TokenIsWrongFalsely : Prop := tokenIsRow.holds Try.pinned (OpenSpec.ofChange tokenIsWrong)

/-- 'dragnetlaw07.TokenCases': WHATEVER THE INPUT: true; the input reads as it did. -/
def tokenCasesSpec : ChangeSpec := { name := "tokenCases", fn := fun _ => fun
  | [d] => { results := [.lit (.bool true)], args := [d] }
  | _ => none }
def tokenCasesRow : OpenClaim := { program := "ytlmegmjdjdmmgaa", sum := "4ad8556eb6c2e4efd5825b756e81505883d7ce4f17492b70d4df3bc68334ff13", func := "dragnet/dragnetlaw07.TokenCases", spec := "tokenCases", apart := false }
def TokenCasesSaid : Prop := tokenCasesRow.holds Try.pinned (OpenSpec.ofChange tokenCasesSpec)

/-- ITS FALSE NEIGHBOUR: 'it returns false'. Refute it at one input. -/
def tokenCasesWrong : ChangeSpec := { name := "tokenCases", fn := fun _ => fun
  | [d] => { results := [.lit (.bool false)], args := [d] }
  | _ => none }
def TokenCasesWrongFalsely : Prop := tokenCasesRow.holds Try.pinned (OpenSpec.ofChange tokenCasesWrong)

/-- 'dragnetlaw07.TokenTerms': WHATEVER THE INPUT: true; the input reads as it did. -/
def tokenTermsSpec : ChangeSpec := { name := "tokenTerms", fn := fun _ => fun
  | [d] => { results := [.lit (.bool true)], args := [d] }
  | _ => none }
def tokenTermsRow : OpenClaim := { program := "ytlmegmjdjdmmgaa", sum := "4ad8556eb6c2e4efd5825b756e81505883d7ce4f17492b70d4df3bc68334ff13", func := "dragnet/dragnetlaw07.TokenTerms", spec := "tokenTerms", recurses := true, apart := false }
def TokenTermsSaid : Prop := tokenTermsRow.holds Try.pinned (OpenSpec.ofChange tokenTermsSpec)

/-- ITS FALSE NEIGHBOUR: 'it returns false'. Refute it at one input. -/
def tokenTermsWrong : ChangeSpec := { name := "tokenTerms", fn := fun _ => fun
  | [d] => { results := [.lit (.bool false)], args := [d] }
  | _ => none }
def TokenTermsWrongFalsely : Prop := tokenTermsRow.holds Try.pinned (OpenSpec.ofChange tokenTermsWrong)

/- THE SECOND FORM. 'bulk': how many values and letters a reading holds, each counted each time it is reached (what is shared counts as often as it is met; a slice's spare places count too). A statement '..UptoSaid' is the law's where the arguments, and the package variables that the reading takes, are together of bulk at most 1048576: NARROWER than '..Said'. Prove '..Said' where nothing that the law and all that it calls make is longer than what came in: it says more and counts as full. Else prove '..UptoSaid'. A law counts once. -/
mutual
def uptoBulk {H : Type} : DataW H → Nat
  | .lit (.string bytes) => bytes.length + 1
  | .lit _ => 1
  | .nil => 1
  | .ptr d => uptoBulk d + 1
  | .slice elems spare => uptoBulkAll elems + uptoBulkAll spare + 1
  | .agg parts => uptoBulkAll parts + 1
  | .iface _ d => uptoBulk d + 1
  | .map entries => uptoBulkEntries entries + 1
  | .held _ => 1
def uptoBulkAll {H : Type} : List (DataW H) → Nat
  | [] => 0
  | d :: r => uptoBulk d + uptoBulkAll r
def uptoBulkEntries {H : Type} : List (Lit × DataW H) → Nat
  | [] => 0
  | x :: r => uptoBulkEntry x + uptoBulkEntries r
def uptoBulkEntry {H : Type} : Lit × DataW H → Nat
  | (.string bytes, d) => bytes.length + uptoBulk d + 1
  | (_, d) => uptoBulk d + 1
 end
def uptoSmall : (H : Type) → List (DataW H) → Bool := fun _ ds => decide (uptoBulkAll ds ≤ 1048576)
def OpenSpec.upto (s : _root_.Go.ChangeSpec) : _root_.Go.OpenSpec := { _root_.Go.OpenSpec.ofChange s with cond := some uptoSmall }

/-- 'dragnetlaw07.TokenCuts', WHERE WHAT IT READS IS OF BULK AT MOST 1048576: true; the input reads as it did. -/
def tokenCutsUptoRow : OpenClaim := { program := "ytlmegmjdjdmmgaa", sum := "4ad8556eb6c2e4efd5825b756e81505883d7ce4f17492b70d4df3bc68334ff13", func := "dragnet/dragnetlaw07.TokenCuts", spec := "tokenCuts", apart := false, narrowed := true }
def TokenCutsUptoSaid : Prop := tokenCutsUptoRow.holds Try.pinned (OpenSpec.upto tokenCutsSpec)

/-- 'dragnetlaw07.TokenParts', WHERE WHAT IT READS IS OF BULK AT MOST 1048576: true; the input reads as it did. -/
def tokenPartsUptoRow : OpenClaim := { program := "ytlmegmjdjdmmgaa", sum := "4ad8556eb6c2e4efd5825b756e81505883d7ce4f17492b70d4df3bc68334ff13", func := "dragnet/dragnetlaw07.TokenParts", spec := "tokenParts", apart := false, narrowed := true }
def TokenPartsUptoSaid : Prop := tokenPartsUptoRow.holds Try.pinned (OpenSpec.upto tokenPartsSpec)

/-- 'dragnetlaw07.TokenJoined', WHERE WHAT IT READS IS OF BULK AT MOST 1048576: true; the input reads as it did. -/
def tokenJoinedUptoRow : OpenClaim := { program := "ytlmegmjdjdmmgaa", sum := "4ad8556eb6c2e4efd5825b756e81505883d7ce4f17492b70d4df3bc68334ff13", func := "dragnet/dragnetlaw07.TokenJoined", spec := "tokenJoined", apart := false, narrowed := true }
def TokenJoinedUptoSaid : Prop := tokenJoinedUptoRow.holds Try.pinned (OpenSpec.upto tokenJoinedSpec)

/-- 'dragnetlaw07.TokenIs', WHERE WHAT IT READS IS OF BULK AT MOST 1048576: true; the input reads as it did. -/
def tokenIsUptoRow : OpenClaim := { program := "ytlmegmjdjdmmgaa", sum := "4ad8556eb6c2e4efd5825b756e81505883d7ce4f17492b70d4df3bc68334ff13", func := "dragnet/dragnetlaw07.TokenIs", spec := "tokenIs", apart := false, narrowed := true }
def TokenIsUptoSaid : Prop := tokenIsUptoRow.holds Try.pinned (OpenSpec.upto tokenIsSpec)

/-- 'dragnetlaw07.TokenCases', WHERE WHAT IT READS IS OF BULK AT MOST 1048576: true; the input reads as it did. -/
def tokenCasesUptoRow : OpenClaim := { program := "ytlmegmjdjdmmgaa", sum := "4ad8556eb6c2e4efd5825b756e81505883d7ce4f17492b70d4df3bc68334ff13", func := "dragnet/dragnetlaw07.TokenCases", spec := "tokenCases", apart := false, narrowed := true }
def TokenCasesUptoSaid : Prop := tokenCasesUptoRow.holds Try.pinned (OpenSpec.upto tokenCasesSpec)

/-- 'dragnetlaw07.TokenTerms', WHERE WHAT IT READS IS OF BULK AT MOST 1048576: true; the input reads as it did. -/
def tokenTermsUptoRow : OpenClaim := { program := "ytlmegmjdjdmmgaa", sum := "4ad8556eb6c2e4efd5825b756e81505883d7ce4f17492b70d4df3bc68334ff13", func := "dragnet/dragnetlaw07.TokenTerms", spec := "tokenTerms", recurses := true, apart := false, narrowed := true }
def TokenTermsUptoSaid : Prop := tokenTermsUptoRow.holds Try.pinned (OpenSpec.upto tokenTermsSpec)

end Rows
end Go.Proofs.Ytlmegmjdjdmmgaa
