/-
  No cell of these rows narrows 'for every input' (looked for: loops, veiled, ifaces, maps, wideKeys, modest, calm, conditions, laid).
  DERIVED. THE GIVEN ROWS OF THIS SEAT. 5 by the template 'for every input the law returns true; each argument reads behind the call as it read before'; 0 by the template 'total and deterministic' (their statements: YtebkapoabbfmeaaTotals.lean).
  GIVEN WITH THE SEED: the statements are not yours to turn. If you find one false, say at which input.
  Laid BY PROGRAM, IN A SANDBOX (cutbox-rows.mjs): the forced cells as the released guide's own fill.sh prints them over the translation 25abe505b0b56718… (all of the seat's roots in one cut). By AI agents, Wed Nov 11 2026. No macro, syntax, notation, axiom, sorry.
-/
import Derived.Test.YtebkapoabbfmeaaChecked
import GoSem.Claim
import GoSem.ClaimJoined
import GoSem.ClaimMapViews
import Derived.JoinedTies
import Derived.KernelRfl
namespace Go.Proofs.Ytebkapoabbfmeaa
/- THE CELL 'sum', in the pinned program and in every row, IS THE sha256 OF THE DUMP (.gsa) THAT YtebkapoabbfmeaaProg.lean LOADS. Nothing in Lean hashes anything: it is a label: what it is worth is what the hold of that sum in a sandbox is worth. -/
noncomputable def Try.pinned : Pinned := { name := "ytebkapoabbfmeaa", sum := "25abe505b0b56718775dfc55f0f49def47c3a651510f703b06cc66f89386d9eb", checked := Try.checked }
namespace Rows
def none {H : Type} : Left H := { results := [], args := [] }

/-- 'dragnetlaw14.JoinPhrases': WHATEVER THE INPUT: true; the input reads as it did. -/
def joinPhrasesSpec : ChangeSpec := { name := "joinPhrases", fn := fun _ => fun
  | [d] => { results := [.lit (.bool true)], args := [d] }
  | _ => none }
def joinPhrasesRow : OpenClaim := { program := "ytebkapoabbfmeaa", sum := "25abe505b0b56718775dfc55f0f49def47c3a651510f703b06cc66f89386d9eb", func := "dragnet/dragnetlaw14.JoinPhrases", spec := "joinPhrases", unfollowed := true, recurses := true, apart := false }
def JoinPhrasesSaid : Prop := joinPhrasesRow.holds Try.pinned (OpenSpec.ofChange joinPhrasesSpec)

/-- ITS FALSE NEIGHBOUR: 'it returns false'. Refute it at one input. -/
def joinPhrasesWrong : ChangeSpec := { name := "joinPhrases", fn := fun _ => fun
  | [d] => { results := [.lit (.bool false)], args := [d] }
  | _ => none }
def JoinPhrasesWrongFalsely : Prop := joinPhrasesRow.holds Try.pinned (OpenSpec.ofChange joinPhrasesWrong)

/-- 'dragnetlaw14.JoinLonger': WHATEVER THE INPUT: true; the input reads as it did. -/
def joinLongerSpec : ChangeSpec := { name := "joinLonger", fn := fun _ => fun
  | [d1, d2] => { results := [.lit (.bool true)], args := [d1, d2] }
  | _ => none }
def joinLongerRow : OpenClaim := { program := "ytebkapoabbfmeaa", sum := "25abe505b0b56718775dfc55f0f49def47c3a651510f703b06cc66f89386d9eb", func := "dragnet/dragnetlaw14.JoinLonger", spec := "joinLonger", unfollowed := true, recurses := true, apart := false }
def JoinLongerSaid : Prop := joinLongerRow.holds Try.pinned (OpenSpec.ofChange joinLongerSpec)

/-- ITS FALSE NEIGHBOUR: 'it returns false'. Refute it at one input. -/
def joinLongerWrong : ChangeSpec := { name := "joinLonger", fn := fun _ => fun
  | [d1, d2] => { results := [.lit (.bool false)], args := [d1, d2] }
  | _ => none }
def JoinLongerWrongFalsely : Prop := joinLongerRow.holds Try.pinned (OpenSpec.ofChange joinLongerWrong)

/-- 'dragnetlaw14.JoinTwos': WHATEVER THE INPUT: true; the input reads as it did. -/
def joinTwosSpec : ChangeSpec := { name := "joinTwos", fn := fun _ => fun
  | [d1, d2] => { results := [.lit (.bool true)], args := [d1, d2] }
  | _ => none }
def joinTwosRow : OpenClaim := { program := "ytebkapoabbfmeaa", sum := "25abe505b0b56718775dfc55f0f49def47c3a651510f703b06cc66f89386d9eb", func := "dragnet/dragnetlaw14.JoinTwos", spec := "joinTwos", unfollowed := true, recurses := true, apart := false }
def JoinTwosSaid : Prop := joinTwosRow.holds Try.pinned (OpenSpec.ofChange joinTwosSpec)

/-- ITS FALSE NEIGHBOUR: 'it returns false'. Refute it at one input. -/
def joinTwosWrong : ChangeSpec := { name := "joinTwos", fn := fun _ => fun
  | [d1, d2] => { results := [.lit (.bool false)], args := [d1, d2] }
  | _ => none }
def JoinTwosWrongFalsely : Prop := joinTwosRow.holds Try.pinned (OpenSpec.ofChange joinTwosWrong)

/-- 'dragnetlaw14.JoinSets': WHATEVER THE INPUT: true; the input reads as it did. -/
def joinSetsSpec : ChangeSpec := { name := "joinSets", fn := fun _ => fun
  | [d1, d2] => { results := [.lit (.bool true)], args := [d1, d2] }
  | _ => none }
def joinSetsRow : OpenClaim := { program := "ytebkapoabbfmeaa", sum := "25abe505b0b56718775dfc55f0f49def47c3a651510f703b06cc66f89386d9eb", func := "dragnet/dragnetlaw14.JoinSets", spec := "joinSets", unfollowed := true, recurses := true, apart := false }
def JoinSetsSaid : Prop := joinSetsRow.holds Try.pinned (OpenSpec.ofChange joinSetsSpec)

/-- ITS FALSE NEIGHBOUR: 'it returns false'. Refute it at one input. -/
def joinSetsWrong : ChangeSpec := { name := "joinSets", fn := fun _ => fun
  | [d1, d2] => { results := [.lit (.bool false)], args := [d1, d2] }
  | _ => none }
def JoinSetsWrongFalsely : Prop := joinSetsRow.holds Try.pinned (OpenSpec.ofChange joinSetsWrong)

/-- 'dragnetlaw14.JoinDocs': WHATEVER THE INPUT: true; the input reads as it did. -/
def joinDocsSpec : ChangeSpec := { name := "joinDocs", fn := fun _ => fun
  | [d1, d2] => { results := [.lit (.bool true)], args := [d1, d2] }
  | _ => none }
def joinDocsRow : OpenClaim := { program := "ytebkapoabbfmeaa", sum := "25abe505b0b56718775dfc55f0f49def47c3a651510f703b06cc66f89386d9eb", func := "dragnet/dragnetlaw14.JoinDocs", spec := "joinDocs", unfollowed := true, recurses := true, apart := false }
def JoinDocsSaid : Prop := joinDocsRow.holds Try.pinned (OpenSpec.ofChange joinDocsSpec)

/-- ITS FALSE NEIGHBOUR: 'it returns false'. Refute it at one input. -/
def joinDocsWrong : ChangeSpec := { name := "joinDocs", fn := fun _ => fun
  | [d1, d2] => { results := [.lit (.bool false)], args := [d1, d2] }
  | _ => none }
def JoinDocsWrongFalsely : Prop := joinDocsRow.holds Try.pinned (OpenSpec.ofChange joinDocsWrong)

/- THE SECOND FORM. 'bulk': how many values and letters a reading holds, each counted each time it is reached (what is shared counts as often as it is met; a slice's spare places count too). A statement '..UptoSaid' is the law's where the arguments, and the package variables that the reading takes, are together of bulk at most 1048576: NARROWER than '..Said'. Prove '..Said' where nothing that the law and all that it calls make is longer than what came in: it says more and counts as full. Else prove '..UptoSaid'. A law counts once. -/
mutual
def uptoBulk {H : Type} : DataW H → Nat
  | .lit (.string bytes) => bytes.length + 1
  | .lit _ => 1
  | .nil => 1
  | .ptr d => uptoBulk d + 1
  | .slice elems spare => uptoBulkAll elems + uptoBulkAll spare + 1
  | .agg parts => uptoBulkAll parts + 1
  | .iface _ d => uptoBulk d + 1
  | .map entries => uptoBulkEntries entries + 1
  | .held _ => 1
def uptoBulkAll {H : Type} : List (DataW H) → Nat
  | [] => 0
  | d :: r => uptoBulk d + uptoBulkAll r
def uptoBulkEntries {H : Type} : List (Lit × DataW H) → Nat
  | [] => 0
  | x :: r => uptoBulkEntry x + uptoBulkEntries r
def uptoBulkEntry {H : Type} : Lit × DataW H → Nat
  | (.string bytes, d) => bytes.length + uptoBulk d + 1
  | (_, d) => uptoBulk d + 1
 end
def uptoSmall : (H : Type) → List (DataW H) → Bool := fun _ ds => decide (uptoBulkAll ds ≤ 1048576)
def OpenSpec.upto (s : _root_.Go.ChangeSpec) : _root_.Go.OpenSpec := { _root_.Go.OpenSpec.ofChange s with cond := some uptoSmall }

/-- 'dragnetlaw14.JoinPhrases', WHERE WHAT IT READS IS OF BULK AT MOST 1048576: true; the input reads as it did. -/
def joinPhrasesUptoRow : OpenClaim := { program := "ytebkapoabbfmeaa", sum := "25abe505b0b56718775dfc55f0f49def47c3a651510f703b06cc66f89386d9eb", func := "dragnet/dragnetlaw14.JoinPhrases", spec := "joinPhrases", unfollowed := true, recurses := true, apart := false, narrowed := true }
def JoinPhrasesUptoSaid : Prop := joinPhrasesUptoRow.holds Try.pinned (OpenSpec.upto joinPhrasesSpec)

/-- 'dragnetlaw14.JoinLonger', WHERE WHAT IT READS IS OF BULK AT MOST 1048576: true; the input reads as it did. -/
def joinLongerUptoRow : OpenClaim := { program := "ytebkapoabbfmeaa", sum := "25abe505b0b56718775dfc55f0f49def47c3a651510f703b06cc66f89386d9eb", func := "dragnet/dragnetlaw14.JoinLonger", spec := "joinLonger", unfollowed := true, recurses := true, apart := false, narrowed := true }
def JoinLongerUptoSaid : Prop := joinLongerUptoRow.holds Try.pinned (OpenSpec.upto joinLongerSpec)

/-- 'dragnetlaw14.JoinTwos', WHERE WHAT IT READS IS OF BULK AT MOST 1048576: true; the input reads as it did. -/
def joinTwosUptoRow : OpenClaim := { program := "ytebkapoabbfmeaa", sum := "25abe505b0b56718775dfc55f0f49def47c3a651510f703b06cc66f89386d9eb", func := "dragnet/dragnetlaw14.JoinTwos", spec := "joinTwos", unfollowed := true, recurses := true, apart := false, narrowed := true }
def JoinTwosUptoSaid : Prop := joinTwosUptoRow.holds Try.pinned (OpenSpec.upto joinTwosSpec)

/-- 'dragnetlaw14.JoinSets', WHERE WHAT IT READS IS OF BULK AT MOST 1048576: true; the input reads as it did. -/
def joinSetsUptoRow : OpenClaim := { program := "ytebkapoabbfmeaa", sum := "25abe505b0b56718775dfc55f0f49def47c3a651510f703b06cc66f89386d9eb", func := "dragnet/dragnetlaw14.JoinSets", spec := "joinSets", unfollowed := true, recurses := true, apart := false, narrowed := true }
def JoinSetsUptoSaid : Prop := joinSetsUptoRow.holds Try.pinned (OpenSpec.upto joinSetsSpec)

/-- 'dragnetlaw14.JoinDocs', WHERE WHAT IT READS IS OF BULK AT MOST 1048576: true; the input reads as it did. -/
def joinDocsUptoRow : OpenClaim := { program := "ytebkapoabbfmeaa", sum := "25abe505b0b56718775dfc55f0f49def47c3a651510f703b06cc66f89386d9eb", func := "dragnet/dragnetlaw14.JoinDocs", spec := "joinDocs", unfollowed := true, recurses := true, apart := false, narrowed := true }
def JoinDocsUptoSaid : Prop := joinDocsUptoRow.holds Try.pinned (OpenSpec.upto joinDocsSpec)

end Rows
end Go.Proofs.Ytebkapoabbfmeaa
