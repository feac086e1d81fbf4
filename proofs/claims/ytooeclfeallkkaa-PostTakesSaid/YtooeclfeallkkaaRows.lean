/-
  No cell of these rows narrows 'for every input' (looked for: loops, veiled, ifaces, maps, wideKeys, modest, calm, conditions, laid).
  DERIVED. THE GIVEN ROWS OF THIS SEAT. 6 by the template 'for every input the law returns true; each argument reads behind the call as it read before'; 0 by the template 'total and deterministic' (their statements: YtooeclfeallkkaaTotals.lean).
  GIVEN WITH THE SEED: the statements are not yours to turn. If you find one false, say at which input.
  Laid BY PROGRAM, IN A SANDBOX (cutbox-rows.mjs): the forced cells as the released guide's own fill.sh prints them over the translation f448941d62db2634… (all of the seat's roots in one cut). By AI agents, Wed Nov 11 2026. No macro, syntax, notation, axiom, sorry.
-/
import Derived.Test.YtooeclfeallkkaaChecked
import GoSem.Claim
import GoSem.ClaimJoined
import GoSem.ClaimMapViews
import Derived.JoinedTies
import Derived.KernelRfl
namespace Go.Proofs.Ytooeclfeallkkaa
/- THE CELL 'sum', in the pinned program and in every row, IS THE sha256 OF THE DUMP (.gsa) THAT YtooeclfeallkkaaProg.lean LOADS. Nothing in Lean hashes anything: it is a label: what it is worth is what the hold of that sum in a sandbox is worth. -/
noncomputable def Try.pinned : Pinned := { name := "ytooeclfeallkkaa", sum := "f448941d62db2634bcfdcd33c206bf2e23d49ae7e7c0345721589c480fc3fef8", checked := Try.checked }
namespace Rows
def none {H : Type} : Left H := { results := [], args := [] }

/-- 'dragnetlaw13.PostPuts': WHATEVER THE INPUT: true; the input reads as it did. -/
def postPutsSpec : ChangeSpec := { name := "postPuts", fn := fun _ => fun
  | [d1, d2] => { results := [.lit (.bool true)], args := [d1, d2] }
  | _ => none }
def postPutsRow : OpenClaim := { program := "ytooeclfeallkkaa", sum := "f448941d62db2634bcfdcd33c206bf2e23d49ae7e7c0345721589c480fc3fef8", func := "dragnet/dragnetlaw13.PostPuts", spec := "postPuts", unfollowed := true, recurses := true, apart := false }
def PostPutsSaid : Prop := postPutsRow.holds Try.pinned (OpenSpec.ofChange postPutsSpec)

/-- ITS FALSE NEIGHBOUR: 'it returns false'. Refute it at one input. -/
def postPutsWrong : ChangeSpec := { name := "postPuts", fn := fun _ => fun
  | [d1, d2] => { results := [.lit (.bool false)], args := [d1, d2] }
  | _ => none }
def PostPutsWrongFalsely : Prop := postPutsRow.holds Try.pinned (OpenSpec.ofChange postPutsWrong)

/-- 'dragnetlaw13.PostSeeks': WHATEVER THE INPUT: true; the input reads as it did. -/
def postSeeksSpec : ChangeSpec := { name := "postSeeks", fn := fun _ => fun
  | [d1, d2] => { results := [.lit (.bool true)], args := [d1, d2] }
  | _ => none }
def postSeeksRow : OpenClaim := { program := "ytooeclfeallkkaa", sum := "f448941d62db2634bcfdcd33c206bf2e23d49ae7e7c0345721589c480fc3fef8", func := "dragnet/dragnetlaw13.PostSeeks", spec := "postSeeks", unfollowed := true, recurses := true, apart := false }
def PostSeeksSaid : Prop := postSeeksRow.holds Try.pinned (OpenSpec.ofChange postSeeksSpec)

/-- ITS FALSE NEIGHBOUR: 'it returns false'. Refute it at one input. -/
def postSeeksWrong : ChangeSpec := { name := "postSeeks", fn := fun _ => fun
  | [d1, d2] => { results := [.lit (.bool false)], args := [d1, d2] }
  | _ => none }
def PostSeeksWrongFalsely : Prop := postSeeksRow.holds Try.pinned (OpenSpec.ofChange postSeeksWrong)

/-- 'dragnetlaw13.PostSkips': WHATEVER THE INPUT: true; the input reads as it did. -/
def postSkipsSpec : ChangeSpec := { name := "postSkips", fn := fun _ => fun
  | [d1, d2, d3] => { results := [.lit (.bool true)], args := [d1, d2, d3] }
  | _ => none }
def postSkipsRow : OpenClaim := { program := "ytooeclfeallkkaa", sum := "f448941d62db2634bcfdcd33c206bf2e23d49ae7e7c0345721589c480fc3fef8", func := "dragnet/dragnetlaw13.PostSkips", spec := "postSkips", unfollowed := true, recurses := true, apart := false }
def PostSkipsSaid : Prop := postSkipsRow.holds Try.pinned (OpenSpec.ofChange postSkipsSpec)

/-- ITS FALSE NEIGHBOUR: 'it returns false'. Refute it at one input. -/
def postSkipsWrong : ChangeSpec := { name := "postSkips", fn := fun _ => fun
  | [d1, d2, d3] => { results := [.lit (.bool false)], args := [d1, d2, d3] }
  | _ => none }
def PostSkipsWrongFalsely : Prop := postSkipsRow.holds Try.pinned (OpenSpec.ofChange postSkipsWrong)

/-- 'dragnetlaw13.PostWalks': WHATEVER THE INPUT: true; the input reads as it did. -/
def postWalksSpec : ChangeSpec := { name := "postWalks", fn := fun _ => fun
  | [d] => { results := [.lit (.bool true)], args := [d] }
  | _ => none }
def postWalksRow : OpenClaim := { program := "ytooeclfeallkkaa", sum := "f448941d62db2634bcfdcd33c206bf2e23d49ae7e7c0345721589c480fc3fef8", func := "dragnet/dragnetlaw13.PostWalks", spec := "postWalks", unfollowed := true, recurses := true, apart := false }
def PostWalksSaid : Prop := postWalksRow.holds Try.pinned (OpenSpec.ofChange postWalksSpec)

/-- ITS FALSE NEIGHBOUR: 'it returns false'. Refute it at one input. -/
def postWalksWrong : ChangeSpec := { name := "postWalks", fn := fun _ => fun
  | [d] => { results := [.lit (.bool false)], args := [d] }
  | _ => none }
def PostWalksWrongFalsely : Prop := postWalksRow.holds Try.pinned (OpenSpec.ofChange postWalksWrong)

/-- 'dragnetlaw13.PostTakes': WHATEVER THE INPUT: true; the input reads as it did. -/
def postTakesSpec : ChangeSpec := { name := "postTakes", fn := fun _ => fun
  | [d] => { results := [.lit (.bool true)], args := [d] }
  | _ => none }
def postTakesRow : OpenClaim := { program := "ytooeclfeallkkaa", sum := "f448941d62db2634bcfdcd33c206bf2e23d49ae7e7c0345721589c480fc3fef8", func := "dragnet/dragnetlaw13.PostTakes", spec := "postTakes", unfollowed := true, recurses := true, apart := false }
def PostTakesSaid : Prop := postTakesRow.holds Try.pinned (OpenSpec.ofChange postTakesSpec)

/-- ITS FALSE NEIGHBOUR: 'it returns false'. Refute it at one input. -/
def postTakesWrong : ChangeSpec := { name := "postTakes", fn := fun _ => fun
  | [d] => { results := [.lit (.bool false)], args := [d] }
  | _ => none }
def PostTakesWrongFalsely : Prop := postTakesRow.holds Try.pinned (OpenSpec.ofChange postTakesWrong)

/-- 'dragnetlaw13.PostBack': WHATEVER THE INPUT: true; the input reads as it did. -/
def postBackSpec : ChangeSpec := { name := "postBack", fn := fun _ => fun
  | [d1, d2] => { results := [.lit (.bool true)], args := [d1, d2] }
  | _ => none }
def postBackRow : OpenClaim := { program := "ytooeclfeallkkaa", sum := "f448941d62db2634bcfdcd33c206bf2e23d49ae7e7c0345721589c480fc3fef8", func := "dragnet/dragnetlaw13.PostBack", spec := "postBack", unfollowed := true, recurses := true, apart := false }
def PostBackSaid : Prop := postBackRow.holds Try.pinned (OpenSpec.ofChange postBackSpec)

/-- ITS FALSE NEIGHBOUR: 'it returns false'. Refute it at one input. -/
def postBackWrong : ChangeSpec := { name := "postBack", fn := fun _ => fun
  | [d1, d2] => { results := [.lit (.bool false)], args := [d1, d2] }
  | _ => none }
def PostBackWrongFalsely : Prop := postBackRow.holds Try.pinned (OpenSpec.ofChange postBackWrong)

/- THE SECOND FORM. 'bulk': how many values and letters a reading holds, each counted each time it is reached (what is shared counts as often as it is met; a slice's spare places count too). A statement '..UptoSaid' is the law's where the arguments, and the package variables that the reading takes, are together of bulk at most 1048576: NARROWER than '..Said'. Prove '..Said' where nothing that the law and all that it calls make is longer than what came in: it says more and counts as full. Else prove '..UptoSaid'. A law counts once. -/
mutual
def uptoBulk {H : Type} : DataW H → Nat
  | .lit (.string bytes) => bytes.length + 1
  | .lit _ => 1
  | .nil => 1
  | .ptr d => uptoBulk d + 1
  | .slice elems spare => uptoBulkAll elems + uptoBulkAll spare + 1
  | .agg parts => uptoBulkAll parts + 1
  | .iface _ d => uptoBulk d + 1
  | .map entries => uptoBulkEntries entries + 1
  | .held _ => 1
def uptoBulkAll {H : Type} : List (DataW H) → Nat
  | [] => 0
  | d :: r => uptoBulk d + uptoBulkAll r
def uptoBulkEntries {H : Type} : List (Lit × DataW H) → Nat
  | [] => 0
  | x :: r => uptoBulkEntry x + uptoBulkEntries r
def uptoBulkEntry {H : Type} : Lit × DataW H → Nat
  | (.string bytes, d) => bytes.length + uptoBulk d + 1
  | (_, d) => uptoBulk d + 1
 end
def uptoSmall : (H : Type) → List (DataW H) → Bool := fun _ ds => decide (uptoBulkAll ds ≤ 1048576)
def OpenSpec.upto (s : _root_.Go.ChangeSpec) : _root_.Go.OpenSpec := { _root_.Go.OpenSpec.ofChange s with cond := some uptoSmall }

/-- 'dragnetlaw13.PostPuts', WHERE WHAT IT READS IS OF BULK AT MOST 1048576: true; the input reads as it did. -/
def postPutsUptoRow : OpenClaim := { program := "ytooeclfeallkkaa", sum := "f448941d62db2634bcfdcd33c206bf2e23d49ae7e7c0345721589c480fc3fef8", func := "dragnet/dragnetlaw13.PostPuts", spec := "postPuts", unfollowed := true, recurses := true, apart := false, narrowed := true }
def PostPutsUptoSaid : Prop := postPutsUptoRow.holds Try.pinned (OpenSpec.upto postPutsSpec)

/-- 'dragnetlaw13.PostSeeks', WHERE WHAT IT READS IS OF BULK AT MOST 1048576: true; the input reads as it did. -/
def postSeeksUptoRow : OpenClaim := { program := "ytooeclfeallkkaa", sum := "f448941d62db2634bcfdcd33c206bf2e23d49ae7e7c0345721589c480fc3fef8", func := "dragnet/dragnetlaw13.PostSeeks", spec := "postSeeks", unfollowed := true, recurses := true, apart := false, narrowed := true }
def PostSeeksUptoSaid : Prop := postSeeksUptoRow.holds Try.pinned (OpenSpec.upto postSeeksSpec)

/-- 'dragnetlaw13.PostSkips', WHERE WHAT IT READS IS OF BULK AT MOST 1048576: true; the input reads as it did. -/
def postSkipsUptoRow : OpenClaim := { program := "ytooeclfeallkkaa", sum := "f448941d62db2634bcfdcd33c206bf2e23d49ae7e7c0345721589c480fc3fef8", func := "dragnet/dragnetlaw13.PostSkips", spec := "postSkips", unfollowed := true, recurses := true, apart := false, narrowed := true }
def PostSkipsUptoSaid : Prop := postSkipsUptoRow.holds Try.pinned (OpenSpec.upto postSkipsSpec)

/-- 'dragnetlaw13.PostWalks', WHERE WHAT IT READS IS OF BULK AT MOST 1048576: true; the input reads as it did. -/
def postWalksUptoRow : OpenClaim := { program := "ytooeclfeallkkaa", sum := "f448941d62db2634bcfdcd33c206bf2e23d49ae7e7c0345721589c480fc3fef8", func := "dragnet/dragnetlaw13.PostWalks", spec := "postWalks", unfollowed := true, recurses := true, apart := false, narrowed := true }
def PostWalksUptoSaid : Prop := postWalksUptoRow.holds Try.pinned (OpenSpec.upto postWalksSpec)

/-- 'dragnetlaw13.PostTakes', WHERE WHAT IT READS IS OF BULK AT MOST 1048576: true; the input reads as it did. -/
def postTakesUptoRow : OpenClaim := { program := "ytooeclfeallkkaa", sum := "f448941d62db2634bcfdcd33c206bf2e23d49ae7e7c0345721589c480fc3fef8", func := "dragnet/dragnetlaw13.PostTakes", spec := "postTakes", unfollowed := true, recurses := true, apart := false, narrowed := true }
def PostTakesUptoSaid : Prop := postTakesUptoRow.holds Try.pinned (OpenSpec.upto postTakesSpec)

/-- 'dragnetlaw13.PostBack', WHERE WHAT IT READS IS OF BULK AT MOST 1048576: true; the input reads as it did. -/
def postBackUptoRow : OpenClaim := { program := "ytooeclfeallkkaa", sum := "f448941d62db2634bcfdcd33c206bf2e23d49ae7e7c0345721589c480fc3fef8", func := "dragnet/dragnetlaw13.PostBack", spec := "postBack", unfollowed := true, recurses := true, apart := false, narrowed := true }
def PostBackUptoSaid : Prop := postBackUptoRow.holds Try.pinned (OpenSpec.upto postBackSpec)

end Rows
end Go.Proofs.Ytooeclfeallkkaa
