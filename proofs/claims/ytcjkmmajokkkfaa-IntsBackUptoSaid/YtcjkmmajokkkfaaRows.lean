/-
  No cell of these rows narrows 'for every input' (looked for: loops, veiled, ifaces, maps, wideKeys, modest, calm, conditions, laid).
  DERIVED. THE GIVEN ROWS OF THIS SEAT. 6 by the template 'for every input the law returns true; each argument reads behind the call as it read before'; 0 by the template 'total and deterministic' (their statements: YtcjkmmajokkkfaaTotals.lean).
  GIVEN WITH THE SEED: the statements are not yours to turn. If you find one false, say at which input.
  Laid BY PROGRAM, IN A SANDBOX (cutbox-rows.mjs): the forced cells as the released guide's own fill.sh prints them over the translation 338306cae73f3ec4… (all of the seat's roots in one cut). By AI agents, Wed Nov 11 2026. No macro, syntax, notation, axiom, sorry.
-/
import Derived.Test.YtcjkmmajokkkfaaChecked
import GoSem.Claim
import GoSem.ClaimJoined
import GoSem.ClaimMapViews
import Derived.JoinedTies
import Derived.KernelRfl
namespace Go.Proofs.Ytcjkmmajokkkfaa
/- THE CELL 'sum', in the pinned program and in every row, IS THE sha256 OF THE DUMP (.gsa) THAT YtcjkmmajokkkfaaProg.lean LOADS. Nothing in Lean hashes anything: it is a label: what it is worth is what the hold of that sum in a sandbox is worth. -/
noncomputable def Try.pinned : Pinned := { name := "ytcjkmmajokkkfaa", sum := "338306cae73f3ec40b4f629b672698d0c6a9a723f028c5f36c9cf2d23c4bb80d", checked := Try.checked }
namespace Rows
def none {H : Type} : Left H := { results := [], args := [] }

/-- 'dragnetlaw10.IntsPuts': WHATEVER THE INPUT: true; the input reads as it did. -/
def intsPutsSpec : ChangeSpec := { name := "intsPuts", fn := fun _ => fun
  | [d1, d2] => { results := [.lit (.bool true)], args := [d1, d2] }
  | _ => none }
def intsPutsRow : OpenClaim := { program := "ytcjkmmajokkkfaa", sum := "338306cae73f3ec40b4f629b672698d0c6a9a723f028c5f36c9cf2d23c4bb80d", func := "dragnet/dragnetlaw10.IntsPuts", spec := "intsPuts", unfollowed := true, recurses := true, apart := false }
def IntsPutsSaid : Prop := intsPutsRow.holds Try.pinned (OpenSpec.ofChange intsPutsSpec)

/-- ITS FALSE NEIGHBOUR: 'it returns false'. Refute it at one input. -/
def intsPutsWrong : ChangeSpec := { name := "intsPuts", fn := fun _ => fun
  | [d1, d2] => { results := [.lit (.bool false)], args := [d1, d2] }
  | _ => none }
def IntsPutsWrongFalsely : Prop := intsPutsRow.holds Try.pinned (OpenSpec.ofChange intsPutsWrong)

/-- 'dragnetlaw10.IntsZones': WHATEVER THE INPUT: true; the input reads as it did. -/
def intsZonesSpec : ChangeSpec := { name := "intsZones", fn := fun _ => fun
  | [d] => { results := [.lit (.bool true)], args := [d] }
  | _ => none }
def intsZonesRow : OpenClaim := { program := "ytcjkmmajokkkfaa", sum := "338306cae73f3ec40b4f629b672698d0c6a9a723f028c5f36c9cf2d23c4bb80d", func := "dragnet/dragnetlaw10.IntsZones", spec := "intsZones", unfollowed := true, recurses := true, apart := false }
def IntsZonesSaid : Prop := intsZonesRow.holds Try.pinned (OpenSpec.ofChange intsZonesSpec)

/-- ITS FALSE NEIGHBOUR: 'it returns false'. Refute it at one input. -/
def intsZonesWrong : ChangeSpec := { name := "intsZones", fn := fun _ => fun
  | [d] => { results := [.lit (.bool false)], args := [d] }
  | _ => none }
def IntsZonesWrongFalsely : Prop := intsZonesRow.holds Try.pinned (OpenSpec.ofChange intsZonesWrong)

/-- 'dragnetlaw10.IntsFinds': WHATEVER THE INPUT: true; the input reads as it did. -/
def intsFindsSpec : ChangeSpec := { name := "intsFinds", fn := fun _ => fun
  | [d1, d2] => { results := [.lit (.bool true)], args := [d1, d2] }
  | _ => none }
def intsFindsRow : OpenClaim := { program := "ytcjkmmajokkkfaa", sum := "338306cae73f3ec40b4f629b672698d0c6a9a723f028c5f36c9cf2d23c4bb80d", func := "dragnet/dragnetlaw10.IntsFinds", spec := "intsFinds", unfollowed := true, recurses := true, apart := false }
def IntsFindsSaid : Prop := intsFindsRow.holds Try.pinned (OpenSpec.ofChange intsFindsSpec)

/-- ITS FALSE NEIGHBOUR: 'it returns false'. Refute it at one input. -/
def intsFindsWrong : ChangeSpec := { name := "intsFinds", fn := fun _ => fun
  | [d1, d2] => { results := [.lit (.bool false)], args := [d1, d2] }
  | _ => none }
def IntsFindsWrongFalsely : Prop := intsFindsRow.holds Try.pinned (OpenSpec.ofChange intsFindsWrong)

/-- 'dragnetlaw10.IntsHold': WHATEVER THE INPUT: true; the input reads as it did. -/
def intsHoldSpec : ChangeSpec := { name := "intsHold", fn := fun _ => fun
  | [d] => { results := [.lit (.bool true)], args := [d] }
  | _ => none }
def intsHoldRow : OpenClaim := { program := "ytcjkmmajokkkfaa", sum := "338306cae73f3ec40b4f629b672698d0c6a9a723f028c5f36c9cf2d23c4bb80d", func := "dragnet/dragnetlaw10.IntsHold", spec := "intsHold", unfollowed := true, recurses := true, apart := false }
def IntsHoldSaid : Prop := intsHoldRow.holds Try.pinned (OpenSpec.ofChange intsHoldSpec)

/-- ITS FALSE NEIGHBOUR: 'it returns false'. Refute it at one input. -/
def intsHoldWrong : ChangeSpec := { name := "intsHold", fn := fun _ => fun
  | [d] => { results := [.lit (.bool false)], args := [d] }
  | _ => none }
def IntsHoldWrongFalsely : Prop := intsHoldRow.holds Try.pinned (OpenSpec.ofChange intsHoldWrong)

/-- 'dragnetlaw10.IntsTakes': WHATEVER THE INPUT: true; the input reads as it did. -/
def intsTakesSpec : ChangeSpec := { name := "intsTakes", fn := fun _ => fun
  | [d] => { results := [.lit (.bool true)], args := [d] }
  | _ => none }
def intsTakesRow : OpenClaim := { program := "ytcjkmmajokkkfaa", sum := "338306cae73f3ec40b4f629b672698d0c6a9a723f028c5f36c9cf2d23c4bb80d", func := "dragnet/dragnetlaw10.IntsTakes", spec := "intsTakes", unfollowed := true, recurses := true, apart := false }
def IntsTakesSaid : Prop := intsTakesRow.holds Try.pinned (OpenSpec.ofChange intsTakesSpec)

/-- ITS FALSE NEIGHBOUR: 'it returns false'. Refute it at one input. -/
def intsTakesWrong : ChangeSpec := { name := "intsTakes", fn := fun _ => fun
  | [d] => { results := [.lit (.bool false)], args := [d] }
  | _ => none }
def IntsTakesWrongFalsely : Prop := intsTakesRow.holds Try.pinned (OpenSpec.ofChange intsTakesWrong)

/-- 'dragnetlaw10.IntsBack': WHATEVER THE INPUT: true; the input reads as it did. -/
def intsBackSpec : ChangeSpec := { name := "intsBack", fn := fun _ => fun
  | [d1, d2] => { results := [.lit (.bool true)], args := [d1, d2] }
  | _ => none }
def intsBackRow : OpenClaim := { program := "ytcjkmmajokkkfaa", sum := "338306cae73f3ec40b4f629b672698d0c6a9a723f028c5f36c9cf2d23c4bb80d", func := "dragnet/dragnetlaw10.IntsBack", spec := "intsBack", unfollowed := true, recurses := true, apart := false }
def IntsBackSaid : Prop := intsBackRow.holds Try.pinned (OpenSpec.ofChange intsBackSpec)

/-- ITS FALSE NEIGHBOUR: 'it returns false'. Refute it at one input. -/
def intsBackWrong : ChangeSpec := { name := "intsBack", fn := fun _ => fun
  | [d1, d2] => { results := [.lit (.bool false)], args := [d1, d2] }
  | _ => none }
def IntsBackWrongFalsely : Prop := intsBackRow.holds Try.pinned (OpenSpec.ofChange intsBackWrong)

/- THE SECOND FORM. 'bulk': how many values and letters a reading holds, each counted each time it is reached (what is shared counts as often as it is met; a slice's spare places count too). A statement '..UptoSaid' is the law's where the arguments, and the package variables that the reading takes, are together of bulk at most 1048576: NARROWER than '..Said'. Prove '..Said' where nothing that the law and all that it calls make is longer than what came in: it says more and counts as full. Else prove '..UptoSaid'. A law counts once. -/
mutual
def uptoBulk {H : Type} : DataW H → Nat
  | .lit (.string bytes) => bytes.length + 1
  | .lit _ => 1
  | .nil => 1
  | .ptr d => uptoBulk d + 1
  | .slice elems spare => uptoBulkAll elems + uptoBulkAll spare + 1
  | .agg parts => uptoBulkAll parts + 1
  | .iface _ d => uptoBulk d + 1
  | .map entries => uptoBulkEntries entries + 1
  | .held _ => 1
def uptoBulkAll {H : Type} : List (DataW H) → Nat
  | [] => 0
  | d :: r => uptoBulk d + uptoBulkAll r
def uptoBulkEntries {H : Type} : List (Lit × DataW H) → Nat
  | [] => 0
  | x :: r => uptoBulkEntry x + uptoBulkEntries r
def uptoBulkEntry {H : Type} : Lit × DataW H → Nat
  | (.string bytes, d) => bytes.length + uptoBulk d + 1
  | (_, d) => uptoBulk d + 1
 end
def uptoSmall : (H : Type) → List (DataW H) → Bool := fun _ ds => decide (uptoBulkAll ds ≤ 1048576)
def OpenSpec.upto (s : _root_.Go.ChangeSpec) : _root_.Go.OpenSpec := { _root_.Go.OpenSpec.ofChange s with cond := some uptoSmall }

/-- 'dragnetlaw10.IntsPuts', WHERE WHAT IT READS IS OF BULK AT MOST 1048576: true; the input reads as it did. -/
def intsPutsUptoRow : OpenClaim := { program := "ytcjkmmajokkkfaa", sum := "338306cae73f3ec40b4f629b672698d0c6a9a723f028c5f36c9cf2d23c4bb80d", func := "dragnet/dragnetlaw10.IntsPuts", spec := "intsPuts", unfollowed := true, recurses := true, apart := false, narrowed := true }
def IntsPutsUptoSaid : Prop := intsPutsUptoRow.holds Try.pinned (OpenSpec.upto intsPutsSpec)

/-- 'dragnetlaw10.IntsZones', WHERE WHAT IT READS IS OF BULK AT MOST 1048576: true; the input reads as it did. -/
def intsZonesUptoRow : OpenClaim := { program := "ytcjkmmajokkkfaa", sum := "338306cae73f3ec40b4f629b672698d0c6a9a723f028c5f36c9cf2d23c4bb80d", func := "dragnet/dragnetlaw10.IntsZones", spec := "intsZones", unfollowed := true, recurses := true, apart := false, narrowed := true }
def IntsZonesUptoSaid : Prop := intsZonesUptoRow.holds Try.pinned (OpenSpec.upto intsZonesSpec)

/-- 'dragnetlaw10.IntsFinds', WHERE WHAT IT READS IS OF BULK AT MOST 1048576: true; the input reads as it did. -/
def intsFindsUptoRow : OpenClaim := { program := "ytcjkmmajokkkfaa", sum := "338306cae73f3ec40b4f629b672698d0c6a9a723f028c5f36c9cf2d23c4bb80d", func := "dragnet/dragnetlaw10.IntsFinds", spec := "intsFinds", unfollowed := true, recurses := true, apart := false, narrowed := true }
def IntsFindsUptoSaid : Prop := intsFindsUptoRow.holds Try.pinned (OpenSpec.upto intsFindsSpec)

/-- 'dragnetlaw10.IntsHold', WHERE WHAT IT READS IS OF BULK AT MOST 1048576: true; the input reads as it did. -/
def intsHoldUptoRow : OpenClaim := { program := "ytcjkmmajokkkfaa", sum := "338306cae73f3ec40b4f629b672698d0c6a9a723f028c5f36c9cf2d23c4bb80d", func := "dragnet/dragnetlaw10.IntsHold", spec := "intsHold", unfollowed := true, recurses := true, apart := false, narrowed := true }
def IntsHoldUptoSaid : Prop := intsHoldUptoRow.holds Try.pinned (OpenSpec.upto intsHoldSpec)

/-- 'dragnetlaw10.IntsTakes', WHERE WHAT IT READS IS OF BULK AT MOST 1048576: true; the input reads as it did. -/
def intsTakesUptoRow : OpenClaim := { program := "ytcjkmmajokkkfaa", sum := "338306cae73f3ec40b4f629b672698d0c6a9a723f028c5f36c9cf2d23c4bb80d", func := "dragnet/dragnetlaw10.IntsTakes", spec := "intsTakes", unfollowed := true, recurses := true, apart := false, narrowed := true }
def IntsTakesUptoSaid : Prop := intsTakesUptoRow.holds Try.pinned (OpenSpec.upto intsTakesSpec)

/-- 'dragnetlaw10.IntsBack', WHERE WHAT IT READS IS OF BULK AT MOST 1048576: true; the input reads as it did. -/
def intsBackUptoRow : OpenClaim := { program := "ytcjkmmajokkkfaa", sum := "338306cae73f3ec40b4f629b672698d0c6a9a723f028c5f36c9cf2d23c4bb80d", func := "dragnet/dragnetlaw10.IntsBack", spec := "intsBack", unfollowed := true, recurses := true, apart := false, narrowed := true }
def IntsBackUptoSaid : Prop := intsBackUptoRow.holds Try.pinned (OpenSpec.upto intsBackSpec)

end Rows
end Go.Proofs.Ytcjkmmajokkkfaa
