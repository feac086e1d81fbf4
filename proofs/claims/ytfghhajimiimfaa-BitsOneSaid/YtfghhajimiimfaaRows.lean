/-
  No cell of these rows narrows 'for every input' (looked for: loops, veiled, ifaces, maps, wideKeys, modest, calm, conditions, laid).
  DERIVED. THE GIVEN ROWS OF THIS SEAT. 6 by the template 'for every input the law returns true; each argument reads behind the call as it read before'; 0 by the template 'total and deterministic' (their statements: YtfghhajimiimfaaTotals.lean).
  GIVEN WITH THE SEED: the statements are not yours to turn. If you find one false, say at which input.
  Laid BY PROGRAM, IN A SANDBOX (cutbox-rows.mjs): the forced cells as the released guide's own fill.sh prints them over the translation b74dfcdb4462ec60… (all of the seat's roots in one cut). By AI agents, Wed Nov 11 2026. No macro, syntax, notation, axiom, sorry.
-/
import Derived.Test.YtfghhajimiimfaaChecked
import GoSem.Claim
import GoSem.ClaimJoined
import GoSem.ClaimMapViews
import Derived.JoinedTies
import Derived.KernelRfl
namespace Go.Proofs.Ytfghhajimiimfaa
/- THE CELL 'sum', in the pinned program and in every row, IS THE sha256 OF THE DUMP (.gsa) THAT YtfghhajimiimfaaProg.lean LOADS. Nothing in Lean hashes anything: it is a label: what it is worth is what the hold of that sum in a sandbox is worth. -/
noncomputable def Try.pinned : Pinned := { name := "ytfghhajimiimfaa", sum := "b74dfcdb4462ec60d9eaf2846f5ec32dd363223ca6bf9bd1ad6f0f703b731558", checked := Try.checked }
namespace Rows
def none {H : Type} : Left H := { results := [], args := [] }

/-- 'dragnetlaw03.BitsPacks': WHATEVER THE INPUT: true; the input reads as it did. -/
def bitsPacksSpec : ChangeSpec := { name := "bitsPacks", fn := fun _ => fun
  | [d1, d2] => { results := [.lit (.bool true)], args := [d1, d2] }
  | _ => none }
def bitsPacksRow : OpenClaim := { program := "ytfghhajimiimfaa", sum := "b74dfcdb4462ec60d9eaf2846f5ec32dd363223ca6bf9bd1ad6f0f703b731558", func := "dragnet/dragnetlaw03.BitsPacks", spec := "bitsPacks", apart := false }
def BitsPacksSaid : Prop := bitsPacksRow.holds Try.pinned (OpenSpec.ofChange bitsPacksSpec)

/-- ITS FALSE NEIGHBOUR: 'it returns false'. Refute it at one input. -/
def bitsPacksWrong : ChangeSpec := { name := "bitsPacks", fn := fun _ => fun
  | [d1, d2] => { results := [.lit (.bool false)], args := [d1, d2] }
  | _ => none }
def BitsPacksWrongFalsely : Prop := bitsPacksRow.holds Try.pinned (OpenSpec.ofChange bitsPacksWrong)

/-- 'dragnetlaw03.BitsWidths': WHATEVER THE INPUT: true; the input reads as it did. -/
def bitsWidthsSpec : ChangeSpec := { name := "bitsWidths", fn := fun _ => fun
  | [d] => { results := [.lit (.bool true)], args := [d] }
  | _ => none }
def bitsWidthsRow : OpenClaim := { program := "ytfghhajimiimfaa", sum := "b74dfcdb4462ec60d9eaf2846f5ec32dd363223ca6bf9bd1ad6f0f703b731558", func := "dragnet/dragnetlaw03.BitsWidths", spec := "bitsWidths", apart := false }
def BitsWidthsSaid : Prop := bitsWidthsRow.holds Try.pinned (OpenSpec.ofChange bitsWidthsSpec)

/-- ITS FALSE NEIGHBOUR: 'it returns false'. Refute it at one input. -/
def bitsWidthsWrong : ChangeSpec := { name := "bitsWidths", fn := fun _ => fun
  | [d] => { results := [.lit (.bool false)], args := [d] }
  | _ => none }
def BitsWidthsWrongFalsely : Prop := bitsWidthsRow.holds Try.pinned (OpenSpec.ofChange bitsWidthsWrong)

/-- 'dragnetlaw03.BitsBegins': WHATEVER THE INPUT: true; the input reads as it did. -/
def bitsBeginsSpec : ChangeSpec := { name := "bitsBegins", fn := fun _ => fun
  | [d1, d2, d3] => { results := [.lit (.bool true)], args := [d1, d2, d3] }
  | _ => none }
def bitsBeginsRow : OpenClaim := { program := "ytfghhajimiimfaa", sum := "b74dfcdb4462ec60d9eaf2846f5ec32dd363223ca6bf9bd1ad6f0f703b731558", func := "dragnet/dragnetlaw03.BitsBegins", spec := "bitsBegins", apart := false }
def BitsBeginsSaid : Prop := bitsBeginsRow.holds Try.pinned (OpenSpec.ofChange bitsBeginsSpec)

/-- ITS FALSE NEIGHBOUR: 'it returns false'. Refute it at one input. -/
def bitsBeginsWrong : ChangeSpec := { name := "bitsBegins", fn := fun _ => fun
  | [d1, d2, d3] => { results := [.lit (.bool false)], args := [d1, d2, d3] }
  | _ => none }
def BitsBeginsWrongFalsely : Prop := bitsBeginsRow.holds Try.pinned (OpenSpec.ofChange bitsBeginsWrong)

/-- 'dragnetlaw03.BitsUnpacks': WHATEVER THE INPUT: true; the input reads as it did. -/
def bitsUnpacksSpec : ChangeSpec := { name := "bitsUnpacks", fn := fun _ => fun
  | [d1, d2, d3] => { results := [.lit (.bool true)], args := [d1, d2, d3] }
  | _ => none }
def bitsUnpacksRow : OpenClaim := { program := "ytfghhajimiimfaa", sum := "b74dfcdb4462ec60d9eaf2846f5ec32dd363223ca6bf9bd1ad6f0f703b731558", func := "dragnet/dragnetlaw03.BitsUnpacks", spec := "bitsUnpacks", apart := false }
def BitsUnpacksSaid : Prop := bitsUnpacksRow.holds Try.pinned (OpenSpec.ofChange bitsUnpacksSpec)

/-- ITS FALSE NEIGHBOUR: 'it returns false'. Refute it at one input. -/
def bitsUnpacksWrong : ChangeSpec := { name := "bitsUnpacks", fn := fun _ => fun
  | [d1, d2, d3] => { results := [.lit (.bool false)], args := [d1, d2, d3] }
  | _ => none }
def BitsUnpacksWrongFalsely : Prop := bitsUnpacksRow.holds Try.pinned (OpenSpec.ofChange bitsUnpacksWrong)

/-- 'dragnetlaw03.BitsBack': WHATEVER THE INPUT: true; the input reads as it did. -/
def bitsBackSpec : ChangeSpec := { name := "bitsBack", fn := fun _ => fun
  | [d1, d2] => { results := [.lit (.bool true)], args := [d1, d2] }
  | _ => none }
def bitsBackRow : OpenClaim := { program := "ytfghhajimiimfaa", sum := "b74dfcdb4462ec60d9eaf2846f5ec32dd363223ca6bf9bd1ad6f0f703b731558", func := "dragnet/dragnetlaw03.BitsBack", spec := "bitsBack", apart := false }
def BitsBackSaid : Prop := bitsBackRow.holds Try.pinned (OpenSpec.ofChange bitsBackSpec)

/-- ITS FALSE NEIGHBOUR: 'it returns false'. Refute it at one input. -/
def bitsBackWrong : ChangeSpec := { name := "bitsBack", fn := fun _ => fun
  | [d1, d2] => { results := [.lit (.bool false)], args := [d1, d2] }
  | _ => none }
def BitsBackWrongFalsely : Prop := bitsBackRow.holds Try.pinned (OpenSpec.ofChange bitsBackWrong)

/-- 'dragnetlaw03.BitsOne': WHATEVER THE INPUT: true; the input reads as it did. -/
def bitsOneSpec : ChangeSpec := { name := "bitsOne", fn := fun _ => fun
  | [d1, d2, d3] => { results := [.lit (.bool true)], args := [d1, d2, d3] }
  | _ => none }
def bitsOneRow : OpenClaim := { program := "ytfghhajimiimfaa", sum := "b74dfcdb4462ec60d9eaf2846f5ec32dd363223ca6bf9bd1ad6f0f703b731558", func := "dragnet/dragnetlaw03.BitsOne", spec := "bitsOne", apart := false }
def BitsOneSaid : Prop := bitsOneRow.holds Try.pinned (OpenSpec.ofChange bitsOneSpec)

/-- ITS FALSE NEIGHBOUR: 'it returns false'. Refute it at one input. -/
def bitsOneWrong : ChangeSpec := { name := "bitsOne", fn := fun _ => fun
  | [d1, d2, d3] => { results := [.lit (.bool false)], args := [d1, d2, d3] }
  | _ => none }
def BitsOneWrongFalsely : Prop := bitsOneRow.holds Try.pinned (OpenSpec.ofChange bitsOneWrong)

/- THE SECOND FORM. 'bulk': how many values and letters a reading holds, each counted each time it is reached (what is shared counts as often as it is met; a slice's spare places count too). A statement '..UptoSaid' is the law's where the arguments, and the package variables that the reading takes, are together of bulk at most 1048576: NARROWER than '..Said'. Prove '..Said' where nothing that the law and all that it calls make is longer than what came in: it says more and counts as full. Else prove '..UptoSaid'. A law counts once. -/
mutual
def uptoBulk {H : Type} : DataW H → Nat
  | .lit (.string bytes) => bytes.length + 1
  | .lit _ => 1
  | .nil => 1
  | .ptr d => uptoBulk d + 1
  | .slice elems spare => uptoBulkAll elems + uptoBulkAll spare + 1
  | .agg parts => uptoBulkAll parts + 1
  | .iface _ d => uptoBulk d + 1
  | .map entries => uptoBulkEntries entries + 1
  | .held _ => 1
def uptoBulkAll {H : Type} : List (DataW H) → Nat
  | [] => 0
  | d :: r => uptoBulk d + uptoBulkAll r
def uptoBulkEntries {H : Type} : List (Lit × DataW H) → Nat
  | [] => 0
  | x :: r => uptoBulkEntry x + uptoBulkEntries r
def uptoBulkEntry {H : Type} : Lit × DataW H → Nat
  | (.string bytes, d) => bytes.length + uptoBulk d + 1
  | (_, d) => uptoBulk d + 1
 end
def uptoSmall : (H : Type) → List (DataW H) → Bool := fun _ ds => decide (uptoBulkAll ds ≤ 1048576)
def OpenSpec.upto (s : _root_.Go.ChangeSpec) : _root_.Go.OpenSpec := { _root_.Go.OpenSpec.ofChange s with cond := some uptoSmall }

/-- 'dragnetlaw03.BitsPacks', WHERE WHAT IT READS IS OF BULK AT MOST 1048576: true; the input reads as it did. -/
def bitsPacksUptoRow : OpenClaim := { program := "ytfghhajimiimfaa", sum := "b74dfcdb4462ec60d9eaf2846f5ec32dd363223ca6bf9bd1ad6f0f703b731558", func := "dragnet/dragnetlaw03.BitsPacks", spec := "bitsPacks", apart := false, narrowed := true }
def BitsPacksUptoSaid : Prop := bitsPacksUptoRow.holds Try.pinned (OpenSpec.upto bitsPacksSpec)

/-- 'dragnetlaw03.BitsWidths', WHERE WHAT IT READS IS OF BULK AT MOST 1048576: true; the input reads as it did. -/
def bitsWidthsUptoRow : OpenClaim := { program := "ytfghhajimiimfaa", sum := "b74dfcdb4462ec60d9eaf2846f5ec32dd363223ca6bf9bd1ad6f0f703b731558", func := "dragnet/dragnetlaw03.BitsWidths", spec := "bitsWidths", apart := false, narrowed := true }
def BitsWidthsUptoSaid : Prop := bitsWidthsUptoRow.holds Try.pinned (OpenSpec.upto bitsWidthsSpec)

/-- 'dragnetlaw03.BitsBegins', WHERE WHAT IT READS IS OF BULK AT MOST 1048576: true; the input reads as it did. -/
def bitsBeginsUptoRow : OpenClaim := { program := "ytfghhajimiimfaa", sum := "b74dfcdb4462ec60d9eaf2846f5ec32dd363223ca6bf9bd1ad6f0f703b731558", func := "dragnet/dragnetlaw03.BitsBegins", spec := "bitsBegins", apart := false, narrowed := true }
def BitsBeginsUptoSaid : Prop := bitsBeginsUptoRow.holds Try.pinned (OpenSpec.upto bitsBeginsSpec)

/-- 'dragnetlaw03.BitsUnpacks', WHERE WHAT IT READS IS OF BULK AT MOST 1048576: true; the input reads as it did. -/
def bitsUnpacksUptoRow : OpenClaim := { program := "ytfghhajimiimfaa", sum := "b74dfcdb4462ec60d9eaf2846f5ec32dd363223ca6bf9bd1ad6f0f703b731558", func := "dragnet/dragnetlaw03.BitsUnpacks", spec := "bitsUnpacks", apart := false, narrowed := true }
def BitsUnpacksUptoSaid : Prop := bitsUnpacksUptoRow.holds Try.pinned (OpenSpec.upto bitsUnpacksSpec)

/-- 'dragnetlaw03.BitsBack', WHERE WHAT IT READS IS OF BULK AT MOST 1048576: true; the input reads as it did. -/
def bitsBackUptoRow : OpenClaim := { program := "ytfghhajimiimfaa", sum := "b74dfcdb4462ec60d9eaf2846f5ec32dd363223ca6bf9bd1ad6f0f703b731558", func := "dragnet/dragnetlaw03.BitsBack", spec := "bitsBack", apart := false, narrowed := true }
def BitsBackUptoSaid : Prop := bitsBackUptoRow.holds Try.pinned (OpenSpec.upto bitsBackSpec)

/-- 'dragnetlaw03.BitsOne', WHERE WHAT IT READS IS OF BULK AT MOST 1048576: true; the input reads as it did. -/
def bitsOneUptoRow : OpenClaim := { program := "ytfghhajimiimfaa", sum := "b74dfcdb4462ec60d9eaf2846f5ec32dd363223ca6bf9bd1ad6f0f703b731558", func := "dragnet/dragnetlaw03.BitsOne", spec := "bitsOne", apart := false, narrowed := true }
def BitsOneUptoSaid : Prop := bitsOneUptoRow.holds Try.pinned (OpenSpec.upto bitsOneSpec)

end Rows
end Go.Proofs.Ytfghhajimiimfaa
