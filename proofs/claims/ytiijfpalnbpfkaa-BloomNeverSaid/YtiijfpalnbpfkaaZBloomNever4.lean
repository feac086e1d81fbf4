/- Words and proofs that BloomNever leans on; put together by wip/tools/shake.py. -/
import Derived.Ground.NamesProg
import Derived.Lib.OwnBridge
import Derived.Lib.RowBridge
import Derived.Shelf.Lay
import Derived.Shelf.Slices.CompactS
import Derived.Shelf.Slices.In.SortNone
import Derived.Shelf.Sort.Plain
import Derived.Sort.EveryDepth
import Derived.Sort.OwnSorted
import Derived.Test.YtiijfpalnbpfkaaChecked
section
namespace Go.Proofs
open Go.RowKit Go.Shelf Go.Sort
shelf_lay Lays.n190 Nm 190 at Try as Try.laysSort
shelf_lay Lays.n194 Nm 194 at Try as Try.laysCompact
end Go.Proofs
namespace Go.Proofs.YtiijfpalnbpfkaaPre
open Go.RowKit Go.Shelf Go.Sort
theorem sort_some (blk off cap : Nat) (ss : List (List UInt8)) (w : World) (hH : Holds encStr w blk off ss.toArray) (hblk : blk < w.heap.size) (hsz : ss.length < 4611686018427387904) :
  Calls Try.prog 29 #[.slice (some ⟨blk, off, none⟩) ss.length cap] w fun e w' =>
   e = .returned (.tuple #[]) ∧ ∃ n os, w' = grow (putRow encStr (Sort.ahead w n) blk off (ss.mergeSort fun x y => decide (x ≤ y)).toArray) os :=
 Any.slices_Sort_string Try.laysSort blk off cap ss w hH hblk hsz
theorem sort_none (p : Option Addr) (cap : Nat) (w : World) : Calls Try.prog 29 #[.slice p 0 cap] w fun e w' => e = .returned (.tuple #[]) ∧ w' = w :=
 Any.slices_Sort_string_none Try.laysSort p cap w
theorem compact_some (blk off cap : Nat) (zs : List (List UInt8)) (w : World) (hH : Holds encStr w blk off zs.toArray) (hsz : zs.length ≤ 9223372036854775807) (hcap : zs.length ≤ cap) :
  Calls Try.prog 30 #[.slice (some ⟨blk, off, none⟩) zs.length cap] w fun e w' => e = .returned (.slice (some ⟨blk, off, none⟩) (Lib.compact zs).length cap) ∧ ∃ q, w' = putRow encStr (Sort.ahead w q) blk off (Lib.compact zs ++ List.replicate (zs.length - (Lib.compact zs).length) []).toArray :=
 Any.slices_Compact_string Try.laysCompact blk off cap zs w hH hsz hcap
theorem compact_none (p : Option Addr) (cap : Nat) (w : World) : Calls Try.prog 30 #[.slice p 0 cap] w fun e w' => e = .returned (.slice p 0 cap) ∧ w' = w :=
 Any.slices_Compact_string_empty Try.laysCompact p cap w
end Go.Proofs.YtiijfpalnbpfkaaPre
end
