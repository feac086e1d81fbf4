/- Words and proofs that BloomNever leans on; put together by wip/tools/shake.py. -/
import Derived.Test.YtiijfpalnbpfkaaZBloomNever0
import Derived.Test.YtiijfpalnbpfkaaZBloomNever2
import Derived.ArgAppend
import Derived.Below
import Derived.BigQuiet
import Derived.Deep.AppendLies
import Derived.Deep.CutBlock
import Derived.Deep.DeepCutAuto
import Derived.Deep.Draws
import Derived.Deep.LoopGhost
import Derived.Deep.OwnRows
import Derived.Deep.QuietTactic
import Derived.Deep.RegionHeld3
import Derived.KernelRfl
import Derived.Laws.BitsLemmas
import Derived.Laws.BytesArg
import Derived.Laws.IdiomCopy
import Derived.Laws.MakeOwn
import Derived.Laws.OwnMore
import Derived.Laws.Rows
import Derived.Laws.Slices
import Derived.Lib.AppendStr
import Derived.Lib.BitFns
import Derived.Lib.ConvBytes
import Derived.Maps.AppendAt
import Derived.OrdersHeld
import Derived.OwnWalk
import Derived.RowKit
import Derived.RowKit3
import Derived.Tactics
import Derived.WalkKit
import Derived.WideLaws
section
namespace Go.Proofs.YtiijfpalnbpfkaaQ
open Go.RowKit Go.Proofs.YtiijfpalnbpfkaaW.PrintWords Go.Proofs.YtiijfpalnbpfkaaW.PrintMore
theorem w64 {x : Int} (h0 : -9223372036854775808 ≤ x) (h1 : x ≤ 9223372036854775807) : wrap64 x = x := by unfold wrap64; omega
theorem wu8 {x : Int} (h0 : 0 ≤ x) (h1 : x ≤ 255) : IntKind.u8.wrap x = x := by rw [IntKind.wrap_u8]; omega
theorem wf_u8 {x : Int} (h : (Lit.int .u8 x).wf = true) : 0 ≤ x ∧ x ≤ 255 := by
 simpa [Lit.wf, IntKind.min, IntKind.max, IntKind.bits, IntKind.signed] using h
theorem rd_nat (l : List Int) (i : Nat) (h : i < l.length) : rd l (i : Int) = l[i] := by
 unfold rd; simp [h]
theorem rd_mem {l : List Int} {i : Int} (h0 : 0 ≤ i) (h : i < l.length) : rd l i ∈ l := by
 obtain ⟨j, rfl⟩ := Int.eq_ofNat_of_zero_le h0
 rw [rd_nat l j (by omega)]
 exact List.getElem_mem _
def In (hi : Int) (l : List Int) : Prop := ∀ x ∈ l, 0 ≤ x ∧ x ≤ hi
theorem In.nil (hi : Int) : In hi [] := fun _ h => by cases h
theorem In.append {hi : Int} {a b : List Int} (ha : In hi a) (hb : In hi b) : In hi (a ++ b) := fun x hx => by
 rcases List.mem_append.1 hx with h | h
 ·exact ha x h
 ·exact hb x h
theorem In.cons {hi x : Int} {l : List Int} (h : In hi (x :: l)) : (0 ≤ x ∧ x ≤ hi) ∧ In hi l := ⟨h x List.mem_cons_self, fun y hy => h y (List.mem_cons_of_mem _ hy)⟩
theorem In.take {hi : Int} {l : List Int} (h : In hi l) (n : Nat) : In hi (l.take n) := fun x hx => h x (List.mem_of_mem_take hx)
theorem In.drop {hi : Int} {l : List Int} (h : In hi l) (n : Nat) : In hi (l.drop n) := fun x hx => h x (List.mem_of_mem_drop hx)
theorem In.set {hi : Int} {l : List Int} (h : In hi l) (n : Nat) {x : Int} (h0 : 0 ≤ x) (h1 : x ≤ hi) : In hi (l.set n x) := fun y hy => by
 rcases List.mem_or_eq_of_mem_set hy with hy | rfl
 ·exact h y hy
 ·exact ⟨h0, h1⟩
theorem In.replicate {hi : Int} (n : Nat) {x : Int} (h0 : 0 ≤ x) (h1 : x ≤ hi) : In hi (List.replicate n x) := fun y hy => by
 rw [(List.mem_replicate.1 hy).2]; exact ⟨h0, h1⟩
theorem Ev.if_t {α : Type} {p : Prop} [Decidable p] {f g : Nat → Option α} {r : α} (hp : p) (h : Ev f r) : Ev (fun k => if p then f k else g k) r := by
 simpa only [if_pos hp] using h
theorem Ev.if_f {α : Type} {p : Prop} [Decidable p] {f g : Nat → Option α} {r : α} (hp : ¬ p) (h : Ev g r) : Ev (fun k => if p then f k else g k) r := by
 simpa only [if_neg hp] using h
theorem Ev.fn {α : Type} {g f : Nat → Option α} {r : α} (k : Ev f r) (h : ∀ k, g k = f k) : Ev g r := Ev.congr h k
theorem Ev.obind {α β : Type} {x : Option α} {f : Nat → α → Option β} {a : α} {r : β} (h : x = some a) (k : Ev (fun n => f n a) r) : Ev (fun n => x.bind (f n)) r := by
 subst h; exact k
theorem Ev.succ {α : Type} {g : Nat → Option α} {r : α} (h : Ev (fun k => g (k + 1)) r) : Ev g r := Ev.step (fun _ => rfl) h
abbrev B8 (l : List Int) : Prop := In 255 l
theorem inc (p : Nat) (h : p ≤ 9223372036854775800) : wrap64 ((p : Int) + 1) = ((p + 1 : Nat) : Int) := by
 rw [w64 (by omega) (by omega)]; omega
end Go.Proofs.YtiijfpalnbpfkaaQ
end
