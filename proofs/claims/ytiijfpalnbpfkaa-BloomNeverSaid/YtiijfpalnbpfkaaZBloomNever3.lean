/- Words and proofs that BloomNever leans on; put together by wip/tools/shake.py. -/
import Derived.Test.YtiijfpalnbpfkaaZBloomNever0
import Derived.Test.YtiijfpalnbpfkaaZBloomNever2
import Derived.ArgAppend
import Derived.Below
import Derived.BigQuiet
import Derived.Deep.AppendLies
import Derived.Deep.CutBlock
import Derived.Deep.DeepCutAuto
import Derived.Deep.Draws
import Derived.Deep.LoopGhost
import Derived.Deep.OwnRows
import Derived.Deep.QuietTactic
import Derived.Deep.RegionHeld3
import Derived.KernelRfl
import Derived.Laws.BitsLemmas
import Derived.Laws.BytesArg
import Derived.Laws.Cover1
import Derived.Laws.IdiomCopy
import Derived.Laws.MakeOwn
import Derived.Laws.OwnMore
import Derived.Laws.Rows
import Derived.Laws.Slices
import Derived.Lib.AppendStr
import Derived.Lib.BitFns
import Derived.Lib.ConvBytes
import Derived.Lib.Slices
import Derived.Lib.Small
import Derived.Lib.Strings
import Derived.Lib.Walk
import Derived.Maps.AppendAt
import Derived.OrdersHeld
import Derived.OwnWalk
import Derived.RowKit
import Derived.RowKit3
import Derived.ScopeJumps
import Derived.Tactics
import Derived.WalkKit
import Derived.WalkMore
import Derived.WalkSpells
import Derived.WideLaws
section
namespace Go.Proofs.YtiijfpalnbpfkaaW.PrintWords
open Go.RowKit
abbrev tT : Bool := true
abbrev fF : Bool := false
namespace Kd
section
variable {P : Program} {ops : Array Oper} {rest : List Oper} {o : Oper} {a : Act} {Q : Exit → Act → World → Prop} {α : Type}
end
theorem conv_event {P : Program} {ops : Array Oper} {rest : List Oper} {o : Oper} {a : Act} {Q : Exit → Act → World → Prop} {W : World} (hgd : o.guard = none) {N : Tmp} (_hd : o.dst = some N) (src dst e : TypeId) (x : Operand) {u : TypeDesc}
  (ho : o.op = .convert src dst x) (hs : P.underlying src = some u) (hd : P.underlying dst = some (.slice e)) (he : P.underlying e = some (.int .u8)) (s : ByteArray) (hx : a.eval x = .string s) (xs : List Int) (hxs : xs = bytesOf s) (hm : s.size ≤ 9223372036854775807)
  (h : ∀ (A : Addr) (c : Nat) (w1 : World), xs.length ≤ c → (Kd.int .u8).C w1 (some A) xs.length xs → Below W.heap.size W w1 → wpList P ops Q rest (a.put o.dst (.slice (some A) xs.length c)) w1) : wpList P ops Q (o :: rest) a W := by
 subst hxs
 have hr := print_bytes (P := P) src dst e hs hd he s W
 have hrun : (execOp a.eval o).run P W = .ok (.value (.slice (some ⟨W.heap.size, 0, none⟩) (bytesOf s).length (grownCap W s.size 0 e))) (Lib.bytesWorld W e s) := by
  rw [bytesOf_length]
  simp [execOp, ho, hx, hr]
 have hb := bytes_reads W e s hm
 rw [← bytesOf_length] at hb
 exact event_run hgd hrun (h _ _ _ (by rw [bytesOf_length]; exact grownCap_ge W s.size 0 e) (Kd.C_of_reads (d := (0 : Int)) (h1 := fun _ => rfl) hb) (bytes_below (Below.refl _ _) (Nat.le_refl _) e s))
theorem freeze_cell (W : World) (a b : Addr) (n : Nat) : (W.freeze a n).cell? b = W.cell? b := by
 unfold World.freeze
 split
 ·rfl
 ·unfold World.cell?
  simp only [Array.getElem?_modify]
  by_cases h : a.block = b.block
  ·simp only [if_pos h]
   rw [← h]
   cases W.heap[a.block]? with
   | none => rfl
   | some o => cases o <;> rfl
  ·simp only [if_neg h]
theorem mark_event {P : Program} {ops : Array Oper} {rest : List Oper} {o : Oper} {a : Act} {Q : Exit → Act → World → Prop} {W : World} (hgd : o.guard = none) {N : Tmp} (_hd : o.dst = some N) (t e : TypeId) (x : Operand)
  (ho : o.op = .convert t t x) (ht : P.underlying t = some (.slice e)) (he : P.underlying e = some (.int .u8)) (A : Option Addr) (c : Nat) (xs : List Int) (hx : a.eval x = .slice A xs.length c) (base : Nat) {ok : Nat → Prop} {w0 : World} (h0 : 0 < xs.length)
  (HR : (Kd.int .u8).R e W base ok (.slice A xs.length c) xs) (HB : Below base w0 W)
  (h : ∀ w1, xs.length ≤ c → (Kd.int .u8).C w1 A xs.length xs → Below base w0 w1 → wpList P ops Q rest (a.put o.dst (.slice A xs.length c)) w1) : wpList P ops Q (o :: rest) a W := by
 obtain ⟨g, cap, hv, hb, hg, cells, hc⟩ := Kd.R_form HR h0
 obtain ⟨_, hlc, hC⟩ := Kd.R_reads' HR
 injection hv with h1 h2 h3
 subst h1; subst h3
 have hsh : W.shape? g = some (e, cells.size) := by simp [World.shape?, hc]
 have hrun : (execOp a.eval o).run P W = .ok (.value (.slice (some ⟨g, 0, none⟩) xs.length c)) (W.freeze ⟨g, cells.size, none⟩ 1) := by
  simp [execOp, ho, hx, convert, run_underlying ht, run_underlying he, markStringish, hsh, Result.andThen]
 refine Kd.event_run hgd hrun (h _ hlc ?_ ?_)
 ·have hr := Kd.reads_of_C (enc := Value.int .u8) (d := (0 : Int)) (h1 := fun _ => rfl) hC
  refine Kd.C_of_reads (d := (0 : Int)) (h1 := fun _ => rfl) ⟨hr.1, hr.2.1, fun hn => ?_⟩
  obtain ⟨ad, e1, hcell⟩ := hr.2.2 hn
  exact ⟨ad, e1, fun j hj => by rw [freeze_cell]; exact hcell j hj⟩
 ·refine HB.trans ⟨?_, ?_, ?_, ?_, fun k hk => ?_⟩ <;> unfold World.freeze <;> simp
  rw [Array.getElem?_modify, if_neg (by omega)]
end Kd
def Exit.two (l0 l1 : Nat) (J0 J1 : Act → World → Prop) (Q : Exit → Act → World → Prop) : Exit → Act → World → Prop
 | .goto l', a, w => (l' = l0 ∧ J0 a w) ∨ (l' = l1 ∧ J1 a w)
 | e, a, w => Q e a w
end Go.Proofs.YtiijfpalnbpfkaaW.PrintWords
end
