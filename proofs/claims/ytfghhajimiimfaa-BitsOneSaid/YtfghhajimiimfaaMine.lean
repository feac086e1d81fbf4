-- This session's own words beside the printer's (a template: Ytfghhajimiimfaa is the seat's name; laid by wip/tools/lay.sh).
import Derived.Test.YtfghhajimiimfaaWWords
import Derived.Test.YtfghhajimiimfaaWMore
import Derived.Test.YtfghhajimiimfaaWZeros
import Derived.Lib.Strings
import Derived.Lib.Slices
import Derived.Lib.Small
import Derived.Lib.Walk
import Derived.Lib.BitFns
namespace Go.Proofs.YtfghhajimiimfaaW.PrintWords
open Go.RowKit
namespace Kd
section
variable {P : Program} {ops : Array Oper} {rest : List Oper} {o : Oper} {a : Act} {Q : Exit → Act → World → Prop} {α : Type}
/-- make([]T, n, m): n elements, room for m. -/
theorem R_makecap (d : Kd α) {w0 W : World} (base e : Nat) (hgd : o.guard = none) {N : Tmp} (_hd : o.dst = some N) (t : TypeId) (x y : Operand) (ho : o.op = .makeSlice t x y) (n m : Int) (hx : a.eval x = .int .i64 n) (hy : a.eval y = .int .i64 m)
    (ht : P.underlying t = some (.slice e)) (z : Value) (bytes : Nat) (hinfo : (P.info? e).map (fun i => (i.zero, i.size, i.bytes)) = some (some z, d.sz, bytes)) (hz : z.cells.size = d.sz) (hs0 : 0 < d.sz) (hb0 : 0 < bytes)
    (z0 : α) {ok okp : Nat → Prop} (hzero : d.M W base okp z0 z.cells.toList) (hok : ∀ k, okp k → ok k) (hfresh : ok W.heap.size) (h0 : 0 ≤ n) (hnm : n ≤ m) (hl : m.toNat * bytes ≤ 281474976710656) (HB : Below base w0 W) (hbase : base ≤ W.heap.size)
    (h : ∀ v1 w1, d.R e w1 base ok v1 (List.replicate n.toNat z0) → Below base w0 w1 → W.grownBy w1 none → (∃ b, v1.ownBlock = some b ∧ W.heap.size ≤ b) → wpList P ops Q rest (a.put o.dst v1) w1) : wpList P ops Q (o :: rest) a W := by
  obtain ⟨k, rfl⟩ := Int.eq_ofNat_of_zero_le h0
  obtain ⟨c, rfl⟩ := Int.eq_ofNat_of_zero_le (Int.le_trans h0 hnm)
  have hkc : k ≤ c := by omega
  simp only [Int.toNat_natCast] at hl h
  obtain ⟨i0, hi, hzz⟩ := Option.map_eq_some_iff.1 hinfo
  simp only [Prod.mk.injEq] at hzz
  obtain ⟨hz0, hz1, hz2⟩ := hzz
  have hm : c ≤ 281474976710656 := Nat.le_trans (Nat.le_mul_of_pos_right _ hb0) hl
  have hr := run_make (P := P) W t e i0 z ht hi hz0 .i64 .i64 (k : Int) (c : Int) (by omega) hnm
    (by
      have h3 : ((i0.bytes * c : Nat) : Int) ≤ 281474976710656 := by rw [hz2, Nat.mul_comm]; omega
      rwa [Int.natCast_mul] at h3) (by omega)
  simp only [Int.toNat_natCast] at hr
  rw [hz1] at hr
  have hrun : (execOp a.eval o).run P W = .ok (.value (.slice (some ⟨W.heap.size, 0, none⟩) k c)) (W.alloc (.cells (madeCells z.cells (c * d.sz)) e)) := by
    simp [execOp, ho, hx, hy, hr]
  have hrep := reps_made (R := d.M W base okp) hz hs0 hzero k
  have hmade : ((madeCells z.cells (c * d.sz)).toList.take (k * d.sz)) = (madeCells z.cells (k * d.sz)).toList := by
    apply List.ext_getElem
    · simp only [List.length_take, Array.length_toList, size_madeCells]
      exact Nat.min_eq_left (Nat.mul_le_mul_right _ hkc)
    · intro i h1 h2
      simp [madeCells]
  refine event_run hgd hrun (h _ _ ⟨fun q hk => ?_, (madeCells z.cells (k * d.sz)).toList, ?_, ?_⟩ (HB.alloc hbase _) (World.grownBy_alloc W _ none) ⟨W.heap.size, by simp [Value.ownBlock], Nat.le_refl _⟩)
  · have : W.heap.size = q := by simpa [Value.ownBlock] using hk
    subst this
    exact hfresh
  · refine ⟨by rw [Array.length_toList, size_madeCells, List.length_replicate], .inr ⟨W.heap.size, c, madeCells z.cells (c * d.sz), by rw [List.length_replicate], hbase, by simpa using heap_alloc_new W _, by rw [List.length_replicate]; exact hkc, by simp only [maxLen]; omega, size_madeCells _ _, ?_⟩⟩
    rw [List.length_replicate]
    exact hmade
  · refine hrep.imp_ (fun p c hp => d.M_mono (fun k hk => ⟨hok k hk.1, fun he => ?_⟩) (M_below (d.M_bound hp) (below_alloc (Below.refl _ _) _)))
    have h3 : k = W.heap.size := by simpa [Value.ownBlock] using he
    have := hk.2.2.1
    omega
end
end Kd
end Go.Proofs.YtfghhajimiimfaaW.PrintWords
