-- The room behind a row, and what stands behind bytes (layer 2).
import Derived.Test.YtblgakliffiiiaaNumB
namespace Go.Proofs.YtblgakliffiiiaaQ
open Go.RowKit Go.Proofs.YtblgakliffiiiaaW.PrintWords Go.Proofs.YtblgakliffiiiaaW.PrintMore Go.Proofs.YtblgakliffiiiaaW.PrintLast Go.Proofs.Ytblgakliffiiiaa.P

theorem spare_eq (l : List Int) (h : l.length ≤ 140737488351232) : dragnetlaw02_spare.f l = some l := by
  unfold dragnetlaw02_spare.f
  have h20 : wrap64 ((l.length : Int) + 20) = ((l.length + 20 : Nat) : Int) := by rw [w64 (by omega) (by omega)]; omega
  rw [h20, if_pos (by omega), if_pos (by omega)]
  simp only [Option.bind_some, List.replicate_zero, List.nil_append, List.length_nil]
  rw [if_pos (by omega), if_pos (by omega), if_pos (by omega), if_pos (by simp; omega), Int.toNat_natCast, List.take_left' rfl]
theorem kept_eq (l : List Int) (h : l.length ≤ 140737488351232) (hB : B8 l) : dragnetlaw02_kept.f l l = some true := by
  unfold dragnetlaw02_kept.f
  rw [if_pos (by omega), same8 hB hB, decide_eq_true rfl]
theorem behind_eq (l w : List Int) (h : l.length + w.length ≤ 9223372036854775800) (hB : B8 l) (hW : B8 w) : dragnetlaw02_behind.f (l ++ w) l w = some true := by
  unfold dragnetlaw02_behind.f
  rw [add64 _ _ h, if_pos (by simp), if_pos (by omega), if_pos (by simp; omega), Int.toNat_natCast, List.take_left' rfl, List.drop_left' rfl, same8 hB hB, same8 hW hW, decide_eq_true rfl, decide_eq_true rfl]
  rfl
end Go.Proofs.YtblgakliffiiiaaQ
