-- The references' copy and comparison of bytes.
import Derived.Test.YtblgakliffiiiaaPlain
import Derived.Test.YtblgakliffiiiaaPx
namespace Go.Proofs.YtblgakliffiiiaaQ
open Go.RowKit Go.Proofs.YtblgakliffiiiaaW.PrintWords Go.Proofs.YtblgakliffiiiaaW.PrintMore Go.Proofs.YtblgakliffiiiaaW.PrintLast Go.Proofs.Ytblgakliffiiiaa.P

theorem copy8 (l : List Int) (h : l.length < 140737488355328) : dragnetref01_Copy.f l = some l := by
  unfold dragnetref01_Copy.f
  simp [h]
theorem same8 {a b : List Int} (ha : B8 a) (hb : B8 b) : dragnetref01_Same.f a b = some (decide (a = b)) := by
  unfold dragnetref01_Same.f
  rw [str_eq ha hb]
end Go.Proofs.YtblgakliffiiiaaQ
