/- head.Read, whole; conditions: the library's bound lies where it is laid; the bytes can be read. -/
import Derived.Test.YtknfoolcbfmpaaaDoorHj
import Derived.Test.YtknfoolcbfmpaaaDoorHk
import Derived.Test.YtknfoolcbfmpaaaDoorHl
namespace Go.Proofs.YtknfoolcbfmpaaaDoor
set_option linter.unusedSimpArgs false
set_option linter.unusedVariables false
open Go.RowKit
theorem Read_calls (g o c : Nat) (l : List UInt8) (w : World) (hl : l.length ≤ c) (hc : c ≤ maxLen) (hz : l.length ≤ 100000) (hm : MaxL w) (hA : Bys w (some ⟨g, o, none⟩) l)  :
    Calls Tryd.prog 16 #[.slice (some ⟨g, o, none⟩) l.length c] w (RP w l) := by
  by_cases hN : Lib.index (l.take 2048) endB < 0
  · exact Read_more g o c l w hl hc hz hm hA hN
  · cases hs : Lib.split (l.take (Lib.index (l.take 2048) endB).toNat) [13, 10] with
    | nil => exact Read_form g o c l w hl hc hz hm hA hN fun l0 ls e => by rw [hs] at e; cases e
    | cons l0 ls =>
      cases hf : firstB l0 with
      | none => exact Read_form g o c l w hl hc hz hm hA hN fun l1 ls1 e => by rw [hs] at e; rw [← (List.cons.inj e).1]; exact hf
      | some p =>
        by_cases he : ls = []
        · exact Read_one g o c l w hl hc hz hm hA hN ⟨l0, ls, p, hs, hf, he⟩
        · exact Read_lines g o c l w hl hc hz hm hA hN ⟨l0, ls, p, hs, hf, he⟩
end Go.Proofs.YtknfoolcbfmpaaaDoor
