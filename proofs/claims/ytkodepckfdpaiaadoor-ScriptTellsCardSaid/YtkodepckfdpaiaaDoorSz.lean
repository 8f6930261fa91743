/- An argument of type api.Told, opened. -/
import Derived.Test.YtkodepckfdpaiaaDoorSy
import Derived.Test.YtkodepckfdpaiaaDoorSv
namespace Go.Proofs.YtkodepckfdpaiaaDoor
set_option linter.unusedSimpArgs false
set_option linter.unusedVariables false
open Go.RowKit Go.ChangeShapes Go.WideShapes Go.Deep
theorem cells_t : Tryd.prog.cellsOf 9 = 1 ∧ Tryd.prog.cellsOf 3 = 1 ∧ Tryd.prog.cellsOf 28 = 1 ∧ Tryd.prog.cellsOf 38 = 3 := ⟨by kernel_rfl, by kernel_rfl, by kernel_rfl, by kernel_rfl⟩
theorem array3t {α : Type} {cs : Array α} (h : cs.size = 3) : ∃ c0 c1 c2, cs = #[c0, c1, c2] := by
  obtain ⟨l⟩ := cs
  match l, h with
  | [c0, c1, c2], _ => exact ⟨c0, c1, c2, rfl⟩
section
variable {H : Type} {enc : TypeId × Value → H} {w : World} {base : Nat} {spare : Nat → Bool} {held : Bool}
set_option maxRecDepth 100000 in
theorem td_cells {fuel : Nat} {c0 c1 c2 : Value} {y : DataW H × List MemPlace} (h : DataW.trod enc Tryd.prog w base spare held fuel 38 [c0, c1, c2] = some y) :
    ∃ d : Td, c0 = .int .i64 d.e ∧ c1 = .int .i64 d.n ∧ c2 = .string d.d ∧ d.In := by
  obtain ⟨xs, n, hmm, rfl, hl, hlen, hf⟩ := DataW.trod_struct Tryd.underlying38 h
  match xs, hlen, hf with
  | [y0, y1, y2], _, hf =>
    have g0 : DataW.trod enc Tryd.prog w base spare held n 28 (([c0, c1, c2].drop 0).take (Tryd.prog.cellsOf 28)) = some y0 := hf 0 _ rfl
    have g1 : DataW.trod enc Tryd.prog w base spare held n 3 (([c0, c1, c2].drop 1).take (Tryd.prog.cellsOf 3)) = some y1 := hf 1 _ rfl
    have g2 : DataW.trod enc Tryd.prog w base spare held n 9 (([c0, c1, c2].drop 2).take (Tryd.prog.cellsOf 9)) = some y2 := hf 2 _ rfl
    rw [cells_t.2.2.1] at g0
    rw [cells_t.2.1] at g1
    rw [cells_t.1] at g2
    obtain ⟨n0, q0, -, z0⟩ := DataW.trod_int Tryd.underlying28 g0
    obtain ⟨n1, q1, -, z1⟩ := DataW.trod_int Tryd.underlying3 g1
    obtain ⟨s2, q2, -, z2⟩ := DataW.trod_string Tryd.underlying9 g2
    obtain rfl : c0 = .int .i64 n0 := List.cons.inj q0 |>.1
    obtain rfl : c1 = .int .i64 n1 := List.cons.inj q1 |>.1
    obtain rfl : c2 = .string s2 := List.cons.inj q2 |>.1
    have hr : ∀ m : Int, (Lit.int .i64 m).wf = true → -9223372036854775808 ≤ m ∧ m ≤ 9223372036854775807 := fun m h => by simpa [Lit.wf, IntKind.min, IntKind.max, IntKind.signed, IntKind.bits] using h
    exact ⟨⟨n0, n1, s2⟩, rfl, rfl, rfl, ⟨hr _ z0, hr _ z1, z2⟩⟩
set_option maxRecDepth 100000 in
theorem td_of {b0 : Nat} {v : Value} {d : DataW H} {p : List MemPlace} (hv : Value.okWide Tryd.prog w .any b0 38 v) (h : DataW.Trod enc Tryd.prog w base spare held 38 v d p) :
    ∃ c : Td, v = c.val ∧ c.In := by
  obtain ⟨cs, rfl, hsz⟩ := okWide_struct Tryd.underlying38 hv
  obtain ⟨c0, c1, c2, rfl⟩ := array3t (hsz.trans cells_t.2.2.2)
  obtain ⟨fuel, hf⟩ := h
  obtain ⟨d, rfl, rfl, rfl, hi⟩ := td_cells hf
  exact ⟨d, rfl, hi⟩
end
end Go.Proofs.YtkodepckfdpaiaaDoor
