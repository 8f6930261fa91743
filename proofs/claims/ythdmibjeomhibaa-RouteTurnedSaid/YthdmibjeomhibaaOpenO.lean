/- An argument of type api.Offer, opened: its slice can be read, its strings are of a length that a world can hold. -/
import Derived.Test.YthdmibjeomhibaaOpen
import Derived.Test.YthdmibjeomhibaaRh
namespace Go.Proofs.Ythdmibjeomhibaa
set_option linter.unusedSimpArgs false
set_option linter.unusedVariables false
open Go.RowKit Go.ChangeShapes Go.WideShapes Go.Deep
theorem array5 {α : Type} {cs : Array α} (h : cs.size = 5) : ∃ c0 c1 c2 c3 c4, cs = #[c0, c1, c2, c3, c4] := by
  obtain ⟨l⟩ := cs
  match l, h with
  | [c0, c1, c2, c3, c4], _ => exact ⟨c0, c1, c2, c3, c4, rfl⟩
theorem cells_31 : Try.prog.cellsOf 31 = 5 := by kernel_rfl
variable {H : Type} {enc : TypeId × Value → H} {w : World} {base : Nat} {spare : Nat → Bool} {held : Bool}
theorem off_of {b0 : Nat} {v : Value} {d : DataW H} {p : List MemPlace} (hv : Value.okWide Try.prog w .any b0 31 v) (h : DataW.Trod enc Try.prog w base spare held 31 v d p) :
    ∃ o : Off, v = o.val ∧ o.Ok w ∧ o.origin.size ≤ maxLen := by
  obtain ⟨cs, rfl, hsz⟩ := okWide_struct Try.underlying31 hv
  obtain ⟨c0, c1, c2, c3, c4, rfl⟩ := array5 (hsz.trans cells_31)
  obtain ⟨fuel, hf⟩ := h
  obtain ⟨xs, n, -, -, -, hlen, hfi⟩ := DataW.trod_struct Try.underlying31 hf
  have hx : ∀ i, i < 5 → ∃ y, xs[i]? = some y := fun i hi => ⟨_, List.getElem?_eq_getElem (by rw [hlen]; exact hi)⟩
  obtain ⟨y0, e0⟩ := hx 0 (by decide)
  have g0 : DataW.trod enc Try.prog w base spare held n 9 (([c0, c1, c2, c3, c4].drop 0).take (Try.prog.cellsOf 9)) = some y0 := (hfi 0 _ rfl).trans e0
  rw [cells_p1.2.2.2.1] at g0
  obtain ⟨y1, e1⟩ := hx 1 (by decide)
  have g1 : DataW.trod enc Try.prog w base spare held n 9 (([c0, c1, c2, c3, c4].drop 1).take (Try.prog.cellsOf 9)) = some y1 := (hfi 1 _ rfl).trans e1
  rw [cells_p1.2.2.2.1] at g1
  obtain ⟨y2, e2⟩ := hx 2 (by decide)
  have g2 : DataW.trod enc Try.prog w base spare held n 9 (([c0, c1, c2, c3, c4].drop 2).take (Try.prog.cellsOf 9)) = some y2 := (hfi 2 _ rfl).trans e2
  rw [cells_p1.2.2.2.1] at g2
  obtain ⟨y3, e3⟩ := hx 3 (by decide)
  have g3 : DataW.trod enc Try.prog w base spare held n 9 (([c0, c1, c2, c3, c4].drop 3).take (Try.prog.cellsOf 9)) = some y3 := (hfi 3 _ rfl).trans e3
  rw [cells_p1.2.2.2.1] at g3
  obtain ⟨y4, e4⟩ := hx 4 (by decide)
  have g4 : DataW.trod enc Try.prog w base spare held n 23 (([c0, c1, c2, c3, c4].drop 4).take (Try.prog.cellsOf 23)) = some y4 := (hfi 4 _ rfl).trans e4
  rw [cells_p1.2.1] at g4
  obtain ⟨s0, q0, -, z0⟩ := DataW.trod_string Try.underlying9 g0
  obtain rfl : c0 = .string s0 := List.cons.inj q0 |>.1
  obtain ⟨s1, q1, -, z1⟩ := DataW.trod_string Try.underlying9 g1
  obtain rfl : c1 = .string s1 := List.cons.inj q1 |>.1
  obtain ⟨s2, q2, -, z2⟩ := DataW.trod_string Try.underlying9 g2
  obtain rfl : c2 = .string s2 := List.cons.inj q2 |>.1
  obtain ⟨s3, q3, -, z3⟩ := DataW.trod_string Try.underlying9 g3
  obtain rfl : c3 = .string s3 := List.cons.inj q3 |>.1
  obtain ⟨A, ps, k, rfl, oc, om, ho, hos⟩ := strs_of (x := c4) g4
  exact ⟨⟨s0, s1, s2, s3, A, ps, k⟩, rfl, ⟨Nat.le_trans oc om, ho, z0⟩, z3⟩
end Go.Proofs.Ythdmibjeomhibaa
