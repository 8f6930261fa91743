/- An argument of type []string, opened: it can be read, its strings are of a length that a world can hold. -/
import Derived.Test.YtkhepfmllolokaaDoorGs
import Derived.Deep.Strs
import Derived.Lib.SmallJoins
import Derived.Carry
namespace Go.Proofs.YtkhepfmllolokaaDoor
set_option linter.unusedSimpArgs false
set_option linter.unusedVariables false
open Go.RowKit Go.ChangeShapes Go.WideShapes Go.Deep
theorem cells_str : Tryd.prog.cellsOf 9 = 1 := by kernel_rfl
section
variable {H : Type} {enc : TypeId × Value → H} {w : World} {base : Nat} {spare : Nat → Bool} {held : Bool}
theorem plain_addr {w : World} {a : Addr} {v : Value} (h : w.cell? a = some v) : a = ⟨a.block, a.off, none⟩ := by
  obtain ⟨b, o, s⟩ := a
  have : s = none := World.cell?_spot h
  subst this; rfl
theorem strs_of {fuel : Nat} {x : Value} {y : DataW H × List MemPlace} (h : DataW.trod enc Tryd.prog w base spare held fuel 22 [x] = some y) :
    ∃ A l c, x = .slice A (List.length l) c ∧ l.length ≤ c ∧ c ≤ maxLen ∧ Strs w A l ∧ ∀ s ∈ l, s.size ≤ maxLen := by
  rcases open_strs Tryd.underlying22 Tryd.underlying9 cells_str h with ⟨hcs, -⟩ | ⟨a, len, cap, m, Sx, hcs, -, hl, hm, hmm, -, hx⟩
  · obtain rfl : x = .slice none 0 0 := by simpa using hcs
    exact ⟨none, [], 0, rfl, Nat.le_refl _, by decide, fun i hi => absurd hi (Nat.not_lt_zero _), fun s hs => by cases hs⟩
  · obtain rfl : x = .slice (some a) len cap := by simpa using hcs
    have hlm : len ≤ m := by rw [hmm]; split <;> omega
    refine ⟨some a, (List.range len).map Sx, cap, by simp, by simpa using hl, hm, fun i hi => ?_, fun s hs => ?_⟩
    · have hi' : i < len := by simpa using hi
      have h0 := (hx 0 (by omega)).1
      have hA := plain_addr h0
      refine ⟨a.block, a.off, ?_, ?_⟩
      · have : a.add 0 = a := by simp [Addr.add]
        rw [this] at hA; exact congrArg some hA
      · have := (hx i (by omega)).1
        have h2 : a.add 0 = a := by simp [Addr.add]
        rw [h2] at hA
        rw [hA, add_plain] at this
        simpa using this
    · obtain ⟨i, hi, rfl⟩ := List.mem_map.1 hs
      exact (hx i (by have := List.mem_range.1 hi; omega)).2
end
end Go.Proofs.YtkhepfmllolokaaDoor
