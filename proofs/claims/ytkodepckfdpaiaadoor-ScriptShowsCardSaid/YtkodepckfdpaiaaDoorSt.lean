/- Two deeds' texts: Few, and the law; conditions: the deeds are within the types; the world holds what the library's numbers lean on. -/
import Derived.Test.YtkodepckfdpaiaaDoorSs
namespace Go.Proofs.YtkodepckfdpaiaaDoor
set_option linter.unusedSimpArgs false
set_option linter.unusedVariables false
open Go.RowKit
structure BoolE (e : Ending) : Prop where mk :: (out : ∃ b, e = .returned (.bool b))
set_option maxRecDepth 100000 in
theorem Few_calls (A : Option Addr) (c : Nat) (l : List Dd) (w : World) (hl : l.length ≤ 100000) (hA : Dds w A l) :
    Calls Tryd.prog 10 #[.slice A l.length c] w fun e w' => BoolE e ∧ Below w.heap.size w w' := by
  have HA := Lib.hid hA
  clear hA
  go_enter Tryd.func10, Tryd.ntmps10
  go_upto_region 3 with (fail)
  go_loopg [3, 4] l.length (fun gh v3 v4 wx => ∃ (k : Nat) (x : Int), v3 = .int .i64 x ∧ v4 = .int .i64 k ∧ k + gh = l.length ∧ wx = w)
  case atStart => exact ⟨0, 0, rfl, rfl, by omega, rfl⟩
  case round =>
    obtain ⟨k, x, rfl, rfl, hk, rfl⟩ := hrel
    by_cases hlt : k < l.length
    · obtain ⟨b, off, rfl, h0, h1, h2, h3, h4, h5⟩ := HA.out k hlt
      generalize l[k] = d at *
      go_wp2
      all_goals first
        | (go_ret; exact ⟨⟨_, rfl⟩, Below.refl _ _⟩)
        | (go_roundg (l.length - (k + 1))
           case measure => omega
           case rel => exact ⟨k + 1, _, rfl, by go_num, by omega, rfl⟩)
    · go_wp2
      all_goals (go_ret; exact ⟨⟨_, rfl⟩, Below.refl _ _⟩)
theorem dds_two (w : World) (a b : Dd) {g : Nat} (h : Blk w g #[.string a.k, .int .i64 a.i, .int .i64 a.s, .int .i64 a.n, .bool a.o, .string a.d, .string b.k, .int .i64 b.i, .int .i64 b.s, .int .i64 b.n, .bool b.o, .string b.d] 27) : Dds w (some ⟨g, 0, none⟩) [a, b] := fun i hi => by
  have h2 : i = 0 ∨ i = 1 := by simp at hi; omega
  rcases h2 with rfl | rfl
  · exact ⟨g, 0, rfl, (h.cell 0).trans rfl, (h.cell 1).trans rfl, (h.cell 2).trans rfl, (h.cell 3).trans rfl, (h.cell 4).trans rfl, (h.cell 5).trans rfl⟩
  · exact ⟨g, 0, rfl, (h.cell 6).trans rfl, (h.cell 7).trans rfl, (h.cell 8).trans rfl, (h.cell 9).trans rfl, (h.cell 10).trans rfl, (h.cell 11).trans rfl⟩
theorem dds_one (w : World) (a : Dd) {g : Nat} (h : Blk w g a.cells 27) : Dds w (some ⟨g, 0, none⟩) [a] := fun i hi => by
  obtain rfl : i = 0 := by simpa using hi
  exact ⟨g, 0, rfl, (h.cell 0).trans rfl, (h.cell 1).trans rfl, (h.cell 2).trans rfl, (h.cell 3).trans rfl, (h.cell 4).trans rfl, (h.cell 5).trans rfl⟩
end Go.Proofs.YtkodepckfdpaiaaDoor
