/- An argument of type []api.Deed, opened: its deeds can be read, and lie within the types; its length is one that a machine can hold. -/
import Derived.Test.YtkodepckfdpaiaaDoorSv
import Derived.Test.YtkodepckfdpaiaaDoorSk
import Derived.Deep.Slices
namespace Go.Proofs.YtkodepckfdpaiaaDoor
set_option linter.unusedSimpArgs false
set_option linter.unusedVariables false
open Go.RowKit Go.ChangeShapes Go.WideShapes Go.Deep
section
variable {H : Type} {enc : TypeId × Value → H} {w : World} {base : Nat} {spare : Nat → Bool} {held : Bool}
theorem plain_addr {w : World} {a : Addr} {v : Value} (h : w.cell? a = some v) : a = ⟨a.block, a.off, none⟩ := by
  obtain ⟨b, o, s⟩ := a
  have : s = none := World.cell?_spot h
  subst this; rfl
theorem cells_six {a : Addr} {x0 x1 x2 x3 x4 x5 : Value} (h : w.cells? base a 6 = some [x0, x1, x2, x3, x4, x5]) :
    a = ⟨a.block, a.off, none⟩ ∧ w.cell? ⟨a.block, a.off, none⟩ = some x0 ∧ w.cell? ⟨a.block, a.off + 1, none⟩ = some x1 ∧ w.cell? ⟨a.block, a.off + 2, none⟩ = some x2 ∧ w.cell? ⟨a.block, a.off + 3, none⟩ = some x3 ∧ w.cell? ⟨a.block, a.off + 4, none⟩ = some x4 ∧ w.cell? ⟨a.block, a.off + 5, none⟩ = some x5 := by
  obtain ⟨_, _, hc⟩ := World.cells?_some h
  have h0 := (hc 0 (by decide)).trans (show _ = some x0 from rfl)
  have h1 := (hc 1 (by decide)).trans (show _ = some x1 from rfl)
  have h2 := (hc 2 (by decide)).trans (show _ = some x2 from rfl)
  have h3 := (hc 3 (by decide)).trans (show _ = some x3 from rfl)
  have h4 := (hc 4 (by decide)).trans (show _ = some x4 from rfl)
  have h5 := (hc 5 (by decide)).trans (show _ = some x5 from rfl)
  have e0 : a.add 0 = a := by simp [Addr.add]
  rw [e0] at h0
  have hA := plain_addr h0
  rw [hA] at h0 h1 h2 h3 h4 h5
  rw [add_plain] at h1 h2 h3 h4 h5
  exact ⟨hA, h0, h1, h2, h3, h4, h5⟩
instance : Inhabited Dd := ⟨⟨⟨#[]⟩, 0, 0, 0, false, ⟨#[]⟩⟩⟩
theorem dds_of {fuel : Nat} {x : Value} {y : DataW H × List MemPlace} (h : DataW.trod enc Tryd.prog w base spare held fuel 22 [x] = some y) :
    ∃ A l c, x = .slice A (List.length l) c ∧ l.length ≤ c ∧ c ≤ maxLen ∧ Dds w A l ∧ (∀ d ∈ l, d.In) ∧ (l = [] ∨ ∃ es sp, y.1 = .slice es sp ∧ es.length = l.length) := by
  rcases open_slice Tryd.underlying22 h with ⟨hcs, -⟩ | ⟨a, len, cap, m, n, D, Pl, hcs, -, hl, hm, hmm, hy, hx⟩
  · obtain rfl : x = .slice none 0 0 := by simpa using hcs
    exact ⟨none, [], 0, rfl, Nat.le_refl _, by decide, fun i hi => absurd hi (Nat.not_lt_zero _), (fun r hr => by cases hr), .inl rfl⟩
  · obtain rfl : x = .slice (some a) len cap := by simpa using hcs
    have hlm : len ≤ m := by rw [hmm]; split <;> omega
    rw [cells_d.2.2.2] at hx
    obtain ⟨f, hf⟩ := choose_lt (α := Dd) (n := len) (p := fun i r => w.cells? base (a.add (i * 6)) 6 = some [.string r.k, .int .i64 r.i, .int .i64 r.s, .int .i64 r.n, .bool r.o, .string r.d] ∧ r.In) (fun i hi => by
      obtain ⟨cs', h1, h2⟩ := hx i (by omega)
      obtain ⟨_, hlen, _⟩ := World.cells?_some h1
      match cs', hlen with
      | [c0, c1, c2, c3, c4, c5], _ =>
        obtain ⟨d, rfl, rfl, rfl, rfl, rfl, rfl, hi⟩ := dd_cells h2
        exact ⟨d, h1, hi⟩)
    refine ⟨some a, (List.range len).map f, cap, by simp, by simpa using hl, hm, fun i hi => ?_, ?_, .inr ⟨_, _, by rw [hy], by simp⟩⟩
    · have hi' : i < len := by simpa using hi
      have hA := (cells_six (hf 0 (by omega)).1).1
      have h2 : a.add (0 * 6) = a := by simp [Addr.add]
      rw [h2] at hA
      refine ⟨a.block, a.off, congrArg some hA, ?_⟩
      have hc := cells_six (hf i hi').1
      rw [hA, add_plain] at hc
      simpa using hc.2
    · intro r hr
      obtain ⟨i, hi, rfl⟩ := List.mem_map.1 hr
      exact (hf i (List.mem_range.1 hi)).2
theorem bytes_ded : Tryd.prog.bytesOf 27 = 64 := by kernel_rfl
theorem few_len {ts : List TypeId} {ds : List (DataW H)} {j : Nat} {d : DataW H} {l : List Dd} (hz : (DataW.weightsEach Tryd.prog ts ds).all (· ≤ reachBytes) = true) (ht : ts[j]? = some 22) (hd : ds[j]? = some d)
    (h : l = [] ∨ ∃ es sp, d = .slice es sp ∧ es.length = l.length) : l.length ≤ 2200000000000 := by
  rcases h with rfl | ⟨es, sp, rfl, he⟩
  · exact Nat.zero_le _
  · have h1 := sized_slice hz ht hd Tryd.underlying22
    rw [bytes_ded] at h1
    have h2 : reachBytes = 140737488351232 := rfl
    rw [h2] at h1
    omega
end
end Go.Proofs.YtkodepckfdpaiaaDoor
