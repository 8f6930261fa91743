/- Slices of bytes that are read; bytes of strings, strings of bytes; generic for a seat; conditions: strings of lengths that a world can hold. -/
import Derived.Test.YtkodepckfdpaiaaDoorGs
import Derived.Laws.Strings2
namespace Go.Proofs.YtkodepckfdpaiaaDoor
set_option linter.unusedSimpArgs false
set_option linter.unusedVariables false
open Go.RowKit
def bcells (l : List UInt8) : List Value := l.map fun b : UInt8 => Value.int .u8 b.toNat
/-- A slice of bytes that is read. -/
def Bys (w : World) (A : Option Addr) (l : List UInt8) : Prop := ∀ i (h : i < l.length), ∃ b off, A = some ⟨b, off, none⟩ ∧ w.cell? ⟨b, off + i, none⟩ = some (.int .u8 l[i].toNat)
theorem bys_below {w w1 : World} {A : Option Addr} {l : List UInt8} (h : Bys w A l) (hb : Below w.heap.size w w1) : Bys w1 A l := fun i hi => by
  obtain ⟨b, off, e, hc⟩ := h i hi
  exact ⟨b, off, e, (hb.cell (p := ⟨b, off + i, none⟩) (World.block_lt_of_cell? w _ hc)).trans hc⟩
theorem bys_blk {w : World} {g : Nat} {cs : Array Value} {t : TypeId} (h : Blk w g cs t) (l : List UInt8) (he : cs = (bcells l).toArray) : Bys w (some ⟨g, 0, none⟩) l := fun i hi => by
  refine ⟨g, 0, rfl, ?_⟩
  rw [h.cell, he, Nat.zero_add]
  show ((bcells l).toArray)[i]? = _
  rw [List.getElem?_toArray]
  show (l.map _)[i]? = _
  rw [List.getElem?_map, List.getElem?_eq_getElem hi]; rfl
theorem conv_str {w : World} {A : Option Addr} {l : List UInt8} (c : Nat) (h : Bys w A l) : (convert 49 9 (.slice A l.length c)).run Tryd.prog w = .ok (.string ⟨l.toArray⟩) w := by
  cases A with
  | some a =>
    refine run_convert_bytes_back (P := Tryd.prog) w 49 9 5 a c l Tryd.underlying49 Tryd.underlying5 Tryd.underlying9 fun j hj => ?_
    obtain ⟨b, off, e, hc⟩ := h j hj
    cases e
    rw [Addr.add_lit]; exact hc
  | none =>
    have hl : l = [] := by
      rcases Nat.eq_zero_or_pos l.length with h0 | h0
      · exact List.eq_nil_of_length_eq_zero h0
      · obtain ⟨b, off, e, _⟩ := h 0 h0
        cases e
    subst hl
    show (convert 49 9 (.slice none 0 c)).run Tryd.prog w = _
    rw [run_convert_bytes_string w 49 9 5 none 0 c Tryd.underlying49 Tryd.underlying5 Tryd.underlying9]
    rfl
theorem bys_set {w : World} {g i : Nat} {l : List UInt8} {b : UInt8} (h : Bys w (some ⟨g, 0, none⟩) l) (hi : i < l.length) : Bys (w.setCell ⟨g, i, none⟩ (.int .u8 b.toNat)) (some ⟨g, 0, none⟩) (l.set i b) := fun j hj => by
  rw [List.length_set] at hj
  obtain ⟨g', off, e, hc⟩ := h j hj
  cases e
  refine ⟨g, 0, rfl, ?_⟩
  rw [Nat.zero_add] at hc ⊢
  by_cases hij : i = j
  · subst hij
    rw [List.getElem_set_self]
    exact World.cell?_setCell_same _ _ _ hc
  · rw [List.getElem_set_ne hij]
    rw [World.cell?_setCell_other _ _ _ _ (fun e => hij (congrArg Addr.off e))]
    exact hc
def cvC (w : World) (s : ByteArray) : Nat := grownCap w s.size 0 5
def cvW (w : World) (s : ByteArray) : World := w.drew.alloc (.cells (bytesRow s (cvC w s)) 5 ((bytesRow s (cvC w s)).size, (bytesRow s (cvC w s)).size + 1))
theorem conv_bytes (w : World) (s : ByteArray) : (convert 9 49 (.string s)).run Tryd.prog w = .ok (.slice (some ⟨w.heap.size, 0, none⟩) s.size (cvC w s)) (cvW w s) :=
  run_bytes_of_string (P := Tryd.prog) w 9 49 5 s Tryd.underlying9 Tryd.underlying49 Tryd.underlying5
theorem cv_cap (w : World) (s : ByteArray) (hs : s.size ≤ maxLen) : s.size ≤ cvC w s ∧ cvC w s ≤ maxLen := ⟨grownCap_ge w s.size 0 _, grownCap_le_maxLen w s.size 0 _ hs⟩
theorem cv_below (w : World) (s : ByteArray) : Below w.heap.size w (cvW w s) := below_al (below_drew1 (Below.refl _ _)) _
theorem cv_size (w : World) (s : ByteArray) : (cvW w s).heap.size = w.heap.size + 1 := by unfold cvW; simp
theorem cv_bys (w : World) (s : ByteArray) : Bys (cvW w s) (some ⟨w.heap.size, 0, none⟩) (bs s) := fun i hi => by
  refine ⟨w.heap.size, 0, rfl, ?_⟩
  rw [bs_length] at hi
  rw [Nat.zero_add]
  refine (World.cell?_alloc_mark w.drew _ _ _ i).trans ?_
  rw [bytesRow_at s _ i hi]; rfl
theorem cv_frozen (w : World) (s : ByteArray) (i : Nat) (hi : i < s.size) : (cvW w s).frozen? ⟨w.heap.size, i, none⟩ = false := by
  refine (World.frozen?_alloc_mark w.drew _ _ _ _ i).trans ?_
  have hlt : i < (bytesRow s (cvC w s)).size := by
    unfold bytesRow
    rw [Array.size_append, Array.size_map]
    show i < s.size + _
    omega
  rw [decide_eq_false (by omega)]; rfl
end Go.Proofs.YtkodepckfdpaiaaDoor
