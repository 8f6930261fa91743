/- []byte of a string: the world behind it; Put of it; conditions: the string is of a length that a world can hold. -/
import Derived.Test.YtjlkdfgboklmhaaDoorBj
namespace Go.Proofs.YtjlkdfgboklmhaaDoor
set_option linter.unusedSimpArgs false
set_option linter.unusedVariables false
open Go.RowKit
def cvC (w : World) (s : ByteArray) : Nat := grownCap w s.size 0 5
def cvW (w : World) (s : ByteArray) : World := w.drew.alloc (.cells (bytesRow s (cvC w s)) 5 ((bytesRow s (cvC w s)).size, (bytesRow s (cvC w s)).size + 1))
theorem conv_bytes (w : World) (s : ByteArray) : (convert 9 24 (.string s)).run Tryd.prog w = .ok (.slice (some ⟨w.heap.size, 0, none⟩) s.size (cvC w s)) (cvW w s) :=
  run_bytes_of_string (P := Tryd.prog) w 9 24 5 s Tryd.underlying9 Tryd.underlying24 Tryd.underlying5
theorem cv_cap (w : World) (s : ByteArray) (hs : s.size ≤ maxLen) : s.size ≤ cvC w s ∧ cvC w s ≤ maxLen := ⟨grownCap_ge w s.size 0 _, grownCap_le_maxLen w s.size 0 _ hs⟩
theorem cv_below (w : World) (s : ByteArray) : Below w.heap.size w (cvW w s) := below_al (below_drew1 (Below.refl _ _)) _
theorem cv_size (w : World) (s : ByteArray) : (cvW w s).heap.size = w.heap.size + 1 := by unfold cvW; simp
theorem cv_bys (w : World) (s : ByteArray) : Bys (cvW w s) (some ⟨w.heap.size, 0, none⟩) (bs s) := fun i hi => by
  refine ⟨w.heap.size, 0, rfl, ?_⟩
  rw [bs_length] at hi
  rw [Nat.zero_add]
  refine (World.cell?_alloc_mark w.drew _ _ _ i).trans ?_
  rw [bytesRow_at s _ i hi]; rfl
theorem cv_frozen (w : World) (s : ByteArray) (i : Nat) (hi : i < s.size) : (cvW w s).frozen? ⟨w.heap.size, i, none⟩ = false := by
  refine (World.frozen?_alloc_mark w.drew _ _ _ _ i).trans ?_
  have hlt : i < (bytesRow s (cvC w s)).size := by
    unfold bytesRow
    rw [Array.size_append, Array.size_map]
    show i < s.size + _
    omega
  rw [decide_eq_false (by omega)]; rfl
theorem put_str (w : World) (s : ByteArray) (hs : s.size ≤ 1000) : Calls Tryd.prog 12 #[.slice (some ⟨w.heap.size, 0, none⟩) s.size (cvC w s)] (cvW w s) fun e w' =>
    e = .returned (.string ⟨(putB (bs s)).toArray⟩) ∧ Below w.heap.size w w' := by
  have hc := cv_cap w s (by unfold maxLen; omega)
  have h := Put_calls (some ⟨w.heap.size, 0, none⟩) (bs s) (cvC w s) (cvW w s) (by rw [bs_length]; exact hs) (by rw [bs_length]; exact hc.1) hc.2 (cv_bys w s)
  rw [bs_length] at h
  exact h.mono fun e w' ⟨he, hb⟩ => ⟨he, (cv_below w s).trans (hb.mono (cv_below w s).size)⟩
theorem put_inj {a b : List UInt8} (ha : a.length ≤ 1000) (hb : b.length ≤ 1000) (h : putB a = putB b) : a = b := by
  have h1 := get_put a ha
  rw [h, get_put b hb] at h1
  exact (Option.some.inj h1).symm
theorem put_append : ∀ (a b : List UInt8), a.length % 3 = 0 → putB (a ++ b) = putB a ++ putB b
  | [], b, _ => rfl
  | [x], b, h => by simp at h
  | [x, y], b, h => by simp at h
  | x :: y :: z :: t, b, h => by
    have ih := put_append t b (by simp only [List.length_cons] at h; omega)
    show putB (x :: y :: z :: (t ++ b)) = _
    rw [putB, putB, ih, List.append_assoc]
end Go.Proofs.YtjlkdfgboklmhaaDoor
