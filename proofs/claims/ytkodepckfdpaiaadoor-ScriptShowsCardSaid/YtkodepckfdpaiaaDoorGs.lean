/- Slices of strings through worlds; rows of strings of the call's own; bytes of a slice; generic for a seat; conditions: the slices can be read. -/
import Derived.Test.YtkodepckfdpaiaaDoorGe
namespace Go.Proofs.YtkodepckfdpaiaaDoor
set_option linter.unusedSimpArgs false
set_option linter.unusedVariables false
open Go.RowKit
theorem bt {w w1 w2 : World} (h : Below w.heap.size w w1) (k : Below w1.heap.size w1 w2) : Below w.heap.size w w2 := h.trans (k.mono h.size)
theorem bcell {w w1 : World} {B : Nat} (hb : Below B w w1) : (∀ b o, b < B → w1.cell? ⟨b, o, none⟩ = w.cell? ⟨b, o, none⟩) ∧ (∀ b o, b < B → w1.frozen? ⟨b, o, none⟩ = w.frozen? ⟨b, o, none⟩) :=
  ⟨fun b o h => hb.cell (p := ⟨b, o, none⟩) h, fun b o h => hb.frozen (p := ⟨b, o, none⟩) h⟩
theorem cell_lt {w : World} {b o : Nat} {v : Value} (h : w.cell? ⟨b, o, none⟩ = some v) : b < w.heap.size := World.block_lt_of_cell? w _ h
theorem below_drewN {B : Nat} {w W : World} (h : Below B w W) (n : Nat) : Below B w (W.drewN n) := ⟨h.os, h.tape, h.output, h.size, h.block⟩
theorem below_drewN1 (w : World) (n : Nat) : Below w.heap.size w (w.drewN n) := below_drewN (Below.refl _ _) n
theorem Strs.below {w w1 : World} {A : Option Addr} {l : List ByteArray} (h : Strs w A l) (hb : Below w.heap.size w w1) : Strs w1 A l := fun i hi => by
  obtain ⟨b, off, e, hc⟩ := h i hi
  exact ⟨b, off, e, ((bcell hb).1 b _ (cell_lt hc)).trans hc⟩
theorem Strs.alloc {w : World} {A : Option Addr} {l : List ByteArray} (h : Strs w A l) (o : Obj) : Strs (w.alloc o) A l := h.below (below_alloc1 w o)
theorem Strs.drew1 {w : World} {A : Option Addr} {l : List ByteArray} (h : Strs w A l) : Strs w.drew A l := h
theorem Strs.drewN {w : World} {A : Option Addr} {l : List ByteArray} (h : Strs w A l) (n : Nat) : Strs (w.drewN n) A l := h
theorem Strs.nil (w : World) (A : Option Addr) : Strs w A [] := fun i hi => absurd hi (Nat.not_lt_zero _)
theorem alloc_cell (w : World) (cs : Array Value) (t : TypeId) (i : Nat) : (w.alloc (.cells cs t (0, 0))).cell? ⟨w.heap.size, i, none⟩ = cs[i]? := World.cell?_alloc_new _ _ _ i
theorem bs_app (a b : ByteArray) : bs (a ++ b) = bs a ++ bs b := by
  rw [bs, ByteArray.data_append, Array.toList_append]
abbrev mk (l : List UInt8) : ByteArray := ⟨l.toArray⟩
theorem bs_mk (l : List UInt8) : bs (mk l) = l := by simp [bs, mk]
theorem mk_bs (s : ByteArray) : mk (bs s) = s := bs_inj (bs_mk _)
theorem mk_size (l : List UInt8) : (mk l).size = l.length := by rw [← bs_length, bs_mk]
theorem isEmpty_iff (s : ByteArray) : s.toList.isEmpty = (bs s).isEmpty := by rw [ByteArray.toList_eq]
theorem bs_eq {a b : ByteArray} : bs a = bs b ↔ a = b := ⟨bs_inj, fun h => by rw [h]⟩
/-- Each string's bytes. -/
abbrev bss (l : List ByteArray) : List (List UInt8) := l.map bs
theorem bss_inj {a b : List ByteArray} (h : bss a = bss b) : a = b := by
  have := congrArg (List.map mk) h
  simpa [bss, Function.comp_def, mk_bs] using this
theorem info_str : (Tryd.prog.info? 9).map (fun i => (i.zero, i.size, i.bytes)) = some (some (.string ⟨#[]⟩), 1, 16) := by kernel_rfl
/-- A row of strings of the call's own. -/
def OwnS (w : World) (base : Nat) (v : Value) (l : List ByteArray) : Prop := w.ownsRow base 9 1 v l.length (l.map .string)
theorem OwnS.nil (w : World) (base : Nat) : OwnS w base (.slice none 0 0) [] := World.ownsRow_nil _ _ _ _
theorem OwnS.new' (w : World) {g base : Nat} (hg : g = w.heap.size) (hb : base ≤ w.heap.size) : OwnS (w.alloc (.cells #[] 9 (0, 0))) base (.slice (some ⟨g, 0, none⟩) 0 0) [] := by
  subst hg; exact World.ownsRow_lit w #[] 0 hb (Nat.zero_le _) rfl
theorem OwnS.drewN {w : World} {base : Nat} {v : Value} {l : List ByteArray} (h : OwnS w base v l) (n : Nat) : OwnS (w.drewN n) base v l := h
theorem OwnS.drew1 {w : World} {base : Nat} {v : Value} {l : List ByteArray} (h : OwnS w base v l) : OwnS w.drew base v l := h
theorem OwnS.form {w : World} {base : Nat} {v : Value} {l : List ByteArray} (h : OwnS w base v l) : ∃ A c, v = .slice A l.length c ∧ l.length ≤ c ∧ c ≤ maxLen ∧ Strs w A l := by
  rcases h.2 with ⟨rfl, h0⟩ | ⟨g, cap, cur, rfl, hb, hg, hnc, hcm, hcs, htake⟩
  · refine ⟨none, 0, by rw [h0], by omega, Nat.zero_le _, fun i hi => by omega⟩
  · refine ⟨some ⟨g, 0, none⟩, cap, rfl, hnc, hcm, fun i hi => ⟨g, 0, rfl, ?_⟩⟩
    rw [Nat.zero_add]
    refine (World.ownsRow.cellAt (w := w) (g := g) h i (by omega)).trans ?_
    rw [List.getElem?_map, List.getElem?_eq_getElem hi]; rfl
theorem OwnS.app {w : World} {base : Nat} {v : Value} {l : List ByteArray} (h : OwnS w base v l) (ty : TypeId) (A : Option Addr) (k : List ByteArray) (c : Nat) (hk : Strs w A k) (hn : l.length + k.length ≤ 1000000) (hbase : base ≤ w.heap.size) :
    ∃ v' w', (Builtin.append_ #[69, 69] ty #[v, .slice A k.length c]).run Tryd.prog w = .ok v' w' ∧ OwnS w' base v' (l ++ k) ∧ Below base w w' ∧ (∀ g cs t, some g ≠ v.ownBlock → Blk w g cs t → Blk w' g cs t) ∧ w.grownBy w' v.ownBlock := by
  obtain ⟨i0, hi0, hz0, hz1, hz2⟩ := info_parts info_str
  obtain ⟨v', w', hr, ho, hb, hg⟩ := run_app (P := Tryd.prog) w base 69 ty 9 i0 _ 1 16 Tryd.underlying69 hi0 hz0 hz1 hz2 rfl (by omega) v l.length _ h A k.length c (k.map .string) (by simp)
    (fun j u hj => by
      rw [List.getElem?_map, Option.map_eq_some_iff] at hj
      obtain ⟨s, hs, rfl⟩ := hj
      obtain ⟨hjl, rfl⟩ := List.getElem?_eq_some_iff.1 hs
      obtain ⟨b, off, e, hc⟩ := hk j hjl
      exact ⟨_, e, by rw [Addr.add_lit]; exact hc⟩)
    (fun u hu => by obtain ⟨s, _, rfl⟩ := List.mem_map.1 hu; rfl) (by unfold maxLen; omega) (by omega) hbase
  refine ⟨v', w', hr, ?_, hb, fun g cs t hn hB => (hg.block g hB.lt hn).trans hB, hg⟩
  unfold OwnS
  rw [List.length_append, List.map_append]
  exact ho
theorem owns_al {w : World} {base size : Nat} {e : TypeId} {v : Value} {n : Nat} {xs : List Value} (h : w.ownsRow base e size v n xs) (o : Obj) : (w.alloc o).ownsRow base e size v n xs := by
  refine ⟨h.1, ?_⟩
  rcases h.2 with h2 | ⟨g, cap, cur, hv, hb, hg, hr⟩
  · exact .inl h2
  · exact .inr ⟨g, cap, cur, hv, hb, by
      have hlt : g < w.heap.size := (Array.getElem?_eq_some_iff.1 hg).1
      exact ((below_alloc1 w o).block g hlt).trans hg, hr⟩
theorem OwnS.al {w : World} {base : Nat} {v : Value} {l : List ByteArray} (h : OwnS w base v l) (o : Obj) : OwnS (w.alloc o) base v l := owns_al h o
/-- Behind a call that lays blocks alone. -/
theorem OwnS.below {w w1 : World} {base : Nat} {v : Value} {l : List ByteArray} (h : OwnS w base v l) (hb : Below w.heap.size w w1) : OwnS w1 base v l := by
  refine ⟨h.1, ?_⟩
  rcases h.2 with h2 | ⟨g, cap, cur, hv, hb', hg, hr⟩
  · exact .inl h2
  · exact .inr ⟨g, cap, cur, hv, hb', by
      have hlt : g < w.heap.size := (Array.getElem?_eq_some_iff.1 hg).1
      exact (hb.block g hlt).trans hg, hr⟩
theorem strs_blk1 {w : World} {g : Nat} {s : ByteArray} {t : TypeId} (h : Blk w g #[.string s] t) : Strs w (some ⟨g, 0, none⟩) [s] := fun i hi => by
  obtain rfl : i = 0 := by simpa using hi
  exact ⟨g, 0, rfl, h.cell 0⟩
theorem strs_lit (w : World) (l : List ByteArray) (t : TypeId) {g : Nat} (hg : g = w.heap.size) : Strs (w.alloc (.cells (l.map Value.string).toArray t (0, 0))) (some ⟨g, 0, none⟩) l := fun i hi => by
  subst hg
  refine ⟨w.heap.size, 0, rfl, ?_⟩
  rw [Nat.zero_add, alloc_cell]
  simp [hi]
end Go.Proofs.YtkodepckfdpaiaaDoor
