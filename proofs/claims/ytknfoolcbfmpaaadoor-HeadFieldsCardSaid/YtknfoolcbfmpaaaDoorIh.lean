/- The law HeadFields: the walk; conditions: the fields can be read, strings of lengths that a world can hold; the library's bound lies where it is laid. -/
import Derived.Test.YtknfoolcbfmpaaaDoorIg
import Derived.Deep.RegionHeld3
import Derived.BigQuiet
namespace Go.Proofs.YtknfoolcbfmpaaaDoor
set_option linter.unusedSimpArgs false
set_option linter.unusedVariables false
open Go.RowKit
/-- While the fields are copied: the call's own head lies at K. -/
structure FW (w W : World) (K : Nat) (a b c : ByteArray) (wx : World) : Prop where
  bw : Below w.heap.size w wx
  be : Below K W wx
  ks : K + 1 ≤ wx.heap.size
  wk : w.heap.size ≤ K
  kb : ∃ v, Blk wx K (hCells a b c v) 25
theorem FW.drew {w W wx : World} {K : Nat} {a b c : ByteArray} (h : FW w W K a b c wx) : FW w W K a b c wx.drew := ⟨below_drew1 h.bw, below_drew1 h.be, h.ks, h.wk, h.kb⟩
theorem FW.al {w W wx : World} {K : Nat} {a b c : ByteArray} (h : FW w W K a b c wx) (o : Obj) : FW w W K a b c (wx.alloc o) :=
  ⟨below_al h.bw o, h.be.alloc (by have := h.ks; omega) o, by have := h.ks; simp; omega, h.wk, by obtain ⟨v, hv⟩ := h.kb; exact ⟨v, hv.alloc o⟩⟩
theorem FW.app {w W wx w2 : World} {K : Nat} {a b c : ByteArray} (h : FW w W K a b c wx) (hb : Below (K + 1) wx w2) : FW w W K a b c w2 :=
  ⟨h.bw.trans (hb.mono (by have := h.wk; omega)), h.be.trans (hb.mono (by omega)), by have := h.ks; have := hb.size; omega, h.wk, by obtain ⟨v, hv⟩ := h.kb; exact ⟨v, (hb.block K (by omega)).trans hv⟩⟩
theorem FW.set {w W wx : World} {K : Nat} {a b c : ByteArray} (h : FW w W K a b c wx) (v : Value) : FW w W K a b c (wx.setCell ⟨K, 3, none⟩ v) :=
  ⟨below_set h.bw h.wk 3 v, below_set h.be (Nat.le_refl _) 3 v, by have := h.ks; simpa using this, h.wk, by obtain ⟨u, hu⟩ := h.kb; exact ⟨v, hu.set 3 v⟩⟩
theorem keepF {w W wx : World} {K N : Nat} {a b c : ByteArray} {V : Value} {x y : ByteArray} (h : Hid (FW w W K a b c wx)) (hN : N + 1 < K) (h3 : W.cell? ⟨N, 3, none⟩ = some V) (g0 : W.cell? ⟨N + 1, 0, none⟩ = some (.string x)) (g1 : W.cell? ⟨N + 1, 1, none⟩ = some (.string y)) :
    wx.cell? ⟨N, 3, none⟩ = some V ∧ wx.cell? ⟨N + 1, 0, none⟩ = some (.string x) ∧ wx.cell? ⟨N + 1, 1, none⟩ = some (.string y) ∧ Hid (FW w W K a b c wx) := by
  have hc := (bcell h.out.be).1
  exact ⟨(hc _ _ (by omega)).trans h3, (hc _ _ hN).trans g0, (hc _ _ hN).trans g1, h⟩
theorem getF_snoc (n : ByteArray) (l : List Fd) (f : Fd) : getF n (l ++ [f]) = getF n l ++ if sameB (bs f.nm) (bs n) then [f.vl] else [] := by
  unfold getF
  rw [List.filter_append, List.map_append]
  congr 1
  rw [List.filter_cons]
  split <;> rfl
theorem keepG2 {h g : Hd} {W wx : World} {N K : Nat} (HA : h.At W N) (HG : g.At W K) (hb : Hid (Below W.heap.size W wx)) :
    wx.cell? ⟨N, 0, none⟩ = some (.string h.a) ∧ wx.cell? ⟨N, 1, none⟩ = some (.string h.b) ∧ wx.cell? ⟨N, 2, none⟩ = some (.string h.c) ∧ wx.cell? ⟨N, 3, none⟩ = some (.slice h.A h.fs.length h.k) ∧
    wx.cell? ⟨K, 0, none⟩ = some (.string g.a) ∧ wx.cell? ⟨K, 1, none⟩ = some (.string g.b) ∧ wx.cell? ⟨K, 2, none⟩ = some (.string g.c) ∧ wx.cell? ⟨K, 3, none⟩ = some (.slice g.A g.fs.length g.k) ∧ Hid (Below W.heap.size W wx) := by
  obtain ⟨f0, f1, f2, f3⟩ := HA.below hb.out
  obtain ⟨g0, g1, g2, g3⟩ := HG.below hb.out
  exact ⟨f0, f1, f2, f3, g0, g1, g2, g3, hb⟩
theorem keepG3 {a b c x y z : ByteArray} {A B : Option Addr} {k j : Nat} {l : List Fd} {f : Fd} {W wx : World} {N K : Nat} (HA : (Hd.mk a b c A k l).At W N) (HG : (Hd.mk x y z B j (l ++ [f])).At W K) (hb : Hid (Below W.heap.size W wx)) :
    wx.cell? ⟨N, 0, none⟩ = some (.string a) ∧ wx.cell? ⟨N, 1, none⟩ = some (.string b) ∧ wx.cell? ⟨N, 2, none⟩ = some (.string c) ∧ wx.cell? ⟨N, 3, none⟩ = some (.slice A l.length k) ∧
    wx.cell? ⟨K, 0, none⟩ = some (.string x) ∧ wx.cell? ⟨K, 1, none⟩ = some (.string y) ∧ wx.cell? ⟨K, 2, none⟩ = some (.string z) ∧ wx.cell? ⟨K, 3, none⟩ = some (.slice B (l.length + 1) j) ∧ Hid (Below W.heap.size W wx) := by
  have h := keepG2 HA HG hb
  simp only [List.length_append, List.length_cons, List.length_nil, Nat.zero_add] at h
  exact h
theorem at_of_blkF {W : World} {K : Nat} {a b c : ByteArray} {A : Option Addr} {k n : Nat} {l : List Fd} {t : TypeId} (h : Blk W K (hCells a b c (.slice A n k)) t) (hn : n = l.length) : (Hd.mk a b c A k l).At W K := by
  subst hn
  exact ⟨(h.cell 0).trans rfl, (h.cell 1).trans rfl, (h.cell 2).trans rfl, (h.cell 3).trans rfl⟩
theorem OwnF.new' (w : World) {g base : Nat} (hg : g = w.heap.size) (hb : base ≤ w.heap.size) : OwnF (w.alloc (.cells #[] 48 (0, 0))) base (.slice (some ⟨g, 0, none⟩) 0 0) [] := by
  subst hg; exact World.ownsRow_lit w #[] 0 hb (Nat.zero_le _) rfl
theorem Hd.At.belowB {h : Hd} {w w1 : World} {N B : Nat} (k : h.At w N) (hN : N < B) (hb : Below B w w1) : h.At w1 N := by
  have hc := (bcell hb).1 N
  exact ⟨(hc _ hN).trans k.f0, (hc _ hN).trans k.f1, (hc _ hN).trans k.f2, (hc _ hN).trans k.f3⟩
theorem few_50 {h : Hd} (e : fewB h = true) : h.fs.length ≤ 50 := by
  unfold fewB at e
  simp only [Bool.and_eq_true, decide_eq_true_eq] at e
  exact e.2.1.1.1
theorem Strs.takeS {w : World} {A : Option Addr} {l m : List ByteArray} (h : Strs w A (l ++ m)) : Strs w A l := fun i hi => by
  obtain ⟨b, off, e, hc⟩ := h i (by rw [List.length_append]; omega)
  exact ⟨b, off, e, by rw [List.getElem_append_left hi] at hc; exact hc⟩
end Go.Proofs.YtknfoolcbfmpaaaDoor
