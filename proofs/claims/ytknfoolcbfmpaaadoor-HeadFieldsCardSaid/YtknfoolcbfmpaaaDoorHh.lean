/- head.Read, to its first line; conditions: the library's bound lies where it is laid; the bytes can be read. -/
import Derived.Test.YtknfoolcbfmpaaaDoorHg
namespace Go.Proofs.YtknfoolcbfmpaaaDoor
set_option linter.unusedSimpArgs false
set_option linter.unusedVariables false
open Go.RowKit
theorem index_bytes (l k : List UInt8) : Lib.index (Lib.bytesOf (l.map fun b => (b.toNat : Int))) (Lib.bytesOf (k.map fun b => (b.toNat : Int))) = Lib.index l k := by
  have e : ∀ l : List UInt8, Lib.bytesOf (l.map fun b => (b.toNat : Int)) = l := fun l => by
    unfold Lib.bytesOf
    rw [List.map_map]
    conv => rhs; rw [← List.map_id l]
    refine List.map_congr_left fun b _ => ?_
    simp
  rw [e, e]
theorem nums_ok (l : List UInt8) : ∀ x ∈ l.map (fun b => (b.toNat : Int)), 0 ≤ x ∧ x < 256 := fun x hx => by
  obtain ⟨b, _, rfl⟩ := List.mem_map.1 hx
  have : b.toNat < 256 := b.toNat_lt
  omega
/-- bytes.Index of what ends a head. -/
theorem index_calls (g o c M : Nat) (l : List UInt8) (w : World) (hl : l.length ≤ c) (hc : l.length ≤ 100000) (hm : MaxL w) (hA : Bys w (some ⟨g, o, none⟩) l) (hE : Bys w (some ⟨M, 0, none⟩) endB) :
    Calls Tryd.prog 36 #[.slice (some ⟨g, o, none⟩) l.length c, .slice (some ⟨M, 0, none⟩) 4 4] w fun e w' => e = .returned (.int .i64 (Lib.index l endB)) ∧ ∃ q, w' = w.drewN q := by
  obtain ⟨m, hm⟩ := hm
  have h := Tryd.bytes_Index_at ⟨g, o, none⟩ ⟨M, 0, none⟩ l.length c 4 4 (l.map fun b => (b.toNat : Int)) (endB.map fun b => (b.toNat : Int)) m w (List.length_map _) rfl (nums_ok l) (nums_ok endB) (fun i hi => by
    obtain ⟨g', o', e, hcl⟩ := hA i hi
    cases e
    rw [Addr.add_lit, hcl, List.getD_eq_getElem?_getD, List.getElem?_map, List.getElem?_eq_getElem hi]; rfl) (fun i hi => by
    obtain ⟨g', o', e, hcl⟩ := hE i hi
    cases e
    rw [Addr.add_lit, hcl, List.getD_eq_getElem?_getD, List.getElem?_map, List.getElem?_eq_getElem hi]; rfl) hl (by omega) (by omega) hm
  rw [index_bytes] at h
  exact h
theorem Bys.take {w : World} {A : Option Addr} {l : List UInt8} (h : Bys w A l) (k : Nat) : Bys w A (l.take k) := fun i hi => by
  rw [List.length_take] at hi
  obtain ⟨b, off, e, hc⟩ := h i (by omega)
  exact ⟨b, off, e, by rw [List.getElem_take]; exact hc⟩
theorem strs_cells {w : World} {M : Nat} {l : List ByteArray} {cs : Array Value} {t : TypeId} (h : Blk w M cs t) (hc : ∀ i (hi : i < l.length), cs[i]? = some (.string l[i])) : Strs w (some ⟨M, 0, none⟩) l := fun i hi => by
  refine ⟨M, 0, rfl, ?_⟩
  rw [Nat.zero_add, h.cell, hc i hi]
/-- strings.Split at line ends. -/
theorem split_calls (s : ByteArray) (w : World) (hs : s.size ≤ 100000) (hm : MaxL w) :
    Calls Tryd.prog 37 #[.string s, .string ⟨#[13, 10]⟩] w fun e w' => ∃ (l0 : ByteArray) (ls : List ByteArray), e = .returned (.slice (some ⟨w.heap.size, 0, none⟩) (ls.length + 1) (ls.length + 1)) ∧ ls.length ≤ 100000 ∧ (∀ x ∈ l0 :: ls, x.size ≤ s.size) ∧ Hid (Lib.split (bs s) [13, 10] = bs l0 :: bss ls) ∧ Strs w' (some ⟨w.heap.size, 0, none⟩) (l0 :: ls) ∧ Below w.heap.size w w' := by
  obtain ⟨m, hm⟩ := hm
  refine (Tryd.strings_Split s ⟨#[13, 10]⟩ m w (by omega) hm (by decide)).mono ?_
  rintro e w' ⟨rfl, rfl⟩
  have h1 := Lib.splitB_all ⟨#[13, 10]⟩ (by decide) 0 (Lib.countB s ⟨#[13, 10]⟩) s rfl
  have h2 := Lib.countB_le ⟨#[13, 10]⟩ (by decide) s.size s (Nat.le_refl _)
  have h3 := splitB_size ⟨#[13, 10]⟩ (Lib.countB s ⟨#[13, 10]⟩) s
  have h4 : (Lib.splitB ⟨#[13, 10]⟩ 0 (Lib.countB s ⟨#[13, 10]⟩) s).map bs = Lib.split (bs s) [13, 10] := Lib.splitB_data ⟨#[13, 10]⟩ 0 (Lib.countB s ⟨#[13, 10]⟩) s
  have hst : Strs (w.alloc (.cells ((Lib.splitB ⟨#[13, 10]⟩ 0 (Lib.countB s ⟨#[13, 10]⟩) s).map Value.string).toArray 9)) (some ⟨w.heap.size, 0, none⟩) (Lib.splitB ⟨#[13, 10]⟩ 0 (Lib.countB s ⟨#[13, 10]⟩) s) := strs_lit w _ _ rfl
  generalize Lib.splitB ⟨#[13, 10]⟩ 0 (Lib.countB s ⟨#[13, 10]⟩) s = r at h1 h3 h4 hst ⊢
  cases r with
  | nil => simp at h1
  | cons l0 ls =>
    have hl : ls.length = Lib.countB s ⟨#[13, 10]⟩ := by simpa using h1
    exact ⟨l0, ls, by rw [hl], by omega, h3, Lib.hid h4.symm, hst, below_alloc1 _ _⟩
/-- strings.SplitN of a first line. -/
theorem splitN_calls (s : ByteArray) (w : World) (hs : s.size ≤ 100000) (hm : MaxL w) :
    Calls Tryd.prog 38 #[.string s, .string ⟨#[32]⟩, .int .i64 3] w fun e w' => ∃ (r : List ByteArray) (c : Nat), e = .returned (.slice (some ⟨w.heap.size, 0, none⟩) r.length c) ∧ r.length ≤ 3 ∧ (∀ x ∈ r, x.size ≤ s.size) ∧ Hid (Lib.splitN (bs s) [32] 3 = bss r) ∧ Strs w' (some ⟨w.heap.size, 0, none⟩) r ∧ Below w.heap.size w w' := by
  obtain ⟨m, hm⟩ := hm
  refine (Tryd.strings_SplitN s ⟨#[32]⟩ 3 m w (by omega) hm (by decide) (by decide) (by decide)).mono ?_
  rintro e w' ⟨rfl, rfl⟩
  have h2 := Lib.splitB_length_le ⟨#[32]⟩ 0 (min 3 (s.size + 1) - 1) s
  have h3 := splitB_size ⟨#[32]⟩ (min 3 (s.size + 1) - 1) s
  have h4 : (Lib.splitB ⟨#[32]⟩ 0 (min 3 (s.size + 1) - 1) s).map bs = Lib.splitN (bs s) [32] 3 := by
    refine (Lib.splitB_data ⟨#[32]⟩ 0 (min 3 (s.size + 1) - 1) s).trans ?_
    unfold Lib.splitN
    rw [bs_length]
  refine ⟨_, _, rfl, by omega, h3, Lib.hid h4.symm, strs_cells (cs := Lib.cellsOf (Lib.splitB ⟨#[32]⟩ 0 (min 3 (s.size + 1) - 1) s) (min 3 (s.size + 1))) (t := 9) (Blk.new' w _ _ rfl) fun i hi => ?_, below_alloc1 _ _⟩
  unfold Lib.cellsOf
  rw [List.getElem?_toArray, List.getElem?_append_left (by simpa using hi), List.getElem?_map, List.getElem?_eq_getElem hi]; rfl
@[reducible] def hCells (a b c : ByteArray) (v : Value) : Array Value := #[.string a, .string b, .string c, v]
theorem Strs.belowB {w w1 : World} {M o B : Nat} {l : List ByteArray} (h : Strs w (some ⟨M, o, none⟩) l) (hM : M < B) (hb : Below B w w1) : Strs w1 (some ⟨M, o, none⟩) l := fun i hi => by
  obtain ⟨b, off, e, hc⟩ := h i hi
  cases e
  exact ⟨M, o, rfl, ((bcell hb).1 M _ hM).trans hc⟩
theorem Strs.setCell {w : World} {M o K j : Nat} {l : List ByteArray} (h : Strs w (some ⟨M, o, none⟩) l) (hM : M ≠ K) (v : Value) : Strs (w.setCell ⟨K, j, none⟩ v) (some ⟨M, o, none⟩) l := fun i hi => by
  obtain ⟨b, off, e, hc⟩ := h i hi
  cases e
  exact ⟨M, o, rfl, (World.cell?_setCell_other _ _ _ _ (fun e => hM (congrArg Addr.block e).symm)).trans hc⟩
theorem MaxL.belowB {w w1 : World} {B : Nat} (h : MaxL w) (hB : 0 < B) (hb : Below B w w1) : MaxL w1 := by
  obtain ⟨m, hm⟩ := h
  exact ⟨m, ((bcell hb).1 0 0 hB).trans hm⟩
theorem MaxL.setCell {w : World} {K j : Nat} (h : MaxL w) (hK : 0 ≠ K) (v : Value) : MaxL (w.setCell ⟨K, j, none⟩ v) := by
  obtain ⟨m, hm⟩ := h
  exact ⟨m, (World.cell?_setCell_other _ _ _ _ (fun e => hK (congrArg Addr.block e).symm)).trans hm⟩
/-- What an append of one field leaves. -/
structure AppF (base : Nat) (w : World) (fs : List Fd) (f : Fd) (v' : Value) (w' : World) : Prop where
  own : OwnF w' base v' (fs ++ [f])
  be : Below base w w'
theorem fds_blk1 {w : World} {g : Nat} {f : Fd} {t : TypeId} (h : Blk w g f.cells t) : Fds w (some ⟨g, 0, none⟩) [f] := fun i hi => by
  obtain rfl : i = 0 := by simpa using hi
  exact ⟨g, 0, rfl, h.cell 0, h.cell 1⟩
theorem OwnF.app1 {w : World} {base : Nat} {v : Value} {fs : List Fd} (h : OwnF w base v fs) (ty : TypeId) (g : Nat) (f : Fd) {tt : TypeId} (hg : Blk w g f.cells tt) (hn : fs.length + 1 ≤ 1000000) (hbase : base ≤ w.heap.size) :
    ∃ v' w', (Builtin.append_ #[23, 23] ty #[v, .slice (some ⟨g, 0, none⟩) 1 1]).run Tryd.prog w = .ok v' w' ∧ AppF base w fs f v' w' := by
  obtain ⟨v', w', h1, h2, h3, _⟩ := OwnF.app h ty (some ⟨g, 0, none⟩) [f] 1 (fds_blk1 hg) (by simpa using hn) hbase
  exact ⟨v', w', h1, h2, h3⟩
/-- While Read goes through the lines. -/
structure LS (w : World) (M1 H : Nat) (ls : List ByteArray) (a b c : ByteArray) (v : Value) (fs : List Fd) (wx : World) : Prop where
  be : Below w.heap.size w wx
  rb : Blk wx w.heap.size (hCells ⟨#[]⟩ ⟨#[]⟩ ⟨#[]⟩ (.slice none 0 0)) 25
  hb : Blk wx H (hCells a b c v) 25
  ow : OwnF wx (H + 1) v fs
  mx : MaxL wx
  st : Strs wx (some ⟨M1, 1, none⟩) ls
  lt : w.heap.size < H
  lm : M1 < H
theorem LS.below {w wx w1 : World} {M1 H : Nat} {ls : List ByteArray} {a b c : ByteArray} {v : Value} {fs : List Fd} (h : LS w M1 H ls a b c v fs wx) (hb : Below wx.heap.size wx w1) : LS w M1 H ls a b c v fs w1 :=
  ⟨bt h.be hb, h.rb.below hb, h.hb.below hb, h.ow.below hb, h.mx.below hb, h.st.below hb, h.lt, h.lm⟩
theorem LS.al {w wx : World} {M1 H : Nat} {ls : List ByteArray} {a b c : ByteArray} {v : Value} {fs : List Fd} (h : LS w M1 H ls a b c v fs wx) (o : Obj) : LS w M1 H ls a b c v fs (wx.alloc o) := h.below (below_alloc1 _ _)
theorem LS.hb2 {w wx w2 : World} {M1 H : Nat} {ls : List ByteArray} {a b c : ByteArray} {v v2 : Value} {fs : List Fd} {f : Fd} (h : LS w M1 H ls a b c v fs wx) (hF : AppF (H + 1) wx fs f v2 w2) : Blk w2 H (hCells a b c v) 25 := (hF.be.block _ (by omega)).trans h.hb
theorem LS.push {w wx w2 : World} {M1 H : Nat} {ls : List ByteArray} {a b c : ByteArray} {v v2 : Value} {fs : List Fd} {f : Fd} (h : LS w M1 H ls a b c v fs wx) (hF : AppF (H + 1) wx fs f v2 w2) : LS w M1 H ls a b c v2 (fs ++ [f]) (w2.setCell ⟨H, 3, none⟩ v2) := by
  have hlt := h.lt
  have hlm := h.lm
  have hrb : Blk w2 w.heap.size (hCells ⟨#[]⟩ ⟨#[]⟩ ⟨#[]⟩ (.slice none 0 0)) 25 := (hF.be.block _ (by omega)).trans h.rb
  have hhb : Blk w2 H (hCells a b c v) 25 := (hF.be.block _ (by omega)).trans h.hb
  exact ⟨below_set (h.be.trans (hF.be.mono (by omega))) (by omega) 3 _, hrb.far (by omega) 3 _, (hhb.set 3 v2), hF.own.set (Nat.lt_succ_self H) 3 _, (h.mx.belowB (by omega) hF.be).setCell (by omega) _, (h.st.belowB (by omega) hF.be).setCell (by omega) _, hlt, hlm⟩
end Go.Proofs.YtknfoolcbfmpaaaDoor
