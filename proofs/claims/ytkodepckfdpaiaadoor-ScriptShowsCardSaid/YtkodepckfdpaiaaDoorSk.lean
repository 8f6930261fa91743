/- The deeds' text, by the program: the builder's WriteString, and Show; conditions: the deeds lie in memory, within the types; the world holds what the library's numbers lean on. -/
import Derived.Test.YtkodepckfdpaiaaDoorSj
import Derived.Test.YtkodepckfdpaiaaDoorShelf
import Derived.Lib.Builder
import Derived.Laws.Externs
import Derived.Laws.AppendOwn
import Derived.Shelf.Strings.Builder1
namespace Go.Proofs.YtkodepckfdpaiaaDoor
set_option linter.unusedSimpArgs false
set_option linter.unusedVariables false
open Go.RowKit
theorem info_bld : (Tryd.prog.info? 51).map (·.size) = some 2 := by kernel_rfl
theorem lies_bld : liesAt Tryd.prog Tryd.prog.depth 51 (2 / Tryd.prog.cellsOf 51) 0 51 1 = true := by kernel_rfl
abbrev BAt (B b : Nat) (p : Value) (bs : List Value) (w : World) : Prop := Lib.BuilderAt 51 5 B b p bs w
abbrev IsB (B b : Nat) (bs : List Value) (w : World) : Prop := Lib.IsBuilder 51 5 B b bs w
set_option maxHeartbeats 1000000 in
set_option maxRecDepth 100000 in
theorem copyCheck_used (b : Nat) (w : World) (h0 : w.cell? ⟨b, 0, none⟩ = some (.pointer (some ⟨b, 0, none⟩))) :
    Calls Tryd.prog 37 #[.pointer (some ⟨b, 0, none⟩)] w fun e w' => e = .returned (.tuple #[]) ∧ w' = w := by
  obtain ⟨j, hj, _⟩ := Option.map_eq_some_iff.1 info_bld
  go_enter Tryd.func37, Tryd.ntmps37
  go_wp2
  rw [Lib.run_neq_ptr_same w _ Tryd.underlying48 hj]
  go_wp2
  go_end0
  exact ⟨rfl, rfl⟩
set_option maxHeartbeats 1000000 in
set_option maxRecDepth 100000 in
theorem copyCheck_fresh (b : Nat) (w : World) (h0 : w.cell? ⟨b, 0, none⟩ = some (.pointer none)) (hsh : w.shape? b = some (51, 2)) (hfz : w.frozen? ⟨b, 0, none⟩ = false) :
    Calls Tryd.prog 37 #[.pointer (some ⟨b, 0, none⟩)] w fun e w' => e = .returned (.tuple #[]) ∧ w' = w.setCell ⟨b, 0, none⟩ (.pointer (some ⟨b, 0, none⟩)) := by
  obtain ⟨j, hj, hjs⟩ := Option.map_eq_some_iff.1 info_bld
  go_enter Tryd.func37, Tryd.ntmps37
  go_wp2
  rw [Lib.run_to_unsafe w ⟨b, 0, none⟩ Tryd.underlying48 Tryd.underlying76 hj (by rw [hjs]; decide) hsh (Nat.zero_lt_succ 1)]
  simp only [Result.andThen]
  rw [Oper.upon_value]
  go_wp2
  rw [run_callFunc_extern Tryd.func48 (by kernel_rfl) (by kernel_rfl) (by kernel_rfl) (e := Extern.AbiNoEscape.same) (by kernel_rfl)]
  rw [Lib.run_noEscape]
  simp only [Result.andThen]
  rw [Oper.upon_value]
  go_wp2
  rw [Lib.run_from_unsafe w ⟨b, 0, none⟩ Tryd.underlying76 Tryd.underlying48 hj hsh lies_bld]
  simp only [Result.andThen]
  rw [Oper.upon_value]
  go_wp2
  go_end0
  exact ⟨rfl, rfl⟩
/-- Behind copyCheck the builder is used; no other block is touched. -/
theorem copyCheck_calls (B b : Nat) (bs : List Value) (w : World) (h : IsB B b bs w) :
    Calls Tryd.prog 37 #[.pointer (some ⟨b, 0, none⟩)] w fun e w' => e = .returned (.tuple #[]) ∧ BAt B b (.pointer (some ⟨b, 0, none⟩)) bs w' ∧ Below B w w' ∧ ∀ k, k ≠ b → w'.heap[k]? = w.heap[k]? := by
  rcases h with h | h
  · refine (copyCheck_fresh b w h.cell0 h.shape h.frozen0).mono ?_
    rintro e w' ⟨rfl, rfl⟩
    refine ⟨rfl, h.used _, (Below.refl B w).setCell (p := ⟨b, 0, none⟩) h.1 _, fun k hk => ?_⟩
    unfold World.setCell
    simp [Array.getElem?_modify, Ne.symm hk]
  · refine (copyCheck_used b w h.cell0).mono ?_
    rintro e w' ⟨rfl, rfl⟩
    exact ⟨rfl, h, Below.refl B _, fun _ _ => rfl⟩
theorem IsB.below {B b : Nat} {bs : List Value} {w0 w : World} (h : IsB B b bs w0) (hb : Below w0.heap.size w0 w) : IsB B b bs w := by
  have key : ∀ p, BAt B b p bs w0 → BAt B b p bs w := fun p hp => by
    have hlt := hp.lt
    obtain ⟨h1, v, h2, h3, h4⟩ := hp
    refine ⟨h1, v, (hb.block b hlt).trans h2, ?_, h4⟩
    refine ⟨h3.1, ?_⟩
    rcases h3.2 with h5 | ⟨g', cap, cur, e, hbg, hgg, hr⟩
    · exact .inl h5
    · exact .inr ⟨g', cap, cur, e, hbg, (hb.block g' (Array.getElem?_eq_some_iff.1 hgg).1).trans hgg, hr⟩
  rcases h with h | h
  · exact .inl (key _ h)
  · exact .inr (key _ h)
set_option maxHeartbeats 2000000 in
set_option maxRecDepth 100000 in
theorem WriteString_calls (B b : Nat) (bs : List Value) (s : ByteArray) (w : World) (h : IsB B b bs w) (hlen : bs.length + s.size ≤ 1000000000) (hBw : B ≤ w.heap.size) :
    Calls Tryd.prog 23 #[.pointer (some ⟨b, 0, none⟩), .string s] w fun e w' => e = .returned (.tuple #[.int .i64 s.size, .nilIface]) ∧ IsB B b (bs ++ Lib.strCells s) w' ∧ Below B w w' := by
  obtain ⟨i0, hi, hz0, hz1, hz2⟩ := info_parts info_byte
  go_enter Tryd.func23, Tryd.ntmps23
  go_wp2_with (go_at_call 37; refine (copyCheck_calls B b bs w h).mono ?_)
  rintro e w1 ⟨rfl, h1', hb1, _⟩
  obtain ⟨hB, v, hbk, hown, hne⟩ := h1'
  have c0 : w1.cell? ⟨b, 0, none⟩ = some (.pointer (some ⟨b, 0, none⟩)) := by rw [Lib.cell_of_heap hbk]; rfl
  have c1 : w1.cell? ⟨b, 1, none⟩ = some v := by rw [Lib.cell_of_heap hbk]; rfl
  clear h
  go_wp2_with (at_builtin; refine Lib.wpList_append_own_string _ rfl _ _ 49 9 rfl B 5 i0 Tryd.underlying49 Tryd.underlying9 hi hz0 hz1 hz2 _ _ _ rfl hown s rfl ?c3 ?c4 ?c5 ?_)
  case c3 => unfold maxLen; omega
  case c4 => omega
  case c5 => have := hb1.size; omega
  intro v' w2 hown' hgrow _
  have hlt : b < w1.heap.size := (Array.getElem?_eq_some_iff.1 hbk).1
  have hb2 : w2.heap[b]? = some (.cells #[.pointer (some ⟨b, 0, none⟩), v] 51 (0, 0)) := by
    rw [hgrow.block b hlt (fun e => hne e.symm)]
    exact hbk
  have d0 : w2.cell? ⟨b, 0, none⟩ = some (.pointer (some ⟨b, 0, none⟩)) := by rw [Lib.cell_of_heap hb2]; rfl
  have d1 : w2.cell? ⟨b, 1, none⟩ = some v := by rw [Lib.cell_of_heap hb2]; rfl
  have f1 : w2.frozen? ⟨b, 1, none⟩ = false := Lib.frozen_of_heap hb2 1
  obtain ⟨ao, n', cap, rfl⟩ : ∃ ao n' cap, v' = .slice ao n' cap := by
    rcases hown'.2 with ⟨hv, _⟩ | ⟨g, cap, cur, hv, _⟩
    · exact ⟨_, _, _, hv⟩
    · exact ⟨_, _, _, hv⟩
  go_wp2
  go_ret2
  refine ⟨rfl, ?_, ?_⟩
  · exact .inr (Lib.BuilderAt.put (T := 51) (e := 5) hB hb2 (bs' := bs ++ Lib.strCells s) (by simpa [Lib.strCells_length] using hown') (by decide))
  · exact (hb1.grown hgrow (by have := hb1.size; omega) (fun k hk => (hown.lt k hk).1)).setCell (p := ⟨b, 1, none⟩) hB _
/-- A slice of deeds that is read. -/
def Dds (w : World) (A : Option Addr) (l : List Dd) : Prop := ∀ i (h : i < l.length), ∃ b off, A = some ⟨b, off, none⟩ ∧
  w.cell? ⟨b, off + i * 6, none⟩ = some (.string l[i].k) ∧ w.cell? ⟨b, off + i * 6 + 1, none⟩ = some (.int .i64 l[i].i) ∧ w.cell? ⟨b, off + i * 6 + 2, none⟩ = some (.int .i64 l[i].s) ∧
  w.cell? ⟨b, off + i * 6 + 3, none⟩ = some (.int .i64 l[i].n) ∧ w.cell? ⟨b, off + i * 6 + 4, none⟩ = some (.bool l[i].o) ∧ w.cell? ⟨b, off + i * 6 + 5, none⟩ = some (.string l[i].d)
theorem Dds.below {w w1 : World} {A : Option Addr} {l : List Dd} (h : Dds w A l) (hb : Below w.heap.size w w1) : Dds w1 A l := fun i hi => by
  obtain ⟨b, off, e, h0, h1, h2, h3, h4, h5⟩ := h i hi
  have hc := (bcell hb).1 b
  exact ⟨b, off, e, (hc _ (cell_lt h0)).trans h0, (hc _ (cell_lt h1)).trans h1, (hc _ (cell_lt h2)).trans h2, (hc _ (cell_lt h3)).trans h3, (hc _ (cell_lt h4)).trans h4, (hc _ (cell_lt h5)).trans h5⟩
end Go.Proofs.YtkodepckfdpaiaaDoor
