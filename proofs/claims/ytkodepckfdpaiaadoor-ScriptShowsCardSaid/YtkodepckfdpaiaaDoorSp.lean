/- Rows of deeds of the call's own; facts ahead of Read's walk. -/
import Derived.Test.YtkodepckfdpaiaaDoorSo
import Derived.Lib.IndexMore
namespace Go.Proofs.YtkodepckfdpaiaaDoor
set_option linter.unusedSimpArgs false
set_option linter.unusedVariables false
open Go.RowKit
def flatD (l : List Dd) : List Value := l.flatMap fun d => d.cells.toList
theorem flatD_len (l : List Dd) : (flatD l).length = l.length * 6 := by
  induction l with
  | nil => rfl
  | cons d l ih => rw [flatD, List.flatMap_cons, List.length_append]; unfold flatD at ih; rw [ih]; simp; omega
theorem flatD_app (a b : List Dd) : flatD (a ++ b) = flatD a ++ flatD b := List.flatMap_append
theorem flatD_get (l : List Dd) (i j : Nat) (h : i < l.length) (hj : j < 6) : (flatD l)[i * 6 + j]? = l[i].cells[j]? := by
  induction l generalizing i with
  | nil => exact absurd h (Nat.not_lt_zero _)
  | cons d l ih =>
    have e : flatD (d :: l) = d.cells.toList ++ flatD l := rfl
    have hl : d.cells.toList.length = 6 := rfl
    cases i with
    | zero =>
      rw [e, Nat.zero_mul, Nat.zero_add, List.getElem?_append_left (by rw [hl]; exact hj)]
      exact Array.getElem?_toList
    | succ i =>
      rw [e, List.getElem?_append_right (by rw [hl]; omega), hl, show (i + 1) * 6 + j - 6 = i * 6 + j by omega]
      exact ih i (by simpa using h)
theorem info_ded : (Tryd.prog.info? 27).map (fun i => (i.zero, i.size, i.bytes)) = some (some (.agg zeroC), 6, 64) := by kernel_rfl
/-- A row of deeds of the call's own. -/
def OwnD (w : World) (base : Nat) (v : Value) (l : List Dd) : Prop := w.ownsRow base 27 6 v l.length (flatD l)
theorem OwnD.nil (w : World) (base : Nat) : OwnD w base (.slice none 0 0) [] := World.ownsRow_nil _ _ _ _
theorem OwnD.al {w : World} {base : Nat} {v : Value} {l : List Dd} (h : OwnD w base v l) (o : Obj) : OwnD (w.alloc o) base v l := owns_al h o
theorem OwnD.below {w w1 : World} {base : Nat} {v : Value} {l : List Dd} (h : OwnD w base v l) (hb : Below w.heap.size w w1) : OwnD w1 base v l := by
  refine ⟨h.1, ?_⟩
  rcases h.2 with h2 | ⟨g, cap, cur, hv, hb', hg, hr⟩
  · exact .inl h2
  · exact .inr ⟨g, cap, cur, hv, hb', by
      have hlt : g < w.heap.size := (Array.getElem?_eq_some_iff.1 hg).1
      exact (hb.block g hlt).trans hg, hr⟩
theorem OwnD.form {w : World} {base : Nat} {v : Value} {l : List Dd} (h : OwnD w base v l) : ∃ A c, v = .slice A l.length c ∧ l.length ≤ c ∧ c ≤ maxLen ∧ Dds w A l := by
  rcases h.2 with ⟨rfl, h0⟩ | ⟨g, cap, cur, rfl, hb, hg, hnc, hcm, hcs, htake⟩
  · refine ⟨none, 0, by rw [h0], by omega, Nat.zero_le _, fun i hi => by omega⟩
  · have hl : (flatD l).length = l.length * 6 := flatD_len l
    refine ⟨some ⟨g, 0, none⟩, cap, rfl, hnc, hcm, fun i hi => ⟨g, 0, rfl, ?_⟩⟩
    have hg6 := fun j (hj : j < 6) => (World.ownsRow.cellAt (w := w) (g := g) h (i * 6 + j) (by omega)).trans (flatD_get l i j hi hj)
    rw [Nat.zero_add]
    exact ⟨hg6 0 (by decide), hg6 1 (by decide), hg6 2 (by decide), hg6 3 (by decide), hg6 4 (by decide), hg6 5 (by decide)⟩
structure AppD (base : Nat) (w : World) (ds : List Dd) (d : Dd) (v' : Value) (w' : World) : Prop where
  own : OwnD w' base v' (ds ++ [d])
  be : Below base w w'
theorem OwnD.app1 {w : World} {base : Nat} {v : Value} {l : List Dd} (h : OwnD w base v l) (ty : TypeId) (g : Nat) (d : Dd) {tt : TypeId} (hg : Blk w g d.cells tt) (hn : l.length + 1 ≤ 1000000) (hbase : base ≤ w.heap.size) :
    ∃ v' w', (Builtin.append_ #[22, 22] ty #[v, .slice (some ⟨g, 0, none⟩) 1 1]).run Tryd.prog w = .ok v' w' ∧ AppD base w l d v' w' := by
  obtain ⟨i0, hi0, hz0, hz1, hz2⟩ := info_parts info_ded
  obtain ⟨v', w', hr, ho, hb, _⟩ := run_app (P := Tryd.prog) w base 22 ty 27 i0 _ 6 64 Tryd.underlying22 hi0 hz0 hz1 hz2 rfl (by omega) v l.length _ h (some ⟨g, 0, none⟩) 1 1 (flatD [d]) (flatD_len [d])
    (fun j u hj => ⟨_, rfl, by
      rw [Addr.add_lit, Nat.zero_add, hg.cell]
      have e : flatD [d] = d.cells.toList := by simp [flatD]
      rw [e] at hj
      rw [← hj]
      exact Array.getElem?_toList.symm⟩)
    (fun u hu => by
      have e : flatD [d] = d.cells.toList := by simp [flatD]
      rw [e] at hu
      simp only [List.mem_cons, List.not_mem_nil, or_false] at hu
      rcases hu with rfl | rfl | rfl | rfl | rfl | rfl <;> rfl) (by unfold maxLen; omega) (by omega) hbase
  refine ⟨v', w', hr, ?_, hb⟩
  unfold OwnD
  rw [List.length_append, flatD_app]
  exact ho
/-- A line is right. -/
def okL (s : By) : Bool := checkD (parseB (Lib.cut s [10]).1) && (textD (parseB (Lib.cut s [10]).1)).isPrefixOf s
/-- What is left to be read. -/
def RI (s : By) (f : Nat) (ds : List Dd) (r : By) : Prop := readD s = match readF f (ds.length + 1) r with
  | .ok l => .ok (dps ds ++ l)
  | .error n => .error n
theorem ri_start (s : By) : RI s s.length [] s := by
  unfold RI readD
  cases readF s.length 1 s <;> rfl
theorem ri_end {s : By} {f : Nat} {ds : List Dd} (h : RI s f ds []) : readD s = .ok (dps ds) := by
  have : readF f (ds.length + 1) [] = .ok [] := by cases f <;> rfl
  unfold RI at h
  rw [this] at h
  rw [h]
  show Except.ok (dps ds ++ []) = _
  rw [List.append_nil]
theorem ri_bad {s r : By} {f : Nat} {ds : List Dd} (h : RI s (f + 1) ds r) (hr : r ≠ []) (hb : okL r = false) : readD s = .error (ds.length + 1) := by
  unfold okL at hb
  unfold RI at h
  rw [readF, if_neg hr, if_neg (by rw [hb]; decide)] at h
  exact h
theorem ri_step {s r : By} {f : Nat} {ds : List Dd} {d : Dd} (h : RI s (f + 1) ds r) (hr : r ≠ []) (hb : okL r = true) (hd : d.dp = parseB (Lib.cut r [10]).1) : RI s f (ds ++ [d]) (Lib.cut r [10]).2.1 := by
  unfold okL at hb
  unfold RI at h ⊢
  rw [readF, if_neg hr, if_pos hb, ← hd] at h
  rw [h, List.length_append, List.length_singleton]
  cases readF f (ds.length + 1 + 1) (Lib.cut r [10]).2.1 with
  | error n => rfl
  | ok l => simp only [dps, List.map_append, List.map_cons, List.map_nil, List.append_assoc, List.cons_append, List.nil_append]
theorem cut_fst (s sep : By) : (Lib.cut s sep).1.length ≤ s.length := by
  unfold Lib.cut
  split
  · exact List.length_take_le' _ _
  · exact Nat.le_refl _
theorem cut_snd {r : By} (hb : okL r = true) : (Lib.cut r [10]).2.1.length < r.length := by
  unfold okL at hb
  obtain ⟨h1, h2⟩ := (Bool.and_eq_true _ _).mp hb
  obtain ⟨q, hq⟩ := List.isPrefixOf_iff_prefix.1 h2
  generalize parseB (Lib.cut r [10]).1 = d at *
  have e : textD d ++ q = lineD d ++ (10 :: q) := by unfold textD; simp
  rw [e] at hq
  rw [← hq, cut_line (line_no h1), List.length_append, List.length_cons]
  show q.length < _
  omega
/-- What Read answers. -/
structure RP (w : World) (s : By) (e : Ending) (w' : World) : Prop where
  be : Below w.heap.size w w'
  v : (∃ v ds, e = .returned (.tuple #[v, .int .i64 0, .int .i64 0]) ∧ readD s = .ok (dps ds) ∧ OwnD w' w.heap.size v ds ∧ (∀ d ∈ ds, Small d) ∧ ds.length ≤ s.length) ∨
    (∃ n : Nat, e = .returned (.tuple #[.slice none 0 0, .int .i64 n, .int .i64 200]) ∧ readD s = .error n ∧ 1 ≤ n ∧ n ≤ s.length)
/-- While the lines are read. -/
structure RS (w : World) (s : By) (f : Nat) (v : Value) (ds : List Dd) (r : ByteArray) (wx : World) : Prop where
  be : Below w.heap.size w wx
  ow : OwnD wx w.heap.size v ds
  sm : ∀ d ∈ ds, Small d
  ri : RI s f ds (bs r)
  ln : ds.length + r.size ≤ s.length
theorem RS.below {w wx w1 : World} {s : By} {f : Nat} {v : Value} {ds : List Dd} {r : ByteArray} (h : RS w s f v ds r wx) (hb : Below wx.heap.size wx w1) : RS w s f v ds r w1 := ⟨bt h.be hb, h.ow.below hb, h.sm, h.ri, h.ln⟩
end Go.Proofs.YtkodepckfdpaiaaDoor
