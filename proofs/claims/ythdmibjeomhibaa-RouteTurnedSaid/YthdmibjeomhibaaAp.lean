/- append to a row of the call's own, of a slice that can be read or is empty; conditions: the row stays small. -/
import Derived.Test.YthdmibjeomhibaaRh
import Derived.Deep.AppendLies
import Derived.Deep.RegionHeld3
import Derived.Laws.OwnMore
namespace Go.Proofs.Ythdmibjeomhibaa
set_option linter.unusedSimpArgs false
set_option linter.unusedVariables false
open Go.RowKit
theorem below_grown {w w' : World} {base : Nat} {row : Option Nat} (h : w.grownBy w' row) (hb : base ≤ w.heap.size) (hr : ∀ g, row = some g → base ≤ g) : Below base w w' :=
  ⟨h.os, h.tape, h.output, h.size, fun k hk => h.block k (by omega) (fun e => by have := hr k e.symm; omega)⟩
theorem run_app {P : Program} (w : World) (base : Nat) (t ty e : TypeId) (i : TypeInfo) (z : Value) (size bytes : Nat) (ht : P.underlying t = some (.slice e)) (hi : P.info? e = some i) (hz : i.zero = some z)
    (hsize : i.size = size) (hby : i.bytes = bytes) (hzs : z.cells.size = size) (hsz : 0 < size)
    (v : Value) (n : Nat) (xs : List Value) (hown : w.ownsRow base e size v n xs)
    (A : Option Addr) (m c : Nat) (news : List Value) (hl : news.length = m * size) (hnews : ∀ j u, news[j]? = some u → ∃ a, A = some a ∧ w.cell? (a.add j) = some u) (h1 : ∀ u ∈ news, u.oneCell' = true)
    (h63 : n + m ≤ maxLen) (hbytes : (n + m) * bytes ≤ 140737488355328) (hbase : base ≤ w.heap.size) :
    ∃ v' w', (Builtin.append_ #[t, t] ty #[v, .slice A m c]).run P w = .ok v' w' ∧ w'.ownsRow base e size v' (n + m) (xs ++ news) ∧ Below base w w' ∧ w.grownBy w' v.ownBlock := by
  cases A with
  | some a =>
    obtain ⟨v', w', hr, ho, hg, _, _⟩ := run_append_own_at (P := P) w base t ty e i z size bytes ht hi hz hsize hby hzs hsz v n xs hown a m c news hl (fun j u h => by
      obtain ⟨a', e, hc⟩ := hnews j u h
      cases e; exact hc) h1 h63 hbytes hbase
    refine ⟨v', w', hr, ho, below_grown hg hbase ?_, hg⟩
    intro g hg'
    rcases hown.2 with ⟨rfl, _⟩ | ⟨g', cap, cur, rfl, hbg, _⟩
    · cases hg'
    · cases hg'; exact hbg
  | none =>
    have hm : m = 0 := by
      rcases Nat.eq_zero_or_pos m with h | h
      · exact h
      · have hp : 0 < news.length := by rw [hl]; exact Nat.mul_pos h hsz
        obtain ⟨a, e, _⟩ := hnews 0 news[0] (List.getElem?_eq_getElem hp)
        cases e
    subst hm
    have hn : news = [] := List.eq_nil_of_length_eq_zero (by simpa using hl)
    subst hn
    refine ⟨v, w, ?_, by simpa using hown, Below.refl _ _, ⟨rfl, rfl, rfl, Nat.le_refl _, fun _ _ _ => rfl⟩⟩
    rcases hown.2 with ⟨rfl, rfl⟩ | ⟨g, cap, cur, rfl, hbg, hg, hnc, _⟩
    · simp [Builtin.append_, run_underlying ht, sizeOf, typeInfo, hi, Builtin.lenOf, Builtin.firstCells]
    · simp [Builtin.append_, run_underlying ht, sizeOf, typeInfo, hi, Builtin.lenOf, Builtin.firstCells, hnc, storeCells]
/-- At a step of a region that draws its order. -/
theorem step_app {P : Program} {w : World} {ops : Array Oper} {o : Oper} {a : Act} {K : Act → World → Prop} {Q : Exit → Act → World → Prop} {E : Prop} {F : Value → World → Prop} (hgd : o.guard = none) (s x : Operand) (t : TypeId)
    (ho : o.op = .call { callee := .builtin .append, args := #[s, x], argTypes := #[t, t] }) (v u : Value) (hs : a.eval s = v) (hx : a.eval x = u)
    (hr : ∃ v' w', (Builtin.append_ #[t, t] o.type #[v, u]).run P w = .ok v' w' ∧ F v' w') (h : ∀ v' w', F v' w' → K (a.put o.dst v') w') :
    if Region.wanted o (yielded ops a.tmps) = true then Oper.wp P o a w K Q else E := by
  have hw : Region.wanted o (yielded ops a.tmps) = true := by simp [Region.wanted, hgd]
  rw [if_pos hw]
  obtain ⟨v', w', hr, hf⟩ := hr
  unfold Oper.wp execOp
  simp only [ho, resolve, invoke, builtin, Sem.run_bind, Sem.run_pure, Result.andThen_ok, List.map_toArray, List.map_cons, List.map_nil, hs, hx, hr]
  exact h v' w' hf
theorem info_str : (Try.prog.info? 9).map (fun i => (i.zero, i.size, i.bytes)) = some (some (.string ⟨#[]⟩), 1, 16) := by kernel_rfl
theorem info_route : (Try.prog.info? 34).map (fun i => (i.zero, i.size, i.bytes)) = some (some Rt.zero.val, 3, 48) := by kernel_rfl
/-- A row of strings of the call's own. -/
def OwnS (w : World) (base : Nat) (v : Value) (l : List ByteArray) : Prop := w.ownsRow base 9 1 v l.length (l.map .string)
theorem OwnS.new (w : World) (base : Nat) (hb : base ≤ w.heap.size) : OwnS (w.alloc (.cells #[] 9 (0, 0))) base (.slice (some ⟨w.heap.size, 0, none⟩) 0 0) [] :=
  World.ownsRow_lit w #[] 0 hb (Nat.zero_le _) rfl
theorem OwnS.drew {w : World} {base : Nat} {v : Value} {l : List ByteArray} (h : OwnS w base v l) (n : Nat) : OwnS (w.drewN n) base v l := h
theorem OwnS.form {w : World} {base : Nat} {v : Value} {l : List ByteArray} (h : OwnS w base v l) : ∃ A c, v = .slice A l.length c ∧ l.length ≤ c ∧ c ≤ maxLen ∧ Strs w A l := by
  rcases h.2 with ⟨rfl, h0⟩ | ⟨g, cap, cur, rfl, hb, hg, hnc, hcm, hcs, htake⟩
  · refine ⟨none, 0, by rw [h0], by omega, Nat.zero_le _, fun i hi => by omega⟩
  · refine ⟨some ⟨g, 0, none⟩, cap, rfl, hnc, hcm, fun i hi => ⟨g, 0, rfl, ?_⟩⟩
    rw [Nat.zero_add]
    refine (World.ownsRow.cellAt (w := w) (g := g) h i (by omega)).trans ?_
    rw [List.getElem?_map, List.getElem?_eq_getElem hi]; rfl
theorem OwnS.app {w : World} {base : Nat} {v : Value} {l : List ByteArray} (h : OwnS w base v l) (ty : TypeId) (A : Option Addr) (k : List ByteArray) (c : Nat) (hk : Strs w A k) (hn : l.length + k.length ≤ 1000) (hbase : base ≤ w.heap.size) :
    ∃ v' w', (Builtin.append_ #[23, 23] ty #[v, .slice A k.length c]).run Try.prog w = .ok v' w' ∧ OwnS w' base v' (l ++ k) ∧ Below base w w' ∧ (∀ g cs t, some g ≠ v.ownBlock → Blk w g cs t → Blk w' g cs t) := by
  obtain ⟨i0, hi0, hz0, hz1, hz2⟩ := info_parts info_str
  obtain ⟨v', w', hr, ho, hb, hg⟩ := run_app (P := Try.prog) w base 23 ty 9 i0 _ 1 16 Try.underlying23 hi0 hz0 hz1 hz2 rfl (by omega) v l.length _ h A k.length c (k.map .string) (by simp)
    (fun j u hj => by
      rw [List.getElem?_map, Option.map_eq_some_iff] at hj
      obtain ⟨s, hs, rfl⟩ := hj
      obtain ⟨hjl, rfl⟩ := List.getElem?_eq_some_iff.1 hs
      obtain ⟨b, off, e, hc⟩ := hk j hjl
      exact ⟨_, e, by rw [Addr.add_lit]; exact hc⟩)
    (fun u hu => by obtain ⟨s, _, rfl⟩ := List.mem_map.1 hu; rfl) (by unfold maxLen; omega) (by omega) hbase
  refine ⟨v', w', hr, ?_, hb, fun g cs t hn hB => (hg.block g hB.lt hn).trans hB⟩
  unfold OwnS
  rw [List.length_append, List.map_append]
  exact ho
/-- A row of routes of the call's own. -/
def OwnR (w : World) (base : Nat) (v : Value) (l : List Rt) : Prop := w.ownsRow base 34 3 v l.length (l.flatMap fun r => r.cells.toList)
theorem OwnR.new (w : World) (base : Nat) (hb : base ≤ w.heap.size) : OwnR (w.alloc (.cells #[] 34 (0, 0))) base (.slice (some ⟨w.heap.size, 0, none⟩) 0 0) [] :=
  World.ownsRow_lit w #[] 0 hb (Nat.zero_le _) rfl
theorem OwnR.drew {w : World} {base : Nat} {v : Value} {l : List Rt} (h : OwnR w base v l) (n : Nat) : OwnR (w.drewN n) base v l := h
theorem flat_len (l : List Rt) : (l.flatMap fun r => r.cells.toList).length = l.length * 3 := by
  induction l with
  | nil => rfl
  | cons r l ih => rw [List.flatMap_cons, List.length_append, ih, List.length_cons]; simp; omega
theorem flat_at (l : List Rt) (i : Nat) (h : i < l.length) : (l.flatMap fun r => r.cells.toList)[i * 3]? = some (.string l[i].pre) ∧ (l.flatMap fun r => r.cells.toList)[i * 3 + 1]? = some (.string l[i].pro) ∧ (l.flatMap fun r => r.cells.toList)[i * 3 + 2]? = some (.string l[i].dst) := by
  induction l generalizing i with
  | nil => exact absurd h (Nat.not_lt_zero _)
  | cons r l ih =>
    cases i with
    | zero => exact ⟨rfl, rfl, rfl⟩
    | succ i =>
      have := ih i (by simpa using h)
      have e : ∀ d, ((r :: l).flatMap fun r => r.cells.toList)[(i + 1) * 3 + d]? = (l.flatMap fun r => r.cells.toList)[i * 3 + d]? := fun d => by
        rw [List.flatMap_cons, show (i + 1) * 3 + d = (i * 3 + d) + 3 by omega]; rfl
      have e0 := e 0
      rw [Nat.add_zero, Nat.add_zero] at e0
      rw [e0, e 1, e 2]
      exact this
theorem OwnR.form {w : World} {base : Nat} {v : Value} {l : List Rt} (h : OwnR w base v l) : ∃ A c, v = .slice A l.length c ∧ l.length ≤ c ∧ c ≤ maxLen ∧ Rts w A l := by
  rcases h.2 with ⟨rfl, h0⟩ | ⟨g, cap, cur, rfl, hb, hg, hnc, hcm, hcs, htake⟩
  · refine ⟨none, 0, by rw [h0], by omega, Nat.zero_le _, fun i hi => by omega⟩
  · refine ⟨some ⟨g, 0, none⟩, cap, rfl, hnc, hcm, fun i hi => ⟨g, 0, rfl, ?_⟩⟩
    have hf := flat_at l i hi
    have hc := fun j hj => World.ownsRow.cellAt (w := w) (g := g) h j hj
    rw [Nat.zero_add]
    exact ⟨(hc _ (by omega)).trans hf.1, (hc _ (by omega)).trans hf.2.1, (hc _ (by omega)).trans hf.2.2⟩
theorem flat_get {l : List Rt} {j : Nat} {u : Value} (h : (l.flatMap fun r => r.cells.toList)[j]? = some u) : ∃ i d, ∃ hi : i < l.length, j = i * 3 + d ∧ ((d = 0 ∧ u = .string l[i].pre) ∨ (d = 1 ∧ u = .string l[i].pro) ∨ (d = 2 ∧ u = .string l[i].dst)) := by
  have hj : j < l.length * 3 := by rw [← flat_len]; exact (List.getElem?_eq_some_iff.1 h).1
  have hi : j / 3 < l.length := by omega
  have hf := flat_at l (j / 3) hi
  refine ⟨j / 3, j % 3, hi, by omega, ?_⟩
  rcases (by omega : j % 3 = 0 ∨ j % 3 = 1 ∨ j % 3 = 2) with e | e | e
  · rw [show j = j / 3 * 3 by omega, hf.1] at h; exact .inl ⟨e, by cases h; rfl⟩
  · rw [show j = j / 3 * 3 + 1 by omega, hf.2.1] at h; exact .inr (.inl ⟨e, by cases h; rfl⟩)
  · rw [show j = j / 3 * 3 + 2 by omega, hf.2.2] at h; exact .inr (.inr ⟨e, by cases h; rfl⟩)
theorem OwnR.app {w : World} {base : Nat} {v : Value} {l : List Rt} (h : OwnR w base v l) (ty : TypeId) (A : Option Addr) (k : List Rt) (c : Nat) (hk : Rts w A k) (hn : l.length + k.length ≤ 1000) (hbase : base ≤ w.heap.size) :
    ∃ v' w', (Builtin.append_ #[22, 22] ty #[v, .slice A k.length c]).run Try.prog w = .ok v' w' ∧ OwnR w' base v' (l ++ k) ∧ Below base w w' ∧ (∀ g cs t, some g ≠ v.ownBlock → Blk w g cs t → Blk w' g cs t) := by
  obtain ⟨i0, hi0, hz0, hz1, hz2⟩ := info_parts info_route
  obtain ⟨v', w', hr, ho, hb, hg⟩ := run_app (P := Try.prog) w base 22 ty 34 i0 _ 3 48 Try.underlying22 hi0 hz0 hz1 hz2 rfl (by omega) v l.length _ h A k.length c (k.flatMap fun r => r.cells.toList) (flat_len k)
    (fun j u hj => by
      obtain ⟨i, d, hi, rfl, hd⟩ := flat_get hj
      obtain ⟨b, off, e, h0, h1, h2⟩ := hk i hi
      refine ⟨_, e, ?_⟩
      rw [Addr.add_lit]
      rcases hd with ⟨rfl, rfl⟩ | ⟨rfl, rfl⟩ | ⟨rfl, rfl⟩
      · exact h0
      · exact h1
      · exact h2)
    (fun u hu => by
      obtain ⟨r, _, hu⟩ := List.mem_flatMap.1 hu
      simp only [Rt.cells, List.mem_cons, List.not_mem_nil, or_false] at hu
      rcases hu with rfl | rfl | rfl <;> rfl) (by unfold maxLen; omega) (by omega) hbase
  refine ⟨v', w', hr, ?_, hb, fun g cs t hn hB => (hg.block g hB.lt hn).trans hB⟩
  unfold OwnR
  rw [List.length_append, List.flatMap_append]
  exact ho
theorem below_drew1 {B : Nat} {w W : World} (h : Below B w W) : Below B w W.drew := ⟨h.os, h.tape, h.output, h.size, h.block⟩
theorem below_al {w W : World} (h : Below w.heap.size w W) (o : Obj) : Below w.heap.size w (W.alloc o) := h.alloc h.size o
theorem below_set {B : Nat} {w W : World} (h : Below B w W) {g : Nat} (hg : B ≤ g) (i : Nat) (v : Value) : Below B w (W.setCell ⟨g, i, none⟩ v) := h.setCell hg v
theorem owns_al {w : World} {base size : Nat} {e : TypeId} {v : Value} {n : Nat} {xs : List Value} (h : w.ownsRow base e size v n xs) (o : Obj) : (w.alloc o).ownsRow base e size v n xs := by
  refine ⟨h.1, ?_⟩
  rcases h.2 with h2 | ⟨g, cap, cur, hv, hb, hg, hr⟩
  · exact .inl h2
  · exact .inr ⟨g, cap, cur, hv, hb, by
      have hlt : g < w.heap.size := (Array.getElem?_eq_some_iff.1 hg).1
      exact ((below_alloc1 w o).block g hlt).trans hg, hr⟩
theorem OwnS.al {w : World} {base : Nat} {v : Value} {l : List ByteArray} (h : OwnS w base v l) (o : Obj) : OwnS (w.alloc o) base v l := owns_al h o
theorem OwnS.drew1 {w : World} {base : Nat} {v : Value} {l : List ByteArray} (h : OwnS w base v l) : OwnS w.drew base v l := h
theorem OwnS.new' (w : World) {g base : Nat} (hg : g = w.heap.size) (hb : base ≤ w.heap.size) : OwnS (w.alloc (.cells #[] 9 (0, 0))) base (.slice (some ⟨g, 0, none⟩) 0 0) [] := by subst hg; exact OwnS.new w base hb
theorem OwnR.al {w : World} {base : Nat} {v : Value} {l : List Rt} (h : OwnR w base v l) (o : Obj) : OwnR (w.alloc o) base v l := owns_al h o
theorem OwnR.drew1 {w : World} {base : Nat} {v : Value} {l : List Rt} (h : OwnR w base v l) : OwnR w.drew base v l := h
theorem OwnR.new' (w : World) {g base : Nat} (hg : g = w.heap.size) (hb : base ≤ w.heap.size) : OwnR (w.alloc (.cells #[] 34 (0, 0))) base (.slice (some ⟨g, 0, none⟩) 0 0) [] := by subst hg; exact OwnR.new w base hb
theorem Blk.drew1 {w : World} {M : Nat} {cs : Array Value} {t : TypeId} (h : Blk w M cs t) : Blk w.drew M cs t := h
theorem Strs.drew1 {w : World} {A : Option Addr} {l : List ByteArray} (h : Strs w A l) : Strs w.drew A l := h
theorem Rts.drew1 {w : World} {A : Option Addr} {l : List Rt} (h : Rts w A l) : Rts w.drew A l := h
end Go.Proofs.Ythdmibjeomhibaa
