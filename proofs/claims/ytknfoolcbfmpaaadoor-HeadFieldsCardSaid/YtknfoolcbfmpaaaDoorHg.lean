/- Rows of fields of the call's own; what head.Read computes, in plain Lean. -/
import Derived.Test.YtknfoolcbfmpaaaDoorHf
import Derived.Lib.SplitLaws
namespace Go.Proofs.YtknfoolcbfmpaaaDoor
set_option linter.unusedSimpArgs false
set_option linter.unusedVariables false
open Go.RowKit
def flatF (l : List Fd) : List Value := l.flatMap fun f => [.string f.nm, .string f.vl]
theorem flatF_len (l : List Fd) : (flatF l).length = l.length * 2 := by
  induction l with
  | nil => rfl
  | cons f l ih => rw [flatF, List.flatMap_cons, List.length_append]; unfold flatF at ih; rw [ih]; simp; omega
theorem flatF_app (a b : List Fd) : flatF (a ++ b) = flatF a ++ flatF b := List.flatMap_append
theorem flatF_at (l : List Fd) (i : Nat) (h : i < l.length) : (flatF l)[i * 2]? = some (.string l[i].nm) ∧ (flatF l)[i * 2 + 1]? = some (.string l[i].vl) := by
  induction l generalizing i with
  | nil => exact absurd h (Nat.not_lt_zero _)
  | cons f l ih =>
    have e : flatF (f :: l) = .string f.nm :: .string f.vl :: flatF l := rfl
    cases i with
    | zero => rw [e]; exact ⟨rfl, rfl⟩
    | succ i =>
      have := ih i (by simpa using h)
      rw [e, show (i + 1) * 2 = i * 2 + 2 by omega, show i * 2 + 2 + 1 = i * 2 + 1 + 2 by omega, List.getElem?_cons_succ, List.getElem?_cons_succ, List.getElem?_cons_succ, List.getElem?_cons_succ]
      exact this
theorem info_fld : (Tryd.prog.info? 48).map (fun i => (i.zero, i.size, i.bytes)) = some (some (.agg #[.string ⟨#[]⟩, .string ⟨#[]⟩]), 2, 32) := by kernel_rfl
/-- A row of fields of the call's own. -/
def OwnF (w : World) (base : Nat) (v : Value) (l : List Fd) : Prop := w.ownsRow base 48 2 v l.length (flatF l)
theorem OwnF.nil (w : World) (base : Nat) : OwnF w base (.slice none 0 0) [] := World.ownsRow_nil _ _ _ _
theorem OwnF.al {w : World} {base : Nat} {v : Value} {l : List Fd} (h : OwnF w base v l) (o : Obj) : OwnF (w.alloc o) base v l := owns_al h o
theorem OwnF.drewN {w : World} {base : Nat} {v : Value} {l : List Fd} (h : OwnF w base v l) (n : Nat) : OwnF (w.drewN n) base v l := h
theorem OwnF.below {w w1 : World} {base : Nat} {v : Value} {l : List Fd} (h : OwnF w base v l) (hb : Below w.heap.size w w1) : OwnF w1 base v l := by
  refine ⟨h.1, ?_⟩
  rcases h.2 with h2 | ⟨g, cap, cur, hv, hb', hg, hr⟩
  · exact .inl h2
  · exact .inr ⟨g, cap, cur, hv, hb', by
      have hlt : g < w.heap.size := (Array.getElem?_eq_some_iff.1 hg).1
      exact (hb.block g hlt).trans hg, hr⟩
theorem OwnF.set {w : World} {base : Nat} {v : Value} {l : List Fd} (h : OwnF w base v l) {K : Nat} (hK : K < base) (i : Nat) (x : Value) : OwnF (w.setCell ⟨K, i, none⟩ x) base v l := by
  refine ⟨h.1, ?_⟩
  rcases h.2 with h2 | ⟨g, cap, cur, hv, hb', hg, hr⟩
  · exact .inl h2
  · exact .inr ⟨g, cap, cur, hv, hb', Blk.far (M := g) (K := K) hg (by omega) i x, hr⟩
theorem OwnF.form {w : World} {base : Nat} {v : Value} {l : List Fd} (h : OwnF w base v l) : ∃ A c, v = .slice A l.length c ∧ l.length ≤ c ∧ c ≤ maxLen ∧ Fds w A l := by
  rcases h.2 with ⟨rfl, h0⟩ | ⟨g, cap, cur, rfl, hb, hg, hnc, hcm, hcs, htake⟩
  · refine ⟨none, 0, by rw [h0], by omega, Nat.zero_le _, fun i hi => by omega⟩
  · refine ⟨some ⟨g, 0, none⟩, cap, rfl, hnc, hcm, fun i hi => ⟨g, 0, rfl, ?_⟩⟩
    rw [Nat.zero_add]
    obtain ⟨h0, h1⟩ := flatF_at l i hi
    have hl : (flatF l).length = l.length * 2 := flatF_len l
    exact ⟨(World.ownsRow.cellAt (w := w) (g := g) h (i * 2) (by omega)).trans h0, (World.ownsRow.cellAt (w := w) (g := g) h (i * 2 + 1) (by omega)).trans h1⟩
theorem OwnF.fds {w : World} {base m k : Nat} {A : Option Addr} {l : List Fd} (h : OwnF w base (.slice A m k) l) : Fds w A l := by
  obtain ⟨A', c', e, _, _, hr⟩ := h.form
  obtain ⟨rfl, _, _⟩ := Value.slice.inj e
  exact hr
theorem OwnF.app {w : World} {base : Nat} {v : Value} {l : List Fd} (h : OwnF w base v l) (ty : TypeId) (A : Option Addr) (k : List Fd) (c : Nat) (hk : Fds w A k) (hn : l.length + k.length ≤ 1000000) (hbase : base ≤ w.heap.size) :
    ∃ v' w', (Builtin.append_ #[23, 23] ty #[v, .slice A k.length c]).run Tryd.prog w = .ok v' w' ∧ OwnF w' base v' (l ++ k) ∧ Below base w w' ∧ w.grownBy w' v.ownBlock := by
  obtain ⟨i0, hi0, hz0, hz1, hz2⟩ := info_parts info_fld
  obtain ⟨v', w', hr, ho, hb, hg⟩ := run_app (P := Tryd.prog) w base 23 ty 48 i0 _ 2 32 Tryd.underlying23 hi0 hz0 hz1 hz2 rfl (by omega) v l.length _ h A k.length c (flatF k) (flatF_len k)
    (fun j u hj => by
      have hjl : j < k.length * 2 := by
        rw [← flatF_len]
        exact (List.getElem?_eq_some_iff.1 hj).1
      obtain ⟨b, off, e, h0, h1⟩ := hk (j / 2) (by omega)
      obtain ⟨f0, f1⟩ := flatF_at k (j / 2) (by omega)
      refine ⟨_, e, ?_⟩
      rw [Addr.add_lit]
      rcases Nat.mod_two_eq_zero_or_one j with hm | hm
      · have ej : j / 2 * 2 = j := by omega
        rw [ej] at f0 h0
        rw [hj] at f0; rw [Option.some.inj f0]; exact h0
      · have ej : j / 2 * 2 + 1 = j := by omega
        rw [ej] at f1
        rw [Nat.add_assoc, ej] at h1
        rw [hj] at f1; rw [Option.some.inj f1]; exact h1)
    (fun u hu => by
      obtain ⟨f, _, hf⟩ := List.mem_flatMap.1 hu
      rcases List.mem_cons.1 hf with rfl | hf
      · rfl
      · rw [List.mem_singleton.1 hf]; rfl) (by unfold maxLen; omega) (by omega) hbase
  refine ⟨v', w', hr, ?_, hb, hg⟩
  unfold OwnF
  rw [List.length_append, flatF_app]
  exact ho
/-- What Read tells: a head, how many bytes it has, and what is wrong. -/
structure Rd where
  p : Pd
  n : Int
  e : Int
def nilP : Pd := ⟨[], [], [], []⟩
def endB : List UInt8 := [13, 10, 13, 10]
def okF (l : List UInt8) : Bool := (fldB l).2
def fieldsB (ls : List (List UInt8)) : Option (List (List UInt8 × List UInt8)) := if ls.all okF then some (ls.map fun l => (fldB l).1) else none
def firstB (l : List UInt8) : Option (List UInt8 × List UInt8 × List UInt8) :=
  match Lib.splitN l [32] 3 with
  | [a, b, c] => if wordB a && wordB b && valueB c then some (a, b, c) else none
  | _ => none
def linesB (ls : List (List UInt8)) (n : Int) : Rd :=
  match ls with
  | [] => ⟨nilP, 0, 52⟩
  | l :: ls => match firstB l with
    | none => ⟨nilP, 0, 52⟩
    | some (a, b, c) => match fieldsB ls with
      | none => ⟨nilP, 0, 52⟩
      | some fs => if 32 < fs.length then ⟨nilP, 0, 51⟩ else ⟨⟨a, b, c, fs⟩, n + 4, 0⟩
def readB (s : List UInt8) : Rd :=
  if Lib.index (s.take 2048) endB < 0 then ⟨nilP, 0, if 2048 ≤ s.length then 51 else 50⟩
  else linesB (Lib.split (s.take (Lib.index (s.take 2048) endB).toNat) [13, 10]) (Lib.index (s.take 2048) endB)
theorem lines_no {l : List UInt8} (ls : List (List UInt8)) (n : Int) (h : firstB l = none) : linesB (l :: ls) n = ⟨nilP, 0, 52⟩ := by
  unfold linesB
  simp only [h]
theorem lines_yes {l a b c : List UInt8} (ls : List (List UInt8)) (n : Int) (h : firstB l = some (a, b, c)) : linesB (l :: ls) n = match fieldsB ls with
      | none => ⟨nilP, 0, 52⟩
      | some fs => if 32 < fs.length then ⟨nilP, 0, 51⟩ else ⟨⟨a, b, c, fs⟩, n + 4, 0⟩ := by
  unfold linesB
  simp only [h]
theorem fields_take (ls : List (List UInt8)) (k : Nat) (h : k < ls.length) : (ls.take (k + 1)).all okF = ((ls.take k).all okF && okF ls[k]) ∧ (ls.take (k + 1)).map (fun l => (fldB l).1) = (ls.take k).map (fun l => (fldB l).1) ++ [(fldB ls[k]).1] := by
  rw [List.take_succ_eq_append_getElem h, List.all_append, List.map_append]
  exact ⟨by rw [List.all_cons, List.all_nil, Bool.and_true], rfl⟩
theorem fields_no (ls : List (List UInt8)) (k : Nat) (h : k < ls.length) (e : okF ls[k] = false) : fieldsB ls = none := by
  unfold fieldsB
  rw [if_neg]
  intro ha
  have := List.all_eq_true.1 ha _ (List.getElem_mem h)
  rw [e] at this; cases this
theorem splitB_size (sep : ByteArray) : ∀ (k : Nat) (s : ByteArray), ∀ x ∈ Lib.splitB sep 0 k s, x.size ≤ s.size
  | 0, s, x, hx => by
    rw [Lib.splitB_zero] at hx
    rw [List.mem_singleton.1 hx]; exact Nat.le_refl _
  | k + 1, s, x, hx => by
    unfold Lib.splitB at hx
    split at hx
    · rw [List.mem_singleton.1 hx]; exact Nat.le_refl _
    · rcases List.mem_cons.1 hx with rfl | hx
      · rw [ByteArray.size_extract]; omega
      · have := splitB_size sep k _ x hx
        rw [ByteArray.size_extract] at this; omega
end Go.Proofs.YtknfoolcbfmpaaaDoor
