/- Arguments of type api.Head and api.Field, opened: the fields can be read, strings are of a length that a world can hold. -/
import Derived.Test.YtknfoolcbfmpaaaDoorHr
import Derived.Deep.Strs
import Derived.Lib.SmallJoins
import Derived.Carry
import Derived.ChangeSame
import Derived.Laws.IdiomArrays
namespace Go.Proofs.YtknfoolcbfmpaaaDoor
set_option linter.unusedSimpArgs false
set_option linter.unusedVariables false
open Go.RowKit Go.ChangeShapes Go.WideShapes Go.Deep
theorem cells_h : Tryd.prog.cellsOf 9 = 1 ∧ Tryd.prog.cellsOf 22 = 3 ∧ Tryd.prog.cellsOf 23 = 1 ∧ Tryd.prog.cellsOf 48 = 2 ∧ Tryd.prog.cellsOf 25 = 4 := ⟨by kernel_rfl, by kernel_rfl, by kernel_rfl, by kernel_rfl, by kernel_rfl⟩
section
variable {H : Type} {enc : TypeId × Value → H} {w : World} {base : Nat} {spare : Nat → Bool} {held : Bool}
theorem plain_addr {w : World} {a : Addr} {v : Value} (h : w.cell? a = some v) : a = ⟨a.block, a.off, none⟩ := by
  obtain ⟨b, o, s⟩ := a
  have : s = none := World.cell?_spot h
  subst this; rfl
theorem cells_two {a : Addr} {cs : List Value} {x y : Value} (h : w.cells? base a 2 = some cs) (e : cs = [x, y]) : a = ⟨a.block, a.off, none⟩ ∧ w.cell? ⟨a.block, a.off, none⟩ = some x ∧ w.cell? ⟨a.block, a.off + 1, none⟩ = some y := by
  subst e
  obtain ⟨_, _, hc⟩ := World.cells?_some h
  have h0 := (hc 0 (by decide)).trans (show _ = some x from rfl)
  have h1 := (hc 1 (by decide)).trans (show _ = some y from rfl)
  have e0 : a.add 0 = a := by simp [Addr.add]
  rw [e0] at h0
  have hA := plain_addr h0
  rw [hA] at h0 h1
  rw [add_plain] at h1
  exact ⟨hA, h0, h1⟩
theorem field_of {fuel : Nat} {cs : List Value} {y : DataW H × List MemPlace} (h : DataW.trod enc Tryd.prog w base spare held fuel 48 cs = some y) (hl : cs.length = 2) :
    ∃ f : Fd, cs = [.string f.nm, .string f.vl] ∧ f.nm.size ≤ maxLen ∧ f.vl.size ≤ maxLen := by
  obtain ⟨y0, y1, n, -, -, h0, h1⟩ := trod_struct2 Tryd.underlying48 h
  rw [cells_h.1] at h0 h1
  match cs, hl with
  | [a, b], _ =>
    obtain ⟨s0, e0, -, z0⟩ := DataW.trod_string Tryd.underlying9 h0
    obtain ⟨s1, e1, -, z1⟩ := DataW.trod_string Tryd.underlying9 h1
    obtain rfl : a = .string s0 := by simpa using e0
    obtain rfl : b = .string s1 := by simpa using e1
    exact ⟨⟨s0, s1⟩, rfl, z0, z1⟩
instance : Inhabited Fd := ⟨⟨⟨#[]⟩, ⟨#[]⟩⟩⟩
theorem fds_of {fuel : Nat} {x : Value} {y : DataW H × List MemPlace} (h : DataW.trod enc Tryd.prog w base spare held fuel 23 [x] = some y) :
    ∃ A l c, x = .slice A (List.length l) c ∧ l.length ≤ c ∧ c ≤ maxLen ∧ Fds w A l ∧ ∀ f ∈ l, f.nm.size ≤ maxLen ∧ f.vl.size ≤ maxLen := by
  rcases open_slice Tryd.underlying23 h with ⟨hcs, -⟩ | ⟨a, len, cap, m, n, D, Pl, hcs, -, hl, hm, hmm, -, hx⟩
  · obtain rfl : x = .slice none 0 0 := by simpa using hcs
    exact ⟨none, [], 0, rfl, Nat.le_refl _, by decide, fun i hi => absurd hi (Nat.not_lt_zero _), fun r hr => by cases hr⟩
  · obtain rfl : x = .slice (some a) len cap := by simpa using hcs
    have hlm : len ≤ m := by rw [hmm]; split <;> omega
    rw [cells_h.2.2.2.1] at hx
    obtain ⟨f, hf⟩ := choose_lt (α := Fd) (n := len) (p := fun i r => w.cells? base (a.add (i * 2)) 2 = some [.string r.nm, .string r.vl] ∧ r.nm.size ≤ maxLen ∧ r.vl.size ≤ maxLen) (fun i hi => by
      obtain ⟨cs', h1, h2⟩ := hx i (by omega)
      obtain ⟨_, hlen, _⟩ := World.cells?_some h1
      obtain ⟨r, rfl, hr⟩ := field_of h2 hlen
      exact ⟨r, h1, hr⟩)
    refine ⟨some a, (List.range len).map f, cap, by simp, by simpa using hl, hm, fun i hi => ?_, ?_⟩
    · have hi' : i < len := by simpa using hi
      have hA := (cells_two (hf 0 (by omega)).1 rfl).1
      have h2 : a.add (0 * 2) = a := by simp [Addr.add]
      rw [h2] at hA
      refine ⟨a.block, a.off, congrArg some hA, ?_⟩
      have hc := cells_two (hf i hi').1 rfl
      rw [hA, add_plain] at hc
      simpa using hc.2
    · intro r hr
      obtain ⟨i, hi, rfl⟩ := List.mem_map.1 hr
      exact (hf i (List.mem_range.1 hi)).2
theorem array4v {α : Type} {cs : Array α} (h : cs.size = 4) : ∃ c0 c1 c2 c3, cs = #[c0, c1, c2, c3] := by
  obtain ⟨l⟩ := cs
  match l, h with
  | [c0, c1, c2, c3], _ => exact ⟨c0, c1, c2, c3, rfl⟩
theorem array2v {α : Type} {cs : Array α} (h : cs.size = 2) : ∃ c0 c1, cs = #[c0, c1] := by
  obtain ⟨l⟩ := cs
  match l, h with
  | [c0, c1], _ => exact ⟨c0, c1, rfl⟩
set_option maxRecDepth 100000 in
theorem fd_of {b0 : Nat} {v : Value} {d : DataW H} {p : List MemPlace} (hv : Value.okWide Tryd.prog w .any b0 48 v) (h : DataW.Trod enc Tryd.prog w base spare held 48 v d p) :
    ∃ f : Fd, v = f.val ∧ f.nm.size ≤ maxLen ∧ f.vl.size ≤ maxLen := by
  obtain ⟨cs, rfl, hsz⟩ := okWide_struct Tryd.underlying48 hv
  obtain ⟨c0, c1, rfl⟩ := array2v (hsz.trans cells_h.2.2.2.1)
  obtain ⟨fuel, hf⟩ := h
  obtain ⟨f, e, h1, h2⟩ := field_of (cs := [c0, c1]) hf rfl
  obtain ⟨q0, e1⟩ := List.cons.inj e
  obtain ⟨q1, _⟩ := List.cons.inj e1
  exact ⟨f, by rw [q0, q1], h1, h2⟩
set_option maxRecDepth 100000 in
theorem hd_of {b0 : Nat} {v : Value} {d : DataW H} {p : List MemPlace} (hv : Value.okWide Tryd.prog w .any b0 25 v) (h : DataW.Trod enc Tryd.prog w base spare held 25 v d p) :
    ∃ c : Hd, v = c.val ∧ c.In w := by
  obtain ⟨cs, rfl, hsz⟩ := okWide_struct Tryd.underlying25 hv
  obtain ⟨c0, c1, c2, c3, rfl⟩ := array4v (hsz.trans cells_h.2.2.2.2)
  obtain ⟨fuel, hf⟩ := h
  obtain ⟨y0, y1, n, -, -, g0, g1⟩ := trod_struct2 Tryd.underlying25 hf
  rw [cells_h.2.1] at g0
  rw [cells_h.2.2.1] at g1
  obtain ⟨y2, y3, y4, m, -, e0, e1, e2⟩ := trod_array3 (c0 := c0) (c1 := c1) (c2 := c2) Tryd.underlying22 cells_h.1 g0
  obtain ⟨s0, q0, -, z0⟩ := DataW.trod_string Tryd.underlying9 e0
  obtain rfl : c0 = .string s0 := List.cons.inj q0 |>.1
  obtain ⟨s1, q1, -, z1⟩ := DataW.trod_string Tryd.underlying9 e1
  obtain rfl : c1 = .string s1 := List.cons.inj q1 |>.1
  obtain ⟨s2, q2, -, z2⟩ := DataW.trod_string Tryd.underlying9 e2
  obtain rfl : c2 = .string s2 := List.cons.inj q2 |>.1
  obtain ⟨A, fs, k, rfl, oc, om, ho, hz⟩ := fds_of (x := c3) g1
  exact ⟨⟨s0, s1, s2, A, k, fs⟩, rfl, ⟨Nat.le_trans oc om, z0, z1, z2, hz, ho⟩⟩
end
end Go.Proofs.YtknfoolcbfmpaaaDoor
