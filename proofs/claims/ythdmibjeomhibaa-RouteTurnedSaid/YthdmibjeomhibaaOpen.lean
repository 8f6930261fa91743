/- An argument of type api.Config, opened: its slices can be read, its strings are of a length that a world can hold. -/
import Derived.Test.YthdmibjeomhibaaRf
import Derived.Deep.Strs
import Derived.Lib.SmallJoins
import Derived.Carry
namespace Go.Proofs.Ythdmibjeomhibaa
set_option linter.unusedSimpArgs false
set_option linter.unusedVariables false
open Go.RowKit Go.ChangeShapes Go.WideShapes Go.Deep
theorem array12 {α : Type} {cs : Array α} (h : cs.size = 12) : ∃ c0 c1 c2 c3 c4 c5 c6 c7 c8 c9 c10 c11, cs = #[c0, c1, c2, c3, c4, c5, c6, c7, c8, c9, c10, c11] := by
  obtain ⟨l⟩ := cs
  match l, h with
  | [c0, c1, c2, c3, c4, c5, c6, c7, c8, c9, c10, c11], _ => exact ⟨c0, c1, c2, c3, c4, c5, c6, c7, c8, c9, c10, c11, rfl⟩
theorem cells_p1 : Try.prog.cellsOf 22 = 1 ∧ Try.prog.cellsOf 23 = 1 ∧ Try.prog.cellsOf 3 = 1 ∧ Try.prog.cellsOf 9 = 1 ∧ Try.prog.cellsOf 34 = 3 ∧ Try.prog.cellsOf 25 = 12 := ⟨by kernel_rfl, by kernel_rfl, by kernel_rfl, by kernel_rfl, by kernel_rfl, by kernel_rfl⟩
section
variable {H : Type} {enc : TypeId × Value → H} {w : World} {base : Nat} {spare : Nat → Bool} {held : Bool}
theorem plain_addr {w : World} {a : Addr} {v : Value} (h : w.cell? a = some v) : a = ⟨a.block, a.off, none⟩ := by
  obtain ⟨b, o, s⟩ := a
  have : s = none := World.cell?_spot h
  subst this; rfl
theorem strs_of {fuel : Nat} {x : Value} {y : DataW H × List MemPlace} (h : DataW.trod enc Try.prog w base spare held fuel 23 [x] = some y) :
    ∃ A l c, x = .slice A (List.length l) c ∧ l.length ≤ c ∧ c ≤ maxLen ∧ Strs w A l ∧ ∀ s ∈ l, s.size ≤ maxLen := by
  rcases open_strs Try.underlying23 Try.underlying9 cells_p1.2.2.2.1 h with ⟨hcs, -⟩ | ⟨a, len, cap, m, Sx, hcs, -, hl, hm, hmm, -, hx⟩
  · obtain rfl : x = .slice none 0 0 := by simpa using hcs
    exact ⟨none, [], 0, rfl, Nat.le_refl _, by decide, fun i hi => absurd hi (Nat.not_lt_zero _), fun s hs => by cases hs⟩
  · obtain rfl : x = .slice (some a) len cap := by simpa using hcs
    have hlm : len ≤ m := by rw [hmm]; split <;> omega
    refine ⟨some a, (List.range len).map Sx, cap, by simp, by simpa using hl, hm, fun i hi => ?_, fun s hs => ?_⟩
    · have hi' : i < len := by simpa using hi
      have h0 := (hx 0 (by omega)).1
      have hA := plain_addr h0
      refine ⟨a.block, a.off, ?_, ?_⟩
      · have : a.add 0 = a := by simp [Addr.add]
        rw [this] at hA; exact congrArg some hA
      · have := (hx i (by omega)).1
        have h2 : a.add 0 = a := by simp [Addr.add]
        rw [h2] at hA
        rw [hA, add_plain] at this
        simpa using this
    · obtain ⟨i, hi, rfl⟩ := List.mem_map.1 hs
      exact (hx i (by have := List.mem_range.1 hi; omega)).2
theorem route_of {fuel : Nat} {cs : List Value} {y : DataW H × List MemPlace} (h : DataW.trod enc Try.prog w base spare held fuel 34 cs = some y) (hl : cs.length = 3) :
    ∃ r : Rt, cs = [.string r.pre, .string r.pro, .string r.dst] ∧ r.Ok := by
  obtain ⟨y0, y1, y2, n, -, -, h0, h1, h2⟩ := trod_struct3 Try.underlying34 h
  rw [cells_p1.2.2.2.1] at h0 h1 h2
  match cs, hl with
  | [a, b, c], _ =>
    obtain ⟨s0, e0, -, z0⟩ := DataW.trod_string Try.underlying9 h0
    obtain ⟨s1, e1, -, z1⟩ := DataW.trod_string Try.underlying9 h1
    obtain ⟨s2, e2, -, z2⟩ := DataW.trod_string Try.underlying9 h2
    obtain rfl : a = .string s0 := by simpa using e0
    obtain rfl : b = .string s1 := by simpa using e1
    obtain rfl : c = .string s2 := by simpa using e2
    exact ⟨⟨s0, s1, s2⟩, rfl, ⟨z0, z1, z2⟩⟩
instance : Inhabited Rt := ⟨Rt.zero⟩
theorem cells_three {a : Addr} {cs : List Value} {x y z : Value} (h : w.cells? base a 3 = some cs) (e : cs = [x, y, z]) : a = ⟨a.block, a.off, none⟩ ∧ w.cell? ⟨a.block, a.off, none⟩ = some x ∧ w.cell? ⟨a.block, a.off + 1, none⟩ = some y ∧ w.cell? ⟨a.block, a.off + 2, none⟩ = some z := by
  subst e
  obtain ⟨_, _, hc⟩ := World.cells?_some h
  have h0 := (hc 0 (by decide)).trans (show _ = some x from rfl)
  have h1 := (hc 1 (by decide)).trans (show _ = some y from rfl)
  have h2 := (hc 2 (by decide)).trans (show _ = some z from rfl)
  have e0 : a.add 0 = a := by simp [Addr.add]
  rw [e0] at h0
  have hA := plain_addr h0
  rw [hA] at h0 h1 h2
  rw [add_plain] at h1 h2
  exact ⟨hA, h0, h1, h2⟩
theorem rts_of {fuel : Nat} {x : Value} {y : DataW H × List MemPlace} (h : DataW.trod enc Try.prog w base spare held fuel 22 [x] = some y) :
    ∃ A l c, x = .slice A (List.length l) c ∧ l.length ≤ c ∧ c ≤ maxLen ∧ Rts w A l ∧ Rts.Ok l := by
  rcases open_slice Try.underlying22 h with ⟨hcs, -⟩ | ⟨a, len, cap, m, n, D, Pl, hcs, -, hl, hm, hmm, -, hx⟩
  · obtain rfl : x = .slice none 0 0 := by simpa using hcs
    exact ⟨none, [], 0, rfl, Nat.le_refl _, by decide, fun i hi => absurd hi (Nat.not_lt_zero _), ⟨fun r hr => by cases hr⟩⟩
  · obtain rfl : x = .slice (some a) len cap := by simpa using hcs
    have hlm : len ≤ m := by rw [hmm]; split <;> omega
    rw [cells_p1.2.2.2.2.1] at hx
    obtain ⟨f, hf⟩ := choose_lt (α := Rt) (n := len) (p := fun i r => w.cells? base (a.add (i * 3)) 3 = some [.string r.pre, .string r.pro, .string r.dst] ∧ r.Ok) (fun i hi => by
      obtain ⟨cs', h1, h2⟩ := hx i (by omega)
      obtain ⟨_, hlen, _⟩ := World.cells?_some h1
      obtain ⟨r, rfl, hr⟩ := route_of h2 hlen
      exact ⟨r, h1, hr⟩)
    refine ⟨some a, (List.range len).map f, cap, by simp, by simpa using hl, hm, fun i hi => ?_, ?_⟩
    · have hi' : i < len := by simpa using hi
      have hA := (cells_three (hf 0 (by omega)).1 rfl).1
      have h2 : a.add (0 * 3) = a := by simp [Addr.add]
      rw [h2] at hA
      refine ⟨a.block, a.off, congrArg some hA, ?_⟩
      have hc := cells_three (hf i hi').1 rfl
      rw [hA, add_plain] at hc
      simpa using hc.2
    · refine ⟨fun r hr => ?_⟩
      obtain ⟨i, hi, rfl⟩ := List.mem_map.1 hr
      exact (hf i (List.mem_range.1 hi)).2
theorem cfg_of {b0 : Nat} {v : Value} {d : DataW H} {p : List MemPlace} (hv : Value.okWide Try.prog w .any b0 25 v) (h : DataW.Trod enc Try.prog w base spare held 25 v d p) :
    ∃ c : Cfg, v = c.val ∧ c.Ok w ∧ Rts.Ok c.rs ∧ ∀ s ∈ c.os, s.size ≤ maxLen := by
  obtain ⟨cs, rfl, hsz⟩ := okWide_struct Try.underlying25 hv
  obtain ⟨c0, c1, c2, c3, c4, c5, c6, c7, c8, c9, c10, c11, rfl⟩ := array12 (hsz.trans cells_p1.2.2.2.2.2)
  obtain ⟨fuel, hf⟩ := h
  obtain ⟨xs, n, -, -, -, hlen, hfi⟩ := DataW.trod_struct Try.underlying25 hf
  have hx : ∀ i, i < 12 → ∃ y, xs[i]? = some y := fun i hi => ⟨_, List.getElem?_eq_getElem (by rw [hlen]; exact hi)⟩
  obtain ⟨y0, e0⟩ := hx 0 (by decide)
  obtain ⟨y1, e1⟩ := hx 1 (by decide)
  have g0 : DataW.trod enc Try.prog w base spare held n 22 (([c0, c1, c2, c3, c4, c5, c6, c7, c8, c9, c10, c11].drop 0).take (Try.prog.cellsOf 22)) = some y0 := (hfi 0 _ rfl).trans e0
  have g1 : DataW.trod enc Try.prog w base spare held n 23 (([c0, c1, c2, c3, c4, c5, c6, c7, c8, c9, c10, c11].drop 1).take (Try.prog.cellsOf 23)) = some y1 := (hfi 1 _ rfl).trans e1
  rw [cells_p1.1] at g0
  rw [cells_p1.2.1] at g1
  obtain ⟨y2, e2⟩ := hx 2 (by decide)
  have g2 : DataW.trod enc Try.prog w base spare held n 3 (([c0, c1, c2, c3, c4, c5, c6, c7, c8, c9, c10, c11].drop 2).take (Try.prog.cellsOf 3)) = some y2 := (hfi 2 _ rfl).trans e2
  rw [cells_p1.2.2.1] at g2
  obtain ⟨y3, e3⟩ := hx 3 (by decide)
  have g3 : DataW.trod enc Try.prog w base spare held n 3 (([c0, c1, c2, c3, c4, c5, c6, c7, c8, c9, c10, c11].drop 3).take (Try.prog.cellsOf 3)) = some y3 := (hfi 3 _ rfl).trans e3
  rw [cells_p1.2.2.1] at g3
  obtain ⟨y4, e4⟩ := hx 4 (by decide)
  have g4 : DataW.trod enc Try.prog w base spare held n 3 (([c0, c1, c2, c3, c4, c5, c6, c7, c8, c9, c10, c11].drop 4).take (Try.prog.cellsOf 3)) = some y4 := (hfi 4 _ rfl).trans e4
  rw [cells_p1.2.2.1] at g4
  obtain ⟨y5, e5⟩ := hx 5 (by decide)
  have g5 : DataW.trod enc Try.prog w base spare held n 3 (([c0, c1, c2, c3, c4, c5, c6, c7, c8, c9, c10, c11].drop 5).take (Try.prog.cellsOf 3)) = some y5 := (hfi 5 _ rfl).trans e5
  rw [cells_p1.2.2.1] at g5
  obtain ⟨y6, e6⟩ := hx 6 (by decide)
  have g6 : DataW.trod enc Try.prog w base spare held n 3 (([c0, c1, c2, c3, c4, c5, c6, c7, c8, c9, c10, c11].drop 6).take (Try.prog.cellsOf 3)) = some y6 := (hfi 6 _ rfl).trans e6
  rw [cells_p1.2.2.1] at g6
  obtain ⟨y7, e7⟩ := hx 7 (by decide)
  have g7 : DataW.trod enc Try.prog w base spare held n 3 (([c0, c1, c2, c3, c4, c5, c6, c7, c8, c9, c10, c11].drop 7).take (Try.prog.cellsOf 3)) = some y7 := (hfi 7 _ rfl).trans e7
  rw [cells_p1.2.2.1] at g7
  obtain ⟨y8, e8⟩ := hx 8 (by decide)
  have g8 : DataW.trod enc Try.prog w base spare held n 3 (([c0, c1, c2, c3, c4, c5, c6, c7, c8, c9, c10, c11].drop 8).take (Try.prog.cellsOf 3)) = some y8 := (hfi 8 _ rfl).trans e8
  rw [cells_p1.2.2.1] at g8
  obtain ⟨y9, e9⟩ := hx 9 (by decide)
  have g9 : DataW.trod enc Try.prog w base spare held n 3 (([c0, c1, c2, c3, c4, c5, c6, c7, c8, c9, c10, c11].drop 9).take (Try.prog.cellsOf 3)) = some y9 := (hfi 9 _ rfl).trans e9
  rw [cells_p1.2.2.1] at g9
  obtain ⟨y10, e10⟩ := hx 10 (by decide)
  have g10 : DataW.trod enc Try.prog w base spare held n 3 (([c0, c1, c2, c3, c4, c5, c6, c7, c8, c9, c10, c11].drop 10).take (Try.prog.cellsOf 3)) = some y10 := (hfi 10 _ rfl).trans e10
  rw [cells_p1.2.2.1] at g10
  obtain ⟨y11, e11⟩ := hx 11 (by decide)
  have g11 : DataW.trod enc Try.prog w base spare held n 3 (([c0, c1, c2, c3, c4, c5, c6, c7, c8, c9, c10, c11].drop 11).take (Try.prog.cellsOf 3)) = some y11 := (hfi 11 _ rfl).trans e11
  rw [cells_p1.2.2.1] at g11
  obtain ⟨A0, rs, k0, rfl, rc, cm, hr, hro⟩ := rts_of (x := c0) g0
  obtain ⟨A1, os, k1, rfl, oc, om, ho, hos⟩ := strs_of (x := c1) g1
  obtain ⟨n2, q2, -, -⟩ := DataW.trod_int Try.underlying3 g2
  obtain rfl : c2 = .int .i64 n2 := List.cons.inj q2 |>.1
  obtain ⟨n3, q3, -, -⟩ := DataW.trod_int Try.underlying3 g3
  obtain rfl : c3 = .int .i64 n3 := List.cons.inj q3 |>.1
  obtain ⟨n4, q4, -, -⟩ := DataW.trod_int Try.underlying3 g4
  obtain rfl : c4 = .int .i64 n4 := List.cons.inj q4 |>.1
  obtain ⟨n5, q5, -, -⟩ := DataW.trod_int Try.underlying3 g5
  obtain rfl : c5 = .int .i64 n5 := List.cons.inj q5 |>.1
  obtain ⟨n6, q6, -, -⟩ := DataW.trod_int Try.underlying3 g6
  obtain rfl : c6 = .int .i64 n6 := List.cons.inj q6 |>.1
  obtain ⟨n7, q7, -, -⟩ := DataW.trod_int Try.underlying3 g7
  obtain rfl : c7 = .int .i64 n7 := List.cons.inj q7 |>.1
  obtain ⟨n8, q8, -, -⟩ := DataW.trod_int Try.underlying3 g8
  obtain rfl : c8 = .int .i64 n8 := List.cons.inj q8 |>.1
  obtain ⟨n9, q9, -, -⟩ := DataW.trod_int Try.underlying3 g9
  obtain rfl : c9 = .int .i64 n9 := List.cons.inj q9 |>.1
  obtain ⟨n10, q10, -, -⟩ := DataW.trod_int Try.underlying3 g10
  obtain rfl : c10 = .int .i64 n10 := List.cons.inj q10 |>.1
  obtain ⟨n11, q11, -, -⟩ := DataW.trod_int Try.underlying3 g11
  obtain rfl : c11 = .int .i64 n11 := List.cons.inj q11 |>.1
  exact ⟨⟨A0, A1, k0, k1, rs, os, n2, n3, n4, n5, n6, n7, n8, n9, n10, n11⟩, rfl, ⟨Nat.le_trans rc cm, rc, cm, Nat.le_trans oc om, hr, ho⟩, hro, hos⟩
end
end Go.Proofs.Ythdmibjeomhibaa
