/- What the walks lean on, out of the row's condition and the world's shape; an argument of type api.Deed, opened. -/
import Derived.Test.YtkodepckfdpaiaaDoorSm
import Derived.Test.YtkodepckfdpaiaaDoorRows
import Derived.Handed
import Derived.SizedLaws
import Derived.LaidSub
import Derived.MakeChecks
import Derived.Lib.LaidTab
import Derived.Deep.Strs
import Derived.Lib.SmallJoins
import Derived.Carry
import Derived.ChangeSame
import Derived.Laws.IdiomArrays
namespace Go.Proofs.YtkodepckfdpaiaaDoor
set_option linter.unusedSimpArgs false
set_option linter.unusedVariables false
open Go.RowKit Go.ChangeShapes Go.WideShapes Go.Deep
abbrev lay20 : List (String × DataW Unit) := Rows.scriptApartRow.laid
theorem lay_tab {w : World} (h : laidMetH Tryd.prog lay20 w) : Lib.TabIs Tryd.prog w "internal/strconv.uint64pow10" .u64 Lib.pow10Tab := by
  have h1 := h.filter fun x => x.1 == "internal/strconv.uint64pow10"
  rw [show (lay20.filter fun x => x.1 == "internal/strconv.uint64pow10") = [("internal/strconv.uint64pow10", Lib.tabData .u64 Lib.pow10Tab)] by rfl, MakeChecks.laidMetH_plain _ _ _ (by kernel_rfl)] at h1
  obtain ⟨g, hg⟩ := g_tab
  exact Lib.tabIs_of_head (g := 3) (t := 113) (e := 95) (n := 20) (by kernel_rfl) (by kernel_rfl) Tryd.underlying113 Tryd.underlying95 (by kernel_rfl) (by kernel_rfl) h1
theorem lay_err {w : World} (n : String) (a : String) (d : DataW Unit) (g : Nat) (hn : Tryd.prog.globalNamed n = some g) (ht : (Tryd.prog.globals[g]?).map (·.type) = some 53) (h : laidMet Tryd.prog [(n, .iface a d)] w) : ∃ tp p, w.var? Tryd.prog n = some #[.iface tp p] := by
  obtain ⟨ps, ⟨g', t', cs, fuel, p, q, hg', ht', hvar, hd, _, _⟩, _⟩ := h
  obtain rfl := Option.some.inj (hn.symm.trans hg')
  obtain rfl := Option.some.inj (ht.symm.trans ht')
  cases fuel with
  | zero => simp [DataW.trod] at hd
  | succ fuel =>
    simp only [DataW.trod, Tryd.underlying53] at hd
    have key : ∃ tp q, cs.toList = [.iface tp q] := by
      generalize cs.toList = l at hd
      match l, hd with
      | [], hd => simp at hd
      | a :: b :: r, hd => simp at hd
      | [a], hd =>
        cases a <;> simp at hd
        exact ⟨_, _, rfl⟩
    obtain ⟨tp, q2, hcs⟩ := key
    refine ⟨tp, q2, ?_⟩
    rw [hvar]
    congr 1
    exact Array.toList_inj.1 hcs
theorem lay_es {w : World} (h : laidMetH Tryd.prog lay20 w) : ∃ tp p, w.var? Tryd.prog "strconv.ErrSyntax" = some #[.iface tp p] := by
  have h1 := h.filter fun x => x.1 == "strconv.ErrSyntax"
  rw [show (lay20.filter fun x => x.1 == "strconv.ErrSyntax") = [("strconv.ErrSyntax", Rows.laid_strconv_ErrSyntax)] by rfl, MakeChecks.laidMetH_plain _ _ _ (by kernel_rfl)] at h1
  exact lay_err _ _ _ 1 (by kernel_rfl) (by kernel_rfl) h1
theorem lay_er {w : World} (h : laidMetH Tryd.prog lay20 w) : ∃ tp p, w.var? Tryd.prog "strconv.ErrRange" = some #[.iface tp p] := by
  have h1 := h.filter fun x => x.1 == "strconv.ErrRange"
  rw [show (lay20.filter fun x => x.1 == "strconv.ErrRange") = [("strconv.ErrRange", Rows.laid_strconv_ErrRange)] by rfl, MakeChecks.laidMetH_plain _ _ _ (by kernel_rfl)] at h1
  exact lay_err _ _ _ 2 (by kernel_rfl) (by kernel_rfl) h1
theorem env_of {w : World} (h : laidMetH Tryd.prog lay20 w) (hm : MaxL w) : Env w := ⟨hm, lay_tab h, lay_es h, lay_er h⟩
theorem cells_d : Tryd.prog.cellsOf 9 = 1 ∧ Tryd.prog.cellsOf 3 = 1 ∧ Tryd.prog.cellsOf 4 = 1 ∧ Tryd.prog.cellsOf 27 = 6 := ⟨by kernel_rfl, by kernel_rfl, by kernel_rfl, by kernel_rfl⟩
theorem array6v {α : Type} {cs : Array α} (h : cs.size = 6) : ∃ c0 c1 c2 c3 c4 c5, cs = #[c0, c1, c2, c3, c4, c5] := by
  obtain ⟨l⟩ := cs
  match l, h with
  | [c0, c1, c2, c3, c4, c5], _ => exact ⟨c0, c1, c2, c3, c4, c5, rfl⟩
section
variable {H : Type} {enc : TypeId × Value → H} {w : World} {base : Nat} {spare : Nat → Bool} {held : Bool}
set_option maxRecDepth 100000 in
theorem dd_cells {fuel : Nat} {c0 c1 c2 c3 c4 c5 : Value} {y : DataW H × List MemPlace} (h : DataW.trod enc Tryd.prog w base spare held fuel 27 [c0, c1, c2, c3, c4, c5] = some y) :
    ∃ d : Dd, c0 = .string d.k ∧ c1 = .int .i64 d.i ∧ c2 = .int .i64 d.s ∧ c3 = .int .i64 d.n ∧ c4 = .bool d.o ∧ c5 = .string d.d ∧ d.In := by
  obtain ⟨xs, n, hmm, rfl, hl, hlen, hf⟩ := DataW.trod_struct Tryd.underlying27 h
  match xs, hlen, hf with
  | [y0, y1, y2, y3, y4, y5], _, hf =>
    have g0 : DataW.trod enc Tryd.prog w base spare held n 9 (([c0, c1, c2, c3, c4, c5].drop 0).take (Tryd.prog.cellsOf 9)) = some y0 := hf 0 _ rfl
    have g1 : DataW.trod enc Tryd.prog w base spare held n 3 (([c0, c1, c2, c3, c4, c5].drop 1).take (Tryd.prog.cellsOf 3)) = some y1 := hf 1 _ rfl
    have g2 : DataW.trod enc Tryd.prog w base spare held n 3 (([c0, c1, c2, c3, c4, c5].drop 2).take (Tryd.prog.cellsOf 3)) = some y2 := hf 2 _ rfl
    have g3 : DataW.trod enc Tryd.prog w base spare held n 3 (([c0, c1, c2, c3, c4, c5].drop 3).take (Tryd.prog.cellsOf 3)) = some y3 := hf 3 _ rfl
    have g4 : DataW.trod enc Tryd.prog w base spare held n 4 (([c0, c1, c2, c3, c4, c5].drop 4).take (Tryd.prog.cellsOf 4)) = some y4 := hf 4 _ rfl
    have g5 : DataW.trod enc Tryd.prog w base spare held n 9 (([c0, c1, c2, c3, c4, c5].drop 5).take (Tryd.prog.cellsOf 9)) = some y5 := hf 5 _ rfl
    rw [cells_d.1] at g0 g5
    rw [cells_d.2.1] at g1 g2 g3
    rw [cells_d.2.2.1] at g4
    obtain ⟨s0, q0, -, z0⟩ := DataW.trod_string Tryd.underlying9 g0
    obtain ⟨n1, q1, -, z1⟩ := DataW.trod_int Tryd.underlying3 g1
    obtain ⟨n2, q2, -, z2⟩ := DataW.trod_int Tryd.underlying3 g2
    obtain ⟨n3, q3, -, z3⟩ := DataW.trod_int Tryd.underlying3 g3
    obtain ⟨b4, q4, -⟩ := DataW.trod_bool Tryd.underlying4 g4
    obtain ⟨s5, q5, -, z5⟩ := DataW.trod_string Tryd.underlying9 g5
    obtain rfl : c0 = .string s0 := List.cons.inj q0 |>.1
    obtain rfl : c1 = .int .i64 n1 := List.cons.inj q1 |>.1
    obtain rfl : c2 = .int .i64 n2 := List.cons.inj q2 |>.1
    obtain rfl : c3 = .int .i64 n3 := List.cons.inj q3 |>.1
    obtain rfl : c4 = .bool b4 := List.cons.inj q4 |>.1
    obtain rfl : c5 = .string s5 := List.cons.inj q5 |>.1
    have hr : ∀ m : Int, (Lit.int .i64 m).wf = true → -9223372036854775808 ≤ m ∧ m ≤ 9223372036854775807 := fun m h => by simpa [Lit.wf, IntKind.min, IntKind.max, IntKind.signed, IntKind.bits] using h
    exact ⟨⟨s0, n1, n2, n3, b4, s5⟩, rfl, rfl, rfl, rfl, rfl, rfl, ⟨hr _ z1, hr _ z2, hr _ z3, z5⟩⟩
set_option maxRecDepth 100000 in
theorem dd_of {b0 : Nat} {v : Value} {d : DataW H} {p : List MemPlace} (hv : Value.okWide Tryd.prog w .any b0 27 v) (h : DataW.Trod enc Tryd.prog w base spare held 27 v d p) :
    ∃ c : Dd, v = c.val ∧ c.In := by
  obtain ⟨cs, rfl, hsz⟩ := okWide_struct Tryd.underlying27 hv
  obtain ⟨c0, c1, c2, c3, c4, c5, rfl⟩ := array6v (hsz.trans cells_d.2.2.2)
  obtain ⟨fuel, hf⟩ := h
  obtain ⟨d, rfl, rfl, rfl, rfl, rfl, rfl, hi⟩ := dd_cells hf
  exact ⟨d, rfl, hi⟩
end
end Go.Proofs.YtkodepckfdpaiaaDoor
