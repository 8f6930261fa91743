/- What the chapter's example fixes holds; condition: the library's bound lies where it is laid. -/
import Derived.Test.YtknfoolcbfmpaaaDoorHm
namespace Go.Proofs.YtknfoolcbfmpaaaDoor
set_option linter.unusedSimpArgs false
set_option linter.unusedVariables false
open Go.RowKit
def eq3B (a b c x y z : ByteArray) : Bool := decide (bs a = bs x) && decide (bs b = bs y) && decide (bs c = bs z)
theorem eq3 (a b c x y z : ByteArray) (w : World) : (Op.equalIn 10000 22 (.agg #[.string a, .string b, .string c]) (.agg #[.string x, .string y, .string z])).run Tryd.prog w = .ok (eq3B a b c x y z) w := by
  have u3 := Tryd.underlying9
  have a3 := Tryd.isAgg9
  have z3 := Tryd.sizeOf9
  rw [show (10000 : Nat) = 9999 + 1 from rfl, Op.equalIn]
  simp only [Sem.run_bind, run_underlying Tryd.underlying22, Result.andThen_ok]
  simp only [Std.Legacy.Range.forIn_eq_forIn_range', Std.Legacy.Range.size, Nat.sub_zero, Nat.add_sub_cancel, Nat.div_one, List.range'_succ, List.range'_zero, List.forIn_cons, List.forIn_nil]
  go_simp
  unfold eq3B
  by_cases h1 : bs a = bs x <;> by_cases h2 : bs b = bs y <;> by_cases h3 : bs c = bs z <;> simp [h1, h2, h3, toList_bs]
def exT : List UInt8 := [71, 69, 84, 32, 47, 32, 72, 84, 84, 80, 47, 49, 46, 49, 13, 10, 72, 111, 115, 116, 58, 32, 97, 13, 10, 13, 10]
def exB : List UInt8 := exT ++ [109, 111, 114, 101]
def exP : Pd := ⟨[71, 69, 84], [47], [72, 84, 84, 80, 47, 49, 46, 49], [([72, 111, 115, 116], [97])]⟩
@[reducible] def exH (A : Option Addr) (k : Nat) : Hd := ⟨⟨#[71, 69, 84]⟩, ⟨#[47]⟩, ⟨#[72, 84, 84, 80, 47, 49, 46, 49]⟩, A, k, [⟨⟨#[72, 111, 115, 116]⟩, ⟨#[97]⟩⟩]⟩
theorem ex_read : readB exB = ⟨exP, 27, 0⟩ := by kernel_rfl
theorem ex_check : checkP exP = 0 := by kernel_rfl
theorem ex_text : textP exP = exT := by kernel_rfl
theorem ex_get : getF ⟨#[104, 79, 83, 84]⟩ [⟨⟨#[72, 111, 115, 116]⟩, ⟨#[97]⟩⟩] = [⟨#[97]⟩] := by kernel_rfl
theorem ex_hd (h : Hd) (e : h.pd = exP) : h = exH h.A h.k := by
  obtain ⟨a, b, c, A, k, fs⟩ := h
  obtain ⟨e1, e2, e3, e4⟩ := Pd.mk.inj e
  have h1 : a = ⟨#[71, 69, 84]⟩ := bs_inj e1
  have h2 : b = ⟨#[47]⟩ := bs_inj e2
  have h3 : c = ⟨#[72, 84, 84, 80, 47, 49, 46, 49]⟩ := bs_inj e3
  subst h1 h2 h3
  simp only at e4
  rcases fs with _ | ⟨f, _ | ⟨f2, fs⟩⟩
  · cases e4
  · obtain ⟨nm, vl⟩ := f
    have h5 := List.cons.inj e4
    have h6 := Prod.mk.inj h5.1
    have h7 : nm = ⟨#[72, 111, 115, 116]⟩ := bs_inj h6.1
    have h8 : vl = ⟨#[97]⟩ := bs_inj h6.2
    subst h7 h8
    rfl
  · have h5 := (List.cons.inj e4).2
    cases h5
theorem aw_read (g : Nat) (w : World) (hm : MaxL w) (hA : Bys w (some ⟨g, 0, none⟩) exB) :
    Calls Tryd.prog 16 #[.slice (some ⟨g, 0, none⟩) 31 31] w fun e w' => ∃ A k, e = .returned (.tuple #[(exH A k).val, .int .i64 27, .int .i64 0]) ∧ Hid ((exH A k).Ok w') ∧ Below w.heap.size w w' := by
  refine (Read_calls g 0 31 exB w (by decide) (by decide) (by decide) hm hA).mono ?_
  rintro e w' ⟨h, n, er, rfl, hr, hk, hb⟩
  rw [ex_read] at hr
  obtain ⟨e1, rfl, rfl⟩ := Rd.mk.inj hr
  have e2 := ex_hd h e1.symm
  refine ⟨h.A, h.k, by rw [← e2], Lib.hid (by rw [← e2]; exact hk), hb⟩
theorem ex_pd (A : Option Addr) (k : Nat) : (exH A k).pd = exP := rfl
theorem aw_show (A : Option Addr) (k : Nat) (w : World) (hk : (exH A k).Ok w) :
    Calls Tryd.prog 13 #[(exH A k).val] w fun e w' => ∃ A' c', e = .returned (.tuple #[.slice A' 27 c', .int .i64 0]) ∧ Hid (Bys w' A' exT) ∧ Below w.heap.size w w' := by
  refine (Show_calls (exH A k) w hk).mono ?_
  rintro e w' ⟨hb, h⟩
  rw [ex_pd, ex_check, ex_text] at h
  rcases h with ⟨h1, _⟩ | ⟨_, A', c', rfl, _, _, h3⟩
  · exact absurd rfl h1
  · exact ⟨A', c', rfl, Lib.hid h3, hb⟩
theorem aw_get (A : Option Addr) (k : Nat) (w : World) (hk : (exH A k).Ok w) :
    Calls Tryd.prog 21 #[(exH A k).val, .string ⟨#[104, 79, 83, 84]⟩] w fun e w' => ∃ A' c', e = .returned (.slice A' 1 c') ∧ Hid (Strs w' A' [⟨#[97]⟩]) ∧ Below w.heap.size w w' := by
  refine (Get_calls (exH A k) ⟨#[104, 79, 83, 84]⟩ w hk (by decide)).mono ?_
  rintro e w' ⟨A', c', rfl, _, _, h3, hb⟩
  rw [ex_get] at h3
  exact ⟨A', c', rfl, Lib.hid h3, hb⟩
theorem aw_check (A : Option Addr) (k : Nat) (w : World) (hk : (exH A k).Ok w) :
    Calls Tryd.prog 15 #[(exH A k).val] w fun e w' => e = .returned (.int .i64 0) ∧ Below w.heap.size w w' := by
  have h := Check_calls (exH A k) w hk
  rw [ex_pd, ex_check] at h
  exact h
theorem aw_row (A B : Option Addr) (c d : Nat) (w : World) (hA : Strs w A [⟨#[97]⟩]) (hB : Strs w B [⟨#[97]⟩]) :
    Calls Tryd.prog 20 #[.slice A 1 c, .slice B 1 d] w fun e w' => e = .returned (.bool true) ∧ ∃ n, w' = w.drewN n := by
  refine (Row_calls A B [⟨#[97]⟩] [⟨#[97]⟩] c d w (by decide) (by decide) hA hB).mono ?_
  rintro e w' ⟨rfl, h⟩
  exact ⟨ret_bool (by simp [rowB]), h⟩
theorem aw_tok (w : World) : Calls Tryd.prog 23 #[.string ⟨#[97, 45, 98]⟩] w fun e w' => e = .returned (.bool true) ∧ w' = w := Token_calls ⟨#[97, 45, 98]⟩ w (by decide)
theorem aw_same (w : World) : Calls Tryd.prog 25 #[.string ⟨#[97, 66]⟩, .string ⟨#[65, 98]⟩] w fun e w' => e = .returned (.bool true) ∧ ∃ n, w' = w.drewN n := Same_calls ⟨#[97, 66]⟩ ⟨#[65, 98]⟩ w (by decide) (by decide)
end Go.Proofs.YtknfoolcbfmpaaaDoor
