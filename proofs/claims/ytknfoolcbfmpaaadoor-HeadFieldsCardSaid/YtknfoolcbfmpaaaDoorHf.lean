/- head.field: the field of a line; conditions: the library's bound lies where it is laid, lines of lengths that a world can hold. -/
import Derived.Test.YtknfoolcbfmpaaaDoorHe
import Derived.BigRegion
namespace Go.Proofs.YtknfoolcbfmpaaaDoor
set_option linter.unusedSimpArgs false
set_option linter.unusedVariables false
open Go.RowKit
def trimW (l : List UInt8) : List UInt8 := Lib.trimS l [32, 9]
/-- A line's name and value, and whether they are a field. -/
def fldB (l : List UInt8) : (List UInt8 × List UInt8) × Bool :=
  ((( Lib.cut l [58]).1, trimW (Lib.cut l [58]).2.1), (Lib.cut l [58]).2.2 && tokB (Lib.cut l [58]).1 && valueB (trimW (Lib.cut l [58]).2.1))
theorem trimW_len (l : List UInt8) : (trimW l).length ≤ l.length := by
  unfold trimW Lib.trimS Lib.trimLeftS Lib.trimRightS
  have h1 := (List.dropWhile_sublist (l := (l.reverse.dropWhile (([32, 9] : List UInt8).contains ·)).reverse) (([32, 9] : List UInt8).contains ·)).length_le
  have h2 := (List.dropWhile_sublist (l := l.reverse) (([32, 9] : List UInt8).contains ·)).length_le
  rw [List.length_reverse] at h1 h2
  omega
theorem cut_len (l s : List UInt8) : (Lib.cut l s).1.length ≤ l.length ∧ (Lib.cut l s).2.1.length ≤ l.length := by
  unfold Lib.cut
  split
  · constructor
    · exact List.length_take_le' _ _
    · simp
  · simp
theorem trim_calls (s : ByteArray) (w : World) (hs : s.size ≤ maxLen) :
    Calls Tryd.prog 53 #[.string s, .string ⟨#[32, 9]⟩] w fun e w' => e = .returned (.string (mk (trimW (bs s)))) ∧ Below w.heap.size w w' :=
  Any.strings_Trim_laid Tryd.lays160 (by kernel_rfl) s ⟨#[32, 9]⟩ w hs (by decide) (ascii_of_all (by decide))
/-- What field leaves. -/
def FP (w : World) (s : ByteArray) (e : Ending) (w' : World) : Prop := ∃ nm vl ok, e = .returned (.tuple #[.agg #[.string nm, .string vl], .bool ok]) ∧ nm.size ≤ s.size ∧ vl.size ≤ s.size ∧ Hid (fldB (bs s) = ((bs nm, bs vl), ok)) ∧ Below w.heap.size w w'
set_option maxRecDepth 100000 in
set_option maxHeartbeats 4000000 in
theorem field_calls (s : ByteArray) (w : World) (hs : s.size ≤ 100000) (hm : MaxL w) : Calls Tryd.prog 39 #[.string s] w (FP w s) := by
  obtain ⟨m, hm⟩ := hm
  have hcell := ((bcell (below_alloc1 w (.cells #[.string ⟨#[]⟩, .string ⟨#[]⟩] 48 (0, 0)))).1 0 0 (cell_lt hm)).trans hm
  have hcut := Tryd.strings_Cut s ⟨#[58]⟩ m _ (by omega) hcell
  obtain ⟨C, hC⟩ : ∃ C, C = Lib.cut (bs s) [58] := ⟨_, rfl⟩
  have hl := cut_len (bs s) [58]
  rw [← hC, bs_length] at hl
  have HF : Hid (fldB (bs s) = ((C.1, trimW C.2.1), C.2.2 && tokB C.1 && valueB (trimW C.2.1))) := Lib.hid (by rw [hC]; rfl)
  change Calls _ _ _ _ (fun e w' => e = .returned (.tuple #[.string (mk (Lib.cut (bs s) [58]).1), .string (mk (Lib.cut (bs s) [58]).2.1), .bool (Lib.cut (bs s) [58]).2.2]) ∧ _) at hcut
  rw [← hC] at hcut
  clear hC hcell hm
  obtain ⟨c1, c2, c3⟩ := C
  simp only at hl HF hcut
  obtain ⟨nm, hnm⟩ : ∃ nm, nm = mk c1 := ⟨_, rfl⟩
  obtain ⟨rs, hrs⟩ : ∃ rs, rs = mk c2 := ⟨_, rfl⟩
  obtain ⟨vl, hvl⟩ : ∃ vl, vl = mk (trimW (bs rs)) := ⟨_, rfl⟩
  have hn : nm.size ≤ s.size := by rw [hnm, mk_size]; exact hl.1
  have hr : rs.size ≤ s.size := by rw [hrs, mk_size]; exact hl.2
  have hv : vl.size ≤ s.size := by rw [hvl, mk_size]; have := trimW_len (bs rs); rw [bs_length] at this; omega
  have htr := fun w => trim_calls rs w (mx (by omega))
  rw [← hvl] at htr
  have htk := fun w => Token_calls nm w (mx (by omega))
  have hvq := fun w => value_quiet vl w (mx (by omega))
  rw [← hnm, ← hrs] at hcut
  rw [show c1 = bs nm by rw [hnm, bs_mk], show c2 = bs rs by rw [hrs, bs_mk], show trimW (bs rs) = bs vl by rw [hvl, bs_mk]] at HF
  clear hnm hrs hvl hl
  generalize tokB (bs nm) = q1 at htk HF
  generalize valueB (bs vl) = q2 at hvq HF
  have HB0 := Lib.hid (below_alloc1 w (.cells #[.string ⟨#[]⟩, .string ⟨#[]⟩] 48 (0, 0)))
  go_enter Tryd.func39, Tryd.ntmps39
  go_upto_region 3 with (first
    | (go_at_call 61; refine hcut.mono ?_; rintro e w1 ⟨rfl, n, rfl⟩)
    | (go_at_call 53; refine (htr _).mono ?_; rintro e w2 ⟨rfl, hb⟩; have HB1 := Lib.hid hb; clear hb))
  obtain ⟨W3, hW3⟩ : ∃ W3, W3 = w2.alloc (.cells #[.string nm, .string vl] 48 (0, 0)) := ⟨_, rfl⟩
  have hb3 : Below w2.heap.size w2 W3 := hW3 ▸ below_alloc1 w2 _
  have h70 : W3.cell? ⟨w2.heap.size, 0, none⟩ = some (.string nm) := hW3 ▸ (alloc_cell w2 _ _ 0).trans rfl
  have h71 : W3.cell? ⟨w2.heap.size, 1, none⟩ = some (.string vl) := hW3 ▸ (alloc_cell w2 _ _ 1).trans rfl
  have HB3 : Hid (Below w.heap.size w W3) := Lib.hid (bt (bt (below_drewN (below_alloc1 w _) n) HB1.out) hb3)
  have hBk : Blk W3 w.heap.size #[.string ⟨#[]⟩, .string ⟨#[]⟩] 48 := (((Blk.new' w #[.string ⟨#[]⟩, .string ⟨#[]⟩] 48 rfl).below (below_drewN1 _ n)).below HB1.out).below hb3
  have h20 : W3.cell? ⟨w.heap.size, 0, none⟩ = some (.string ⟨#[]⟩) := (hBk.cell 0).trans rfl
  have h21 : W3.cell? ⟨w.heap.size, 1, none⟩ = some (.string ⟨#[]⟩) := (hBk.cell 1).trans rfl
  have k20 : W3.frozen? ⟨w.heap.size, 0, none⟩ = false := hBk.frozen 0
  have k21 : W3.frozen? ⟨w.heap.size, 1, none⟩ = false := hBk.frozen 1
  rw [← hW3]
  clear hW3 hb3 hBk
  cases c3
  · go_region
    go_wp2
    refine bodyPost_ret (v := .tuple #[.agg #[.string nm, .string vl], .bool false]) ?_ rfl ⟨nm, vl, false, rfl, hn, hv, ?_, ?_⟩
    · rw [results_cell_tmp rfl]; go_simp
    · exact Lib.hid (by rw [HF.out]; rfl)
    · exact (below_set (below_set HB3.out (Nat.le_refl _) 0 _) (Nat.le_refl _) 1 _).drew
  · cases q1
    · first
        | (go_region_with (go_at_call 23; refine (htk _).mono ?_; rintro e w5 ⟨rfl, rfl⟩))
        | fail
      all_goals
        go_wp2
        refine bodyPost_ret (v := .tuple #[.agg #[.string nm, .string vl], .bool false]) ?_ rfl ⟨nm, vl, false, rfl, hn, hv, ?_, ?_⟩
        · rw [results_cell_tmp rfl]; go_simp
        · exact Lib.hid (by rw [HF.out]; rfl)
        · exact (below_set (below_set HB3.out.drew (Nat.le_refl _) 0 _) (Nat.le_refl _) 1 _)
    · go_region_with (first
        | (go_at_call 23; refine (htk _).mono ?_; rintro e w5 ⟨rfl, rfl⟩)
        | (go_at_call 32; refine (hvq _).mono ?_; rintro e w5 ⟨rfl, n5, rfl⟩))
      all_goals
        go_wp2
        refine bodyPost_ret (v := .tuple #[.agg #[.string nm, .string vl], .bool q2]) ?_ rfl ⟨nm, vl, q2, rfl, hn, hv, ?_, ?_⟩
        · rw [results_cell_tmp rfl]; go_simp
        · exact Lib.hid (by rw [HF.out]; rfl)
        · exact (below_set (below_set (below_drewN HB3.out _) (Nat.le_refl _) 0 _) (Nat.le_refl _) 1 _)
end Go.Proofs.YtknfoolcbfmpaaaDoor
