/- The document's Read: where no head's end is; condition: the text is not too great. -/
import Derived.Test.YtknfoolcbfmpaaaDoorHi
import Derived.Test.YtknfoolcbfmpaaaDoorIb
import Derived.Test.YtknfoolcbfmpaaaDoorIc
import Derived.Test.YtknfoolcbfmpaaaDoorIe
namespace Go.Proofs.YtknfoolcbfmpaaaDoor
set_option linter.unusedSimpArgs false
set_option linter.unusedVariables false
open Go.RowKit
theorem slice_4 (s : ByteArray) (i : Nat) (h : i + 4 ≤ s.size) (w : World) : (Instr.slice 9 (.string s) (some (.int .i64 (i : Int))) (some (.int .i64 ((i : Int) + 4))) none).run Tryd.prog w = .ok (.string (s.extract i (i + 4))) w := by
  have e := run_slice_string (P := Tryd.prog) w 9 s .i64 .i64 (i : Int) ((i : Int) + 4) Tryd.underlying9 (by omega) (by omega) (by omega)
  rw [e, Int.toNat_natCast, show ((i : Int) + 4).toNat = i + 4 by omega]
theorem slice_2 (s : ByteArray) (i : Nat) (h : i + 2 ≤ s.size) (w : World) : (Instr.slice 9 (.string s) (some (.int .i64 (i : Int))) (some (.int .i64 ((i : Int) + 2))) none).run Tryd.prog w = .ok (.string (s.extract i (i + 2))) w := by
  have e := run_slice_string (P := Tryd.prog) w 9 s .i64 .i64 (i : Int) ((i : Int) + 2) Tryd.underlying9 (by omega) (by omega) (by omega)
  rw [e, Int.toNat_natCast, show ((i : Int) + 2).toNat = i + 2 by omega]
theorem test_4 (s : ByteArray) (i : Nat) (h : i + 4 ≤ s.size) : ((s.extract i (i + 4)).toList == [13, 10, 13, 10]) = Lib.occAt (bs s) endB i := by
  have e : (⟨#[13, 10, 13, 10]⟩ : ByteArray).toList = [13, 10, 13, 10] := by rw [toList_bs]
  rw [← e]; exact (Lib.occ_of_piece s ⟨#[13, 10, 13, 10]⟩ i h).symm
theorem test_2 (s : ByteArray) (i : Nat) (h : i + 2 ≤ s.size) : ((s.extract i (i + 2)).toList == [13, 10]) = Lib.occAt (bs s) crlf i := by
  have e : (⟨#[13, 10]⟩ : ByteArray).toList = [13, 10] := by rw [toList_bs]
  rw [← e]; exact (Lib.occ_of_piece s ⟨#[13, 10]⟩ i h).symm
set_option maxRecDepth 100000 in
set_option maxHeartbeats 4000000 in
theorem RefRead_more (s : ByteArray) (w : World) (hs : s.size ≤ 100000) (hN : Lib.index ((bs s).take 2048) endB < 0) :
    Calls Tryd.prog 19 #[.string s] w (RP w (bs s)) := by
  obtain ⟨W0, hW0⟩ : ∃ W0, W0 = w.alloc (.cells (hCells ⟨#[]⟩ ⟨#[]⟩ ⟨#[]⟩ (.slice none 0 0)) 25 (0, 0)) := ⟨_, rfl⟩
  have HB0 : Hid (Below w.heap.size w W0) := Lib.hid (hW0 ▸ below_alloc1 w _)
  have HR0 : Hid (Blk W0 w.heap.size (hCells ⟨#[]⟩ ⟨#[]⟩ ⟨#[]⟩ (.slice none 0 0)) 25) := Lib.hid (hW0 ▸ Blk.new' w _ _ rfl)
  have HNO : Hid (∀ i : Nat, Lib.NoOcc (bs s) endB i → i + 4 ≤ s.size → i + 4 ≤ 2048 → Lib.occAt (bs s) endB i = false) := Lib.hid fun i hno h1 h2 => by
    cases ho : Lib.occAt (bs s) endB i with
    | false => rfl
    | true =>
      have := end_hit ho hno (by rw [bs_length]; exact h1) h2
      omega
  have HQ : Hid (readB (bs s) = ⟨nilP, 0, if 2048 ≤ s.size then 51 else 50⟩) := Lib.hid (by rw [read_less _ hN, bs_length])
  unfold RP
  generalize readB (bs s) = RR at HQ ⊢
  go_enter Tryd.func19, Tryd.ntmps19
  go_upto_region 1 with (fail)
  rw [← hW0]
  clear hW0
  go_wp2
  go_loopg [5, 6] (s.size + 1) (fun gh v5 v6 wx => ∃ i : Nat, v6 = .int .i64 i ∧ i + gh = s.size + 1 ∧ v5 = .int .i64 (-1) ∧ Hid (Lib.NoOcc (bs s) endB i) ∧ wx = W0)
  case atStart => exact ⟨0, rfl, by omega, rfl, Lib.hid (Lib.NoOcc.zero _ _), rfl⟩
  case round =>
    obtain ⟨i, rfl, hi, rfl, HI, rfl⟩ := hrel
    by_cases h1 : i + 4 ≤ s.size ∧ i + 4 ≤ 2048
    · obtain ⟨h1, h2⟩ := h1
      have hsl := fun w => slice_4 s i h1 w
      have HO := Lib.hid (HNO.out i HI.out h1 h2)
      have ht := test_4 s i h1
      rw [HO.out] at ht
      have HI2 := Lib.hid (HI.out.succ HO.out)
      have hd1 : decide ((i : Int) + 4 ≤ (s.size : Int)) = true := decide_eq_true (by omega)
      have hd2 : decide ((i : Int) + 4 ≤ (2048 : Int)) = true := decide_eq_true (by omega)
      clear HO
      go_wp2
      go_roundg (s.size + 1 - (i + 1))
      case measure => omega
      case rel => exact ⟨i + 1, by go_num, by omega, rfl, HI2, rfl⟩
    · by_cases h20 : 2048 ≤ s.size
      · have HQ2 : Hid (RR = ⟨nilP, 0, 51⟩) := Lib.hid (by rw [HQ.out, if_pos h20])
        have hd : decide ((2048 : Int) ≤ (s.size : Int)) = true := decide_eq_true (by omega)
        have z0 := (HR0.out.cell 0).trans rfl
        have z1 := (HR0.out.cell 1).trans rfl
        have z2 := (HR0.out.cell 2).trans rfl
        have z3 := (HR0.out.cell 3).trans rfl
        have k0 := HR0.out.frozen 0
        have k1 := HR0.out.frozen 1
        have k2 := HR0.out.frozen 2
        have k3 := HR0.out.frozen 3
        clear HQ HI
        by_cases h3 : i + 4 ≤ s.size
        all_goals
          first
            | (have hd1 : decide ((i : Int) + 4 ≤ (s.size : Int)) = true := decide_eq_true (by omega)
               have hd2 : decide ((i : Int) + 4 ≤ (2048 : Int)) = false := decide_eq_false (by omega))
            | (have hd1 : decide ((i : Int) + 4 ≤ (s.size : Int)) = false := decide_eq_false (by omega))
          go_wp2
          refine bodyPost_ret (v := .tuple #[nilH.val, .int .i64 0, .int .i64 51]) ?_ rfl ⟨nilH, 0, 51, rfl, HQ2.out, nilH_ok _, ?_⟩
          · rw [results_cell_tmp2 rfl]; go_simp
          · exact below_set (below_set (below_set (below_set HB0.out (Nat.le_refl _) 0 _) (Nat.le_refl _) 1 _) (Nat.le_refl _) 2 _) (Nat.le_refl _) 3 _
      · have HQ2 : Hid (RR = ⟨nilP, 0, 50⟩) := Lib.hid (by rw [HQ.out, if_neg h20])
        have hd : decide ((2048 : Int) ≤ (s.size : Int)) = false := decide_eq_false (by omega)
        have z0 := (HR0.out.cell 0).trans rfl
        have z1 := (HR0.out.cell 1).trans rfl
        have z2 := (HR0.out.cell 2).trans rfl
        have z3 := (HR0.out.cell 3).trans rfl
        have k0 := HR0.out.frozen 0
        have k1 := HR0.out.frozen 1
        have k2 := HR0.out.frozen 2
        have k3 := HR0.out.frozen 3
        have hd1 : decide ((i : Int) + 4 ≤ (s.size : Int)) = false := decide_eq_false (by omega)
        clear HQ HI
        go_wp2
        refine bodyPost_ret (v := .tuple #[nilH.val, .int .i64 0, .int .i64 50]) ?_ rfl ⟨nilH, 0, 50, rfl, HQ2.out, nilH_ok _, ?_⟩
        · rw [results_cell_tmp2 rfl]; go_simp
        · exact below_set (below_set (below_set (below_set HB0.out (Nat.le_refl _) 0 _) (Nat.le_refl _) 1 _) (Nat.le_refl _) 2 _) (Nat.le_refl _) 3 _
end Go.Proofs.YtknfoolcbfmpaaaDoor
