/- The document's Read: its first line is none; conditions: the library's bound lies where it is laid; the text is not too great. -/
import Derived.Test.YtknfoolcbfmpaaaDoorIj
namespace Go.Proofs.YtknfoolcbfmpaaaDoor
set_option linter.unusedSimpArgs false
set_option linter.unusedVariables false
open Go.RowKit
theorem end_facts {s : List UInt8} {n : Nat} (h : Lib.index (s.take 2048) endB = n) : Lib.occAt s endB n = true ∧ Lib.NoOcc s endB n ∧ n + 4 ≤ s.length ∧ n + 4 ≤ 2048 := by
  rcases Lib.index_spec (s.take 2048) endB with ⟨h1, _⟩ | ⟨i, h1, h2, h3, h4⟩
  · omega
  · obtain rfl : i = n := by omega
    have hr : i + 4 ≤ (s.take 2048).length := by
      rcases Lib.occAt_room h3 with h' | h'
      · exact h'
      · cases h'
    rw [List.length_take] at hr
    have ho : ∀ j, j ≤ i → Lib.occAt (s.take 2048) endB j = Lib.occAt s endB j := fun j hj => occ_take (show j + 4 ≤ 2048 by omega) (show j + 4 ≤ s.length by omega)
    exact ⟨(ho i (Nat.le_refl _)).symm.trans h3, fun j hj => (ho j (by omega)).symm.trans (h4 j hj), by omega, by omega⟩
theorem occ_end_crlf {s : List UInt8} {n : Nat} (h : Lib.occAt s endB n = true) : Lib.occAt s crlf n = true := by
  unfold Lib.occAt at h ⊢
  rw [List.isPrefixOf_iff_prefix] at h ⊢
  exact List.IsPrefix.trans ⟨[13, 10], rfl⟩ h
theorem slice_nn (s : ByteArray) (i j : Nat) (h : i ≤ j) (hj : j ≤ s.size) (w : World) : (Instr.slice 9 (.string s) (some (.int .i64 (i : Int))) (some (.int .i64 (j : Int))) none).run Tryd.prog w = .ok (.string (s.extract i j)) w := by
  have e := run_slice_string (P := Tryd.prog) w 9 s .i64 .i64 (i : Int) (j : Int) Tryd.underlying9 (by omega) (by omega) (by omega)
  rw [e, Int.toNat_natCast, Int.toNat_natCast]
theorem slice_from (s : ByteArray) (i : Nat) (h : i + 1 ≤ s.size) (w : World) : (Instr.slice 9 (.string s) (some (.int .i64 ((i : Int) + 1))) none none).run Tryd.prog w = .ok (.string (s.extract (i + 1) s.size)) w := by
  have e := run_slice_string_l (P := Tryd.prog) w 9 s Tryd.underlying9 .i64 ((i : Int) + 1) (by omega) (by omega)
  rw [e, show ((i : Int) + 1).toNat = i + 1 by omega]
theorem bs_ext (s : ByteArray) (i j : Nat) : bs (s.extract i j) = ((bs s).drop i).take (j - i) := by
  simp only [bs, ByteArray.data_extract, Array.toList_extract, List.extract_eq_take_drop]
theorem refStart {w W0 : World} (HB0 : Below w.heap.size w W0) (HR0 : Blk W0 w.heap.size (hCells ⟨#[]⟩ ⟨#[]⟩ ⟨#[]⟩ (.slice none 0 0)) 25) (HM0 : MaxL W0) (HS0 : W0.heap.size = w.heap.size + 1) :
    LS w 0 W0.heap.size [] ⟨#[]⟩ ⟨#[]⟩ ⟨#[]⟩ (.slice none 0 0) [] (W0.alloc (.cells (hCells ⟨#[]⟩ ⟨#[]⟩ ⟨#[]⟩ (.slice none 0 0)) 25 (0, 0))) := by
  have hne : w.heap.size ≠ W0.heap.size := by omega
  exact ⟨below_al HB0 _, HR0.alloc _, Blk.new' W0 (hCells ⟨#[]⟩ ⟨#[]⟩ ⟨#[]⟩ (.slice none 0 0)) _ rfl, OwnF.nil _ _, HM0.below (below_alloc1 _ _), Strs.nil _ _, by omega, by omega⟩
set_option maxRecDepth 100000 in
set_option maxHeartbeats 4000000 in
theorem RefRead_first (s : ByteArray) (w : World) (hs : s.size ≤ 100000) (hm : MaxL w) (n : Nat) (hN : Lib.index ((bs s).take 2048) endB = n) (l0 : List UInt8) (ls : List (List UInt8)) (hL : Lib.split ((bs s).take n) [13, 10] = l0 :: ls) (hF : refFirst l0 = none) :
    Calls Tryd.prog 19 #[.string s] w (RP w (bs s)) := by
  obtain ⟨W0, hW0⟩ : ∃ W0, W0 = w.alloc (.cells (hCells ⟨#[]⟩ ⟨#[]⟩ ⟨#[]⟩ (.slice none 0 0)) 25 (0, 0)) := ⟨_, rfl⟩
  have HB0 : Hid (Below w.heap.size w W0) := Lib.hid (hW0 ▸ below_alloc1 w _)
  have HR0 : Hid (Blk W0 w.heap.size (hCells ⟨#[]⟩ ⟨#[]⟩ ⟨#[]⟩ (.slice none 0 0)) 25) := Lib.hid (hW0 ▸ Blk.new' w _ _ rfl)
  have HS0 : Hid (W0.heap.size = w.heap.size + 1) := Lib.hid (by rw [hW0]; simp)
  have HM0 : Hid (MaxL W0) := Lib.hid (hm.below HB0.out)
  obtain ⟨ho, hno, hn1, hn2⟩ := end_facts hN
  rw [bs_length] at hn1
  have HO := Lib.hid ho
  have HNO := Lib.hid hno
  have HC := Lib.hid (occ_end_crlf ho)
  have HRS : Hid (Rem (bs s) n 0 (l0 :: ls)) := Lib.hid (hL ▸ rem_start (bs s) n)
  have HQ : Hid (readB (bs s) = refLines (l0 :: ls) n) := Lib.hid (by rw [read_hit _ n hN, hL, lines_ref])
  have HQ2 : Hid (refLines (l0 :: ls) n = ⟨nilP, 0, 52⟩) := Lib.hid (refl_no ls n hF)
  rw [HQ2.out] at HQ
  have HF : Hid (atB l0 32 = l0.length ∨ (atB l0 32 < l0.length ∧ atB l0 32 + 1 + atB (l0.drop (atB l0 32 + 1)) 32 = l0.length)) := Lib.hid (by
    unfold refFirst at hF
    have := atB_le l0 32
    split at hF
    · exact .inl ‹_›
    · split at hF
      · exact .inr ⟨by omega, ‹_›⟩
      · cases hF)
  clear hF HQ2
  clear hN hL ho hno hm
  unfold RP
  generalize readB (bs s) = RR at HQ ⊢
  go_enter Tryd.func19, Tryd.ntmps19
  go_upto_region 1 with (fail)
  rw [← hW0]
  clear hW0
  go_wp2
  go_loopg [5, 6] (n + 2) (fun gh v5 v6 wx => ∃ (i : Nat) (m : Int), v6 = .int .i64 i ∧ i + gh = n + 2 ∧ v5 = .int .i64 m ∧ ((m = -1 ∧ i ≤ n) ∨ (m = n ∧ i = n + 1)) ∧ W0 = wx)
  case atStart => exact ⟨0, -1, rfl, by omega, rfl, .inl ⟨rfl, by omega⟩, rfl⟩
  case round =>
    obtain ⟨i, m, rfl, hi, rfl, hc, rfl⟩ := hrel
    rcases hc with ⟨rfl, hin⟩ | ⟨rfl, rfl⟩
    · have hd1 : decide ((i : Int) + 4 ≤ (s.size : Int)) = true := decide_eq_true (by omega)
      have hd2 : decide ((i : Int) + 4 ≤ (2048 : Int)) = true := decide_eq_true (by omega)
      have hsl := fun w => slice_4 s i (by omega) w
      have ht := test_4 s i (by omega)
      by_cases he : i = n
      · obtain rfl : n = i := he.symm
        rw [HO.out] at ht
        clear HRS HQ HM0 HS0 HR0
        go_wp2
        go_roundg 1
        case measure => omega
        case rel => exact ⟨n + 1, n, by go_num, by omega, rfl, .inr ⟨rfl, rfl⟩, rfl⟩
      · rw [HNO.out i (by omega)] at ht
        clear HRS HQ HM0 HS0 HR0
        go_wp2
        go_roundg (n + 2 - (i + 1))
        case measure => omega
        case rel => exact ⟨i + 1, -1, by go_num, by omega, rfl, .inl ⟨rfl, by omega⟩, rfl⟩
    · clear hi
      go_upto_region 3 with (fail)
      go_cut [28] (fun v wx => v = .bool false ∧ W0 = wx)
      case first =>
        clear HRS HQ HM0 HS0 HR0
        by_cases h3 : n + 1 + 4 ≤ s.size
        · have hd1 : decide (((n + 1 : Nat) : Int) + 4 ≤ (s.size : Int)) = true := decide_eq_true (by omega)
          by_cases h4 : n + 1 + 4 ≤ 2048
          · have hd2 : decide (((n + 1 : Nat) : Int) + 4 ≤ (2048 : Int)) = true := decide_eq_true (by omega)
            go_wp2
            go_meet
            exact ⟨rfl, rfl⟩
          · have hd2 : decide (((n + 1 : Nat) : Int) + 4 ≤ (2048 : Int)) = false := decide_eq_false (by omega)
            go_wp2
            go_meet
            exact ⟨rfl, rfl⟩
        · have hd1 : decide (((n + 1 : Nat) : Int) + 4 ≤ (s.size : Int)) = false := decide_eq_false (by omega)
          go_wp2
          go_meet
          exact ⟨rfl, rfl⟩
      case rest =>
        obtain ⟨rfl, rfl⟩ := hcut
        go_wp2
        go_loopg [8, 9] (n + 2) (fun gh v8 v9 wx => ∃ f : Nat, v8 = .bool true ∧ v9 = .int .i64 f ∧ f + gh = n + 2 ∧ Hid (f = 0) ∧ Hid (Rem (bs s) n f (l0 :: ls)) ∧ Hid (LS w 0 W0.heap.size [] ⟨#[]⟩ ⟨#[]⟩ ⟨#[]⟩ (.slice none 0 0) [] wx))
        case atStart => exact ⟨0, rfl, rfl, by omega, Lib.hid rfl, HRS, Lib.hid (refStart HB0.out HR0.out HM0.out HS0.out)⟩
        case round =>
          obtain ⟨f, rfl, rfl, hf, hf0, HRM, HX⟩ := hrel
          have hlt : f < n + 2 := by have := hf0.out; omega
          clear HR0 HM0 HS0 HB0
          obtain ⟨line, R', hR, hline, hle, hoc, hnoc, hrem⟩ := rem_step HC.out HRM.out hlt
          obtain ⟨h1, h2⟩ := List.cons.inj hR
          subst h1 h2
          have HJ := Lib.hid hnoc
          have HE := Lib.hid hoc
          have HLI := Lib.hid hline
          have HRM2 := Lib.hid hrem
          clear hnoc hoc hline hrem hR
          go_wp2
          go_loopg [10] l0.length (fun gh v10 wx => ∃ j t : Nat, v10 = .int .i64 t ∧ Hid (t = f + j) ∧ j + gh = l0.length ∧ wr = wx)
          case atStart => exact ⟨0, f, rfl, Lib.hid rfl, by omega, rfl⟩
          case round =>
            obtain ⟨j, t, rfl, HTJ, hj, rfl⟩ := hrel
            have htj := HTJ.out
            have htn : t ≤ n := by omega
            have hsl2 := fun w => slice_2 s t (by omega) w
            have ht2 := test_2 s t (by omega)
            by_cases hlt2 : j < l0.length
            · rw [htj, HJ.out j hlt2, ← htj] at ht2
              have HT1 : Hid (t + 1 = f + (j + 1)) := Lib.hid (by omega)
              clear htj HTJ HX HQ HRM HRM2 HLI HJ HE HF
              go_wp2
              go_roundg (l0.length - (j + 1))
              case measure => omega
              case rel => exact ⟨j + 1, t + 1, by go_num, HT1, by omega, rfl⟩
            · obtain rfl : l0.length = j := by omega
              rw [htj, HE.out, ← htj] at ht2
              have hslL := fun w => slice_nn s f t (by omega) (by omega) w
              have hbl := bs_ext s f t
              rw [show t - f = l0.length by omega, ← HLI.out] at hbl
              generalize s.extract f t = ln at hslL hbl
              have hlz : ln.size = l0.length := by rw [← bs_length, hbl]
              have HLN := Lib.hid hbl
              have hl105 : ln.size ≤ 100000 := by omega
              have HT2 : Hid (f + l0.length + 2 = t + 2) := Lib.hid (by omega)
              have hft : f ≤ t := by omega
              clear HJ HE HLI hbl htj HTJ hle
              have hat : ∀ w, Calls Tryd.prog 40 #[.string ln, .int .u8 32] w fun e w' => e = .returned (.int .i64 (atB l0 32)) ∧ w' = w := fun w => by
                have := at_calls ln 32 w (mx (by omega))
                rw [HLN.out] at this
                exact this
              have hF := HF.out
              have HLN2 : Hid (ln.size = l0.length) := Lib.hid hlz
              rcases hF with hF | ⟨hF1, hF2⟩
              · have hd : ((atB l0 32 : Int) == (ln.size : Int)) = true := beq_iff_eq.2 (by omega)
                have z0 := (HX.out.rb.cell 0).trans rfl
                have z1 := (HX.out.rb.cell 1).trans rfl
                have z2 := (HX.out.rb.cell 2).trans rfl
                have z3 := (HX.out.rb.cell 3).trans rfl
                have k0 := HX.out.rb.frozen 0
                have k1 := HX.out.rb.frozen 1
                have k2 := HX.out.rb.frozen 2
                have k3 := HX.out.rb.frozen 3
                clear HF HRM HRM2
                generalize atB l0 32 = a at hat hd
                go_wp2_with (go_at_call 40; first | ((with_reducible refine (hat _).mono ?_); rintro e w' ⟨rfl, rfl⟩) | ((with_reducible refine (hat2 _).mono ?_); rintro e w' ⟨rfl, rfl⟩))
                refine bodyPost_ret (v := .tuple #[nilH.val, .int .i64 0, .int .i64 52]) ?_ rfl ⟨nilH, 0, 52, rfl, HQ.out, nilH_ok _, ?_⟩
                · rw [results_cell_tmp2 rfl]; go_simp
                · exact below_set (below_set (below_set (below_set HX.out.be (Nat.le_refl _) 0 _) (Nat.le_refl _) 1 _) (Nat.le_refl _) 2 _) (Nat.le_refl _) 3 _
              · have hd : ((atB l0 32 : Int) == (ln.size : Int)) = false := beq_eq_false_iff_ne.2 (by omega)
                have z0 := (HX.out.rb.cell 0).trans rfl
                have z1 := (HX.out.rb.cell 1).trans rfl
                have z2 := (HX.out.rb.cell 2).trans rfl
                have z3 := (HX.out.rb.cell 3).trans rfl
                have k0 := HX.out.rb.frozen 0
                have k1 := HX.out.rb.frozen 1
                have k2 := HX.out.rb.frozen 2
                have k3 := HX.out.rb.frozen 3
                have hd2 : (((atB l0 32 : Int) + 1 + (atB (l0.drop (atB l0 32 + 1)) 32 : Int)) == (ln.size : Int)) = true := beq_iff_eq.2 (by omega)
                have hslT := fun w => slice_from ln (atB l0 32) (by omega) w
                have hbT : bs (ln.extract (atB l0 32 + 1) ln.size) = l0.drop (atB l0 32 + 1) := by
                  rw [show bs (ln.extract (atB l0 32 + 1) ln.size) = (bs ln).drop (atB l0 32 + 1) from Lib.extract_to_end ln _, HLN.out]
                have hzT : (ln.extract (atB l0 32 + 1) ln.size).size ≤ 100000 := by rw [ByteArray.size_extract]; omega
                generalize ln.extract (atB l0 32 + 1) ln.size = lt at hslT hbT hzT
                have hat2 : ∀ w, Calls Tryd.prog 40 #[.string lt, .int .u8 32] w fun e w' => e = .returned (.int .i64 (atB (l0.drop (atB l0 32 + 1)) 32)) ∧ w' = w := fun w => by
                  have := at_calls lt 32 w (mx (by omega))
                  rw [hbT] at this
                  exact this
                have hbd : atB l0 32 < 100000 ∧ atB (l0.drop (atB l0 32 + 1)) 32 < 100000 := by omega
                clear HF HRM HRM2 hbT
                generalize atB (l0.drop (atB l0 32 + 1)) 32 = b at hat2 hd2 hbd hF2
                generalize atB l0 32 = a at hat hd hd2 hslT hbd hF1 hF2
                obtain ⟨hbd1, hbd2⟩ := hbd
                go_wp2_with (go_at_call 40; first | ((with_reducible refine (hat _).mono ?_); rintro e w' ⟨rfl, rfl⟩) | ((with_reducible refine (hat2 _).mono ?_); rintro e w' ⟨rfl, rfl⟩))
                refine bodyPost_ret (v := .tuple #[nilH.val, .int .i64 0, .int .i64 52]) ?_ rfl ⟨nilH, 0, 52, rfl, HQ.out, nilH_ok _, ?_⟩
                · rw [results_cell_tmp2 rfl]; go_simp
                · exact below_set (below_set (below_set (below_set HX.out.be (Nat.le_refl _) 0 _) (Nat.le_refl _) 1 _) (Nat.le_refl _) 2 _) (Nat.le_refl _) 3 _
end Go.Proofs.YtknfoolcbfmpaaaDoor
