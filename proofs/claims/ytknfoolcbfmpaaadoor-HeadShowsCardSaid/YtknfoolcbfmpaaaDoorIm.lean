/- The document's Read: each line is one; the document's Read, whole; conditions: the library's bound lies where it is laid; the text is not too great. -/
import Derived.Test.YtknfoolcbfmpaaaDoorIl
namespace Go.Proofs.YtknfoolcbfmpaaaDoor
set_option linter.unusedSimpArgs false
set_option linter.unusedVariables false
open Go.RowKit
set_option maxRecDepth 100000 in
set_option maxHeartbeats 4000000 in
theorem RefRead_lines (s : ByteArray) (w : World) (hs : s.size ≤ 100000) (hm : MaxL w) (n : Nat) (hN : Lib.index ((bs s).take 2048) endB = n) (l0 : List UInt8) (ls : List (List UInt8)) (hL : Lib.split ((bs s).take n) [13, 10] = l0 :: ls) (x y z : List UInt8) (hF : refFirst l0 = some (x, y, z)) (hB : ls.all (fun l => (refFld l).isSome) = true) :
    Calls Tryd.prog 19 #[.string s] w (RP w (bs s)) := by
  obtain ⟨W0, hW0⟩ : ∃ W0, W0 = w.alloc (.cells (hCells ⟨#[]⟩ ⟨#[]⟩ ⟨#[]⟩ (.slice none 0 0)) 25 (0, 0)) := ⟨_, rfl⟩
  have HB0 : Hid (Below w.heap.size w W0) := Lib.hid (hW0 ▸ below_alloc1 w _)
  have HR0 : Hid (Blk W0 w.heap.size (hCells ⟨#[]⟩ ⟨#[]⟩ ⟨#[]⟩ (.slice none 0 0)) 25) := Lib.hid (hW0 ▸ Blk.new' w _ _ rfl)
  have HS0 : Hid (W0.heap.size = w.heap.size + 1) := Lib.hid (by rw [hW0]; simp)
  have HM0 : Hid (MaxL W0) := Lib.hid (hm.below HB0.out)
  obtain ⟨ho, hno, hn1, hn2⟩ := end_facts hN
  rw [bs_length] at hn1
  have HO := Lib.hid ho
  have HNO := Lib.hid hno
  have HC := Lib.hid (occ_end_crlf ho)
  have HRS : Hid (Rem (bs s) n 0 (l0 :: ls)) := Lib.hid (hL ▸ rem_start (bs s) n)
  have HQ : Hid (readB (bs s) = refLines (l0 :: ls) n) := Lib.hid (by rw [read_hit _ n hN, hL, lines_ref])
  have HF : Hid (atB l0 32 < l0.length ∧ atB l0 32 + 1 + atB (l0.drop (atB l0 32 + 1)) 32 < l0.length ∧ l0.take (atB l0 32) = x ∧ (l0.drop (atB l0 32 + 1)).take (atB (l0.drop (atB l0 32 + 1)) 32) = y ∧ l0.drop (atB l0 32 + 1 + atB (l0.drop (atB l0 32 + 1)) 32 + 1) = z) := Lib.hid (refFirst_some hF)
  have hll : ls.length ≤ 3000 := by
    have h1 := split_len ((bs s).take n)
    rw [hL, List.length_take] at h1
    simp only [List.length_cons] at h1
    omega
  have HQE : Hid (refLines (l0 :: ls) n = if formP ⟨x, y, z, ls.filterMap refFld⟩ then (if 32 < ls.length then ⟨nilP, 0, 51⟩ else ⟨⟨x, y, z, ls.filterMap refFld⟩, n + 4, 0⟩) else ⟨nilP, 0, 52⟩) := Lib.hid (by rw [refl_yes ls n hF, if_pos hB])
  have HBB := Lib.hid (List.all_eq_true.1 hB)
  clear hF hB
  clear hN hL ho hno hm
  unfold RP
  generalize readB (bs s) = RR at HQ ⊢
  go_enter Tryd.func19, Tryd.ntmps19
  go_upto_region 1 with (fail)
  rw [← hW0]
  clear hW0
  go_wp2
  go_loopg [5, 6] (n + 2) (fun gh v5 v6 wx => ∃ (i : Nat) (m : Int), v6 = .int .i64 i ∧ i + gh = n + 2 ∧ v5 = .int .i64 m ∧ ((m = -1 ∧ i ≤ n) ∨ (m = n ∧ i = n + 1)) ∧ W0 = wx)
  case atStart => exact ⟨0, -1, rfl, by omega, rfl, .inl ⟨rfl, by omega⟩, rfl⟩
  case round =>
    obtain ⟨i, m, rfl, hi, rfl, hc, rfl⟩ := hrel
    rcases hc with ⟨rfl, hin⟩ | ⟨rfl, rfl⟩
    · have hd1 : decide ((i : Int) + 4 ≤ (s.size : Int)) = true := decide_eq_true (by omega)
      have hd2 : decide ((i : Int) + 4 ≤ (2048 : Int)) = true := decide_eq_true (by omega)
      have hsl := fun w => slice_4 s i (by omega) w
      have ht := test_4 s i (by omega)
      by_cases he : i = n
      · obtain rfl : n = i := he.symm
        rw [HO.out] at ht
        clear HRS HQ HM0 HS0 HR0
        go_wp2
        go_roundg 1
        case measure => omega
        case rel => exact ⟨n + 1, n, by go_num, by omega, rfl, .inr ⟨rfl, rfl⟩, rfl⟩
      · rw [HNO.out i (by omega)] at ht
        clear HRS HQ HM0 HS0 HR0
        go_wp2
        go_roundg (n + 2 - (i + 1))
        case measure => omega
        case rel => exact ⟨i + 1, -1, by go_num, by omega, rfl, .inl ⟨rfl, by omega⟩, rfl⟩
    · clear hi
      go_upto_region 3 with (fail)
      go_cut [28] (fun v wx => v = .bool false ∧ W0 = wx)
      case first =>
        clear HRS HQ HM0 HS0 HR0
        by_cases h3 : n + 1 + 4 ≤ s.size
        · have hd1 : decide (((n + 1 : Nat) : Int) + 4 ≤ (s.size : Int)) = true := decide_eq_true (by omega)
          by_cases h4 : n + 1 + 4 ≤ 2048
          · have hd2 : decide (((n + 1 : Nat) : Int) + 4 ≤ (2048 : Int)) = true := decide_eq_true (by omega)
            go_wp2
            go_meet
            exact ⟨rfl, rfl⟩
          · have hd2 : decide (((n + 1 : Nat) : Int) + 4 ≤ (2048 : Int)) = false := decide_eq_false (by omega)
            go_wp2
            go_meet
            exact ⟨rfl, rfl⟩
        · have hd1 : decide (((n + 1 : Nat) : Int) + 4 ≤ (s.size : Int)) = false := decide_eq_false (by omega)
          go_wp2
          go_meet
          exact ⟨rfl, rfl⟩
      case rest =>
        obtain ⟨rfl, rfl⟩ := hcut
        go_wp2
        go_loopg [8, 9] (n + 2) (fun gh v8 v9 wx => ∃ (f : Nat) (q : Bool) (R : List (List UInt8)) (a b c : ByteArray) (v : Value) (fs : List Fd), v8 = .bool q ∧ v9 = .int .i64 f ∧ f + gh = n + 2 ∧ Hid (Rem (bs s) n f R) ∧ Hid (LS w 0 W0.heap.size [] a b c v fs wx) ∧ Hid (ST l0 ls x y z q R a b c fs))
        case atStart => exact ⟨0, true, l0 :: ls, _, _, _, _, [], rfl, rfl, by omega, HRS, Lib.hid (refStart HB0.out HR0.out HM0.out HS0.out), Lib.hid ST.start⟩
        case round =>
          obtain ⟨f, q, R, a, b, c, v, fs, rfl, rfl, hf, HRM, HX, HST⟩ := hrel
          clear HR0 HM0 HS0 HB0
          cases q with
          | true =>
            obtain ⟨hR0, hfs0⟩ := HST.out.tru
            subst hR0 hfs0
            have hlt : f < n + 2 := HRM.out.lt
            obtain ⟨line, R', hR, hline, hle, hoc, hnoc, hrem⟩ := rem_step HC.out HRM.out hlt
            obtain ⟨h1, h2⟩ := List.cons.inj hR
            subst h1 h2
            have HJ := Lib.hid hnoc
            have HE := Lib.hid hoc
            have HLI := Lib.hid hline
            have HRM2 := Lib.hid hrem
            clear hnoc hoc hline hrem hR
            go_wp2
            go_loopg [10] l0.length (fun gh v10 wx => ∃ j t : Nat, v10 = .int .i64 t ∧ Hid (t = f + j) ∧ j + gh = l0.length ∧ wr = wx)
            case atStart => exact ⟨0, f, rfl, Lib.hid rfl, by omega, rfl⟩
            case round =>
              obtain ⟨j, t, rfl, HTJ, hj, rfl⟩ := hrel
              have htj := HTJ.out
              have htn : t ≤ n := by omega
              have hsl2 := fun w => slice_2 s t (by omega) w
              have ht2 := test_2 s t (by omega)
              by_cases hlt2 : j < l0.length
              · rw [htj, HJ.out j hlt2, ← htj] at ht2
                have HT1 : Hid (t + 1 = f + (j + 1)) := Lib.hid (by omega)
                clear htj HTJ HX HQ HRM HRM2 HLI HJ HE HST
                go_wp2
                go_roundg (l0.length - (j + 1))
                case measure => omega
                case rel => exact ⟨j + 1, t + 1, by go_num, HT1, by omega, rfl⟩
              · obtain rfl : l0.length = j := by omega
                rw [htj, HE.out, ← htj] at ht2
                have hslL := fun w => slice_nn s f t (by omega) (by omega) w
                have hbl := bs_ext s f t
                rw [show t - f = l0.length by omega, ← HLI.out] at hbl
                generalize s.extract f t = ln at hslL hbl
                have hlz : ln.size = l0.length := by rw [← bs_length, hbl]
                have HLN := Lib.hid hbl
                have hl105 : ln.size ≤ 100000 := by omega
                have HT2 : Hid (f + l0.length + 2 = t + 2) := Lib.hid (by omega)
                have hft : f ≤ t := by omega
                clear HJ HE HLI hbl htj HTJ hle
                have hat : ∀ w, Calls Tryd.prog 40 #[.string ln, .int .u8 32] w fun e w' => e = .returned (.int .i64 (atB l0 32)) ∧ w' = w := fun w => by
                  have := at_calls ln 32 w (mx (by omega))
                  rw [HLN.out] at this
                  exact this
                have HF2 := Lib.hid (HF.out)
                obtain ⟨hF1, hF2, hF3⟩ := HF.out
                have hd : ((atB l0 32 : Int) == (ln.size : Int)) = false := beq_eq_false_iff_ne.2 (by omega)
                have hd2 : (((atB l0 32 : Int) + 1 + (atB (l0.drop (atB l0 32 + 1)) 32 : Int)) == (ln.size : Int)) = false := beq_eq_false_iff_ne.2 (by omega)
                have hslT := fun w => slice_from ln (atB l0 32) (by omega) w
                have hbT : bs (ln.extract (atB l0 32 + 1) ln.size) = l0.drop (atB l0 32 + 1) := by
                  rw [show bs (ln.extract (atB l0 32 + 1) ln.size) = (bs ln).drop (atB l0 32 + 1) from Lib.extract_to_end ln _, HLN.out]
                have hzT : (ln.extract (atB l0 32 + 1) ln.size).size ≤ 100000 := by rw [ByteArray.size_extract]; omega
                generalize ln.extract (atB l0 32 + 1) ln.size = lt at hslT hbT hzT
                have hat2 : ∀ w, Calls Tryd.prog 40 #[.string lt, .int .u8 32] w fun e w' => e = .returned (.int .i64 (atB (l0.drop (atB l0 32 + 1)) 32)) ∧ w' = w := fun w => by
                  have := at_calls lt 32 w (mx (by omega))
                  rw [hbT] at this
                  exact this
                have hsA := fun w => slice_to ln (atB l0 32) (by omega) w
                have hsB := fun w => slice_ab ln (atB l0 32) (atB (l0.drop (atB l0 32 + 1)) 32) (by omega) w
                have hsC := fun w => slice_ac ln (atB l0 32) (atB (l0.drop (atB l0 32 + 1)) 32) (by omega) w
                have HPA : Hid (bs (ln.extract 0 (atB l0 32)) = x ∧ bs (ln.extract (atB l0 32 + 1) (atB l0 32 + 1 + atB (l0.drop (atB l0 32 + 1)) 32)) = y ∧ bs (ln.extract (atB l0 32 + 1 + atB (l0.drop (atB l0 32 + 1)) 32 + 1) ln.size) = z) := Lib.hid (by
                  obtain ⟨e1, e2, e3⟩ := hF3
                  rw [bs_ext, bs_ext, show bs (ln.extract (atB l0 32 + 1 + atB (l0.drop (atB l0 32 + 1)) 32 + 1) ln.size) = (bs ln).drop (atB l0 32 + 1 + atB (l0.drop (atB l0 32 + 1)) 32 + 1) from Lib.extract_to_end ln _, HLN.out, ← e1, ← e2, ← e3]
                  refine ⟨by simp, ?_, rfl⟩
                  congr 1; omega)
                have hz1 : (ln.extract 0 (atB l0 32)).size ≤ 100000 := by rw [ByteArray.size_extract]; omega
                have hz2 : (ln.extract (atB l0 32 + 1) (atB l0 32 + 1 + atB (l0.drop (atB l0 32 + 1)) 32)).size ≤ 100000 := by rw [ByteArray.size_extract]; omega
                have hz3 : (ln.extract (atB l0 32 + 1 + atB (l0.drop (atB l0 32 + 1)) 32 + 1) ln.size).size ≤ 100000 := by rw [ByteArray.size_extract]; omega
                generalize ln.extract 0 (atB l0 32) = pa at hsA HPA hz1
                generalize ln.extract (atB l0 32 + 1) (atB l0 32 + 1 + atB (l0.drop (atB l0 32 + 1)) 32) = pb at hsB HPA hz2
                generalize ln.extract (atB l0 32 + 1 + atB (l0.drop (atB l0 32 + 1)) 32 + 1) ln.size = pc at hsC HPA hz3
                have hbd : atB l0 32 < 100000 ∧ atB (l0.drop (atB l0 32 + 1)) 32 < 100000 := by omega
                clear hbT hF3 HF HF2
                generalize atB (l0.drop (atB l0 32 + 1)) 32 = b2 at hat2 hd2 hbd hF2 hsB hsC
                generalize atB l0 32 = a2 at hat hd hd2 hslT hbd hF1 hF2 hsA hsB hsC
                obtain ⟨hbd1, hbd2⟩ := hbd
                have y0 := (HX.out.hb.cell 0).trans rfl
                have y1 := (HX.out.hb.cell 1).trans rfl
                have y2 := (HX.out.hb.cell 2).trans rfl
                have k0 := HX.out.hb.frozen 0
                have k1 := HX.out.hb.frozen 1
                have k2 := HX.out.hb.frozen 2
                simp only [hCells] at y0 y1 y2
                clear HQ HC HRM HST
                go_upto_region 27 with (go_at_call 40; first | ((with_reducible refine (hat _).mono ?_); rintro e w' ⟨rfl, rfl⟩) | ((with_reducible refine (hat2 _).mono ?_); rintro e w' ⟨rfl, rfl⟩))
                go_region
                go_wp2
                go_roundg (n + 2 - (t + 2))
                case measure => omega
                case rel => exact ⟨t + 2, false, ls, pa, pb, pc, v, [], by go_num, by go_num, by omega, Lib.hid (HT2.out ▸ HRM2.out), Lib.hid (HX.out.first pa pb pc), Lib.hid (ST.first HPA.out.1 HPA.out.2.1 HPA.out.2.2 hz1 hz2 hz3)⟩
          | false =>
            cases R with
            | nil =>
              obtain ⟨e1, e2, e3, hlen, hmap, _⟩ := HST.out.all
              have hge : n + 2 ≤ f := by have := HRM.out.nil; omega
              have hfl : fs.length ≤ 3000 := by omega
              obtain ⟨A5, c5, hv, q1, q2, q3⟩ := HX.out.ow.form
              subst hv
              have HLO : Hid ((Hd.mk a b c A5 c5 fs).Lo wr) := Lib.hid ⟨by simp only; omega, HST.out.sz.1, HST.out.sz.2.1, HST.out.sz.2.2, HST.out.fz, q3⟩
              have hfo := fun (w' : World) (g : (Hd.mk a b c A5 c5 fs).Lo w') => Form_calls (Hd.mk a b c A5 c5 fs) w' g
              have hpd : (Hd.mk a b c A5 c5 fs).pd = ⟨x, y, z, ls.filterMap refFld⟩ := by
                unfold Hd.pd
                simp only [e1, e2, e3, hmap]
              have HP := Lib.hid hpd
              have HQ2 : Hid (RR = if formP (Hd.mk a b c A5 c5 fs).pd then (if 32 < fs.length then ⟨nilP, 0, 51⟩ else ⟨(Hd.mk a b c A5 c5 fs).pd, n + 4, 0⟩) else ⟨nilP, 0, 52⟩) := Lib.hid (by rw [HQ.out, HQE.out, hpd, hlen])
              have HZ := Lib.hid HST.out.fz
              have HSZ := Lib.hid HST.out.sz
              clear q1 q2 q3 e1 e2 e3 hlen hmap hpd HST HRM HQ HQE
              generalize formP (Hd.mk a b c A5 c5 fs).pd = qf at hfo HQ2
              have y0 := (HX.out.hb.cell 0).trans rfl
              have y1 := (HX.out.hb.cell 1).trans rfl
              have y2 := (HX.out.hb.cell 2).trans rfl
              have y3 := (HX.out.hb.cell 3).trans rfl
              simp only [hCells] at y0 y1 y2 y3
              cases qf with
              | false =>
                have HQ3 : Hid (RR = ⟨nilP, 0, 52⟩) := Lib.hid (by rw [HQ2.out]; rfl)
                clear HQ2
                go_wp2_with (go_at_call 30; refine (hfo _ HLO.out).mono ?_; clear y0 y1 y2 y3; rintro e w2 ⟨rfl, hb⟩; have HX2 := Lib.hid (HX.out.below hb); have z0 := (HX2.out.rb.cell 0).trans rfl; have z1 := (HX2.out.rb.cell 1).trans rfl; have z2 := (HX2.out.rb.cell 2).trans rfl; have z3 := (HX2.out.rb.cell 3).trans rfl; have k0 := HX2.out.rb.frozen 0; have k1 := HX2.out.rb.frozen 1; have k2 := HX2.out.rb.frozen 2; have k3 := HX2.out.rb.frozen 3; clear hb)
                refine bodyPost_ret (v := .tuple #[nilH.val, .int .i64 0, .int .i64 52]) ?_ rfl ⟨nilH, 0, 52, rfl, HQ3.out, nilH_ok _, ?_⟩
                · rw [results_cell_tmp2 rfl]; go_simp
                · exact below_set (below_set (below_set (below_set HX2.out.be (Nat.le_refl _) 0 _) (Nat.le_refl _) 1 _) (Nat.le_refl _) 2 _) (Nat.le_refl _) 3 _
              | true =>
                by_cases h32 : 32 < fs.length
                · have HQ3 : Hid (RR = ⟨nilP, 0, 51⟩) := Lib.hid (by rw [HQ2.out, if_pos rfl, if_pos h32])
                  clear HQ2
                  have hd : decide ((32 : Int) < (fs.length : Int)) = true := decide_eq_true (by omega)
                  go_wp2_with (go_at_call 30; refine (hfo _ HLO.out).mono ?_; clear y0 y1 y2 y3; rintro e w2 ⟨rfl, hb⟩; have HX2 := Lib.hid (HX.out.below hb); have z0 := (HX2.out.rb.cell 0).trans rfl; have z1 := (HX2.out.rb.cell 1).trans rfl; have z2 := (HX2.out.rb.cell 2).trans rfl; have z3 := (HX2.out.rb.cell 3).trans rfl; have k0 := HX2.out.rb.frozen 0; have k1 := HX2.out.rb.frozen 1; have k2 := HX2.out.rb.frozen 2; have k3 := HX2.out.rb.frozen 3; have y0 := (HX2.out.hb.cell 0).trans rfl; have y1 := (HX2.out.hb.cell 1).trans rfl; have y2 := (HX2.out.hb.cell 2).trans rfl; have y3 := (HX2.out.hb.cell 3).trans rfl; simp only [hCells] at y0 y1 y2 y3; clear hb)
                  refine bodyPost_ret (v := .tuple #[nilH.val, .int .i64 0, .int .i64 51]) ?_ rfl ⟨nilH, 0, 51, rfl, HQ3.out, nilH_ok _, ?_⟩
                  · rw [results_cell_tmp2 rfl]; go_simp
                  · exact below_set (below_set (below_set (below_set HX2.out.be (Nat.le_refl _) 0 _) (Nat.le_refl _) 1 _) (Nat.le_refl _) 2 _) (Nat.le_refl _) 3 _
                · have HQ3 : Hid (RR = ⟨(Hd.mk a b c A5 c5 fs).pd, n + 4, 0⟩) := Lib.hid (by rw [HQ2.out, if_pos rfl, if_neg h32])
                  clear HQ2
                  have hd : decide ((32 : Int) < (fs.length : Int)) = false := decide_eq_false (by omega)
                  go_wp2_with (go_at_call 30; refine (hfo _ HLO.out).mono ?_; clear y0 y1 y2 y3; rintro e w2 ⟨rfl, hb⟩; have HX2 := Lib.hid (HX.out.below hb); have z0 := (HX2.out.rb.cell 0).trans rfl; have z1 := (HX2.out.rb.cell 1).trans rfl; have z2 := (HX2.out.rb.cell 2).trans rfl; have z3 := (HX2.out.rb.cell 3).trans rfl; have k0 := HX2.out.rb.frozen 0; have k1 := HX2.out.rb.frozen 1; have k2 := HX2.out.rb.frozen 2; have k3 := HX2.out.rb.frozen 3; have y0 := (HX2.out.hb.cell 0).trans rfl; have y1 := (HX2.out.hb.cell 1).trans rfl; have y2 := (HX2.out.hb.cell 2).trans rfl; have y3 := (HX2.out.hb.cell 3).trans rfl; simp only [hCells] at y0 y1 y2 y3; clear hb)
                  refine bodyPost_ret (v := .tuple #[Hd.val ⟨a, b, c, A5, c5, fs⟩, .int .i64 ((n : Int) + 4), .int .i64 0]) ?_ rfl ⟨⟨a, b, c, A5, c5, fs⟩, (n : Int) + 4, 0, rfl, HQ3.out, ⟨by simp only; omega, HSZ.out.1, HSZ.out.2.1, HSZ.out.2.2, HZ.out, ?_⟩, ?_⟩
                  · rw [results_cell_tmp2 rfl]; go_simp
                  · have hR : w.heap.size < W0.heap.size + 1 := by have := HX2.out.lt; omega
                    exact ((((HX2.out.ow.set hR 0 _).set hR 1 _).set hR 2 _).set hR 3 _).fds
                  · exact below_set (below_set (below_set (below_set HX2.out.be (Nat.le_refl _) 0 _) (Nat.le_refl _) 1 _) (Nat.le_refl _) 2 _) (Nat.le_refl _) 3 _
            | cons l R0 =>
              have hlt : f < n + 2 := HRM.out.lt
              have hlm := HST.out.mem
              obtain ⟨line, R', hR, hline, hle, hoc, hnoc, hrem⟩ := rem_step HC.out HRM.out hlt
              obtain ⟨h1, h2⟩ := List.cons.inj hR
              subst h1 h2
              have HJ := Lib.hid hnoc
              have HE := Lib.hid hoc
              have HLI := Lib.hid hline
              have HRM2 := Lib.hid hrem
              clear hnoc hoc hline hrem hR
              go_wp2
              go_loopg [10] l.length (fun gh v10 wx => ∃ j t : Nat, v10 = .int .i64 t ∧ Hid (t = f + j) ∧ j + gh = l.length ∧ wr = wx)
              case atStart => exact ⟨0, f, rfl, Lib.hid rfl, by omega, rfl⟩
              case round =>
                obtain ⟨j, t, rfl, HTJ, hj, rfl⟩ := hrel
                have htj := HTJ.out
                have htn : t ≤ n := by omega
                have hsl2 := fun w => slice_2 s t (by omega) w
                have ht2 := test_2 s t (by omega)
                by_cases hlt2 : j < l.length
                · rw [htj, HJ.out j hlt2, ← htj] at ht2
                  have HT1 : Hid (t + 1 = f + (j + 1)) := Lib.hid (by omega)
                  clear htj HTJ HX HQ HRM HRM2 HLI HJ HE HST
                  go_wp2
                  go_roundg (l.length - (j + 1))
                  case measure => omega
                  case rel => exact ⟨j + 1, t + 1, by go_num, HT1, by omega, rfl⟩
                · obtain rfl : l.length = j := by omega
                  rw [htj, HE.out, ← htj] at ht2
                  have hslL := fun w => slice_nn s f t (by omega) (by omega) w
                  have hbl := bs_ext s f t
                  rw [show t - f = l.length by omega, ← HLI.out] at hbl
                  generalize s.extract f t = ln at hslL hbl
                  have hlz : ln.size = l.length := by rw [← bs_length, hbl]
                  have HLN := Lib.hid hbl
                  have hl105 : ln.size ≤ 100000 := by omega
                  have HT2 : Hid (f + l.length + 2 = t + 2) := Lib.hid (by omega)
                  have hft : f ≤ t := by omega
                  clear HJ HE HLI hbl htj HTJ hle
                  have hat : ∀ w, Calls Tryd.prog 40 #[.string ln, .int .u8 58] w fun e w' => e = .returned (.int .i64 (atB l 58)) ∧ w' = w := fun w => by
                    have := at_calls ln 58 w (mx (by omega))
                    rw [HLN.out] at this
                    exact this
                  cases hr : refFld l with
                  | none =>
                    exact absurd (HBB.out l hlm) (by rw [hr]; simp)
                  | some p =>
                    obtain ⟨hF1, hF2⟩ := refFld_some hr
                    have hd : ((atB l 58 : Int) == (ln.size : Int)) = false := beq_eq_false_iff_ne.2 (by omega)
                    have hsN := fun w => slice_to ln (atB l 58) (by omega) w
                    have hsV := fun w => slice_from ln (atB l 58) (by omega) w
                    have hbN : bs (ln.extract 0 (atB l 58)) = l.take (atB l 58) := by rw [bs_ext, HLN.out]; simp
                    have hbV : bs (ln.extract (atB l 58 + 1) ln.size) = l.drop (atB l 58 + 1) := by
                      rw [show bs (ln.extract (atB l 58 + 1) ln.size) = (bs ln).drop (atB l 58 + 1) from Lib.extract_to_end ln _, HLN.out]
                    have hzN : (ln.extract 0 (atB l 58)).size ≤ 100000 := by rw [ByteArray.size_extract]; omega
                    have hzV : (ln.extract (atB l 58 + 1) ln.size).size ≤ 100000 := by rw [ByteArray.size_extract]; omega
                    generalize ln.extract 0 (atB l 58) = nm at hsN hbN hzN
                    generalize ln.extract (atB l 58 + 1) ln.size = lv at hsV hbV hzV
                    obtain ⟨vl, hvl⟩ : ∃ vl, vl = mk (trimW (bs lv)) := ⟨_, rfl⟩
                    have hzl : vl.size ≤ 100000 := by rw [hvl, mk_size]; have := trimW_len (bs lv); rw [bs_length] at this; omega
                    have htr : ∀ w, Calls Tryd.prog 41 #[.string lv] w fun e w' => e = .returned (.string vl) ∧ w' = w := fun w => by
                      refine (reftrim_calls lv w (mx hzV)).mono ?_
                      rintro e w' ⟨t, rfl, _, ht, rfl⟩
                      refine ⟨?_, rfl⟩
                      have e : t = vl := bs_inj (by rw [ht.out, hvl, bs_mk]; rfl)
                      rw [e]
                    have HFL : Hid (refFld l = some (Fd.pd ⟨nm, vl⟩)) := Lib.hid (by
                      rw [hr, hF2]
                      unfold Fd.pd
                      simp only [hvl, bs_mk, hbN, hbV])
                    clear hr hF2 hbN hbV hvl
                    have hbd : atB l 58 < 100000 := by omega
                    generalize atB l 58 = a2 at hat hd hsN hsV hbd hF1
                    have hwr : IntKind.i64.wrap ((a2 : Int) + 1) = (a2 : Int) + 1 := by rw [IntKind.wrap_i64]; omega
                    clear hlz
                    have y3 := (HX.out.hb.cell 3).trans rfl
                    have y3' : ∀ o, (wr.alloc o).cell? ⟨W0.heap.size, 3, none⟩ = some v := fun o => ((HX.out.al o).hb.cell 3).trans rfl
                    simp only [hCells] at y3
                    have hfsl : fs.length + 1 ≤ 1000000 := by have := HST.out.fal.2.2.2.2.1; omega
                    clear HQ HC HRM
                    go_upto_region 32 with (go_at_call 40; refine (hat _).mono ?_; rintro e w' ⟨rfl, hw'⟩; obtain rfl := hw'.symm)
                    go_region_law (first
                      | (go_simp; go_at_call 41; refine (htr _).mono ?_; rintro e w' ⟨rfl, rfl⟩)
                      | (refine step_app (by rfl) _ _ _ (by rfl) v (.slice (some ⟨wr.heap.size, 0, none⟩) 1 1) (by rfl) (by rfl) (OwnF.app1 (f := ⟨nm, vl⟩) ((HX.out.below (below_drew1 (Below.refl _ _))).al (.cells #[.string nm, .string vl] 48)).ow _ wr.heap.size (Blk.new' wr.drew _ _ rfl) ?h2 ?h3) ?_
                         case h2 => omega
                         case h3 => have := HX.out.hb.lt; simp; omega
                         intro v2 w8 hF8
                         obtain ⟨A2, c2, hv2, _, _, _⟩ := hF8.own.form
                         subst hv2
                         have HX8 := Lib.hid (((HX.out.below (below_drew1 (Below.refl _ _))).al (.cells #[.string nm, .string vl] 48)).push hF8)
                         have y8 : w8.cell? ⟨W0.heap.size, 3, none⟩ = some v := ((((HX.out.below (below_drew1 (Below.refl _ _))).al (.cells #[.string nm, .string vl] 48)).hb2 hF8).cell 3).trans rfl
                         have k8 := (((HX.out.below (below_drew1 (Below.refl _ _))).al (.cells #[.string nm, .string vl] 48)).hb2 hF8).frozen 3
                         clear hF8))
                    all_goals
                      go_wp2
                      go_roundg (n + 2 - (t + 2))
                      case measure => omega
                      case rel =>
                        have hlen : (fs ++ [(⟨nm, vl⟩ : Fd)]).length = fs.length + 1 := by rw [List.length_append]; rfl
                        rw [hlen] at HX8
                        exact ⟨t + 2, false, R0, a, b, c, _, fs ++ [⟨nm, vl⟩], by go_num, by go_num, by omega, Lib.hid (HT2.out ▸ HRM2.out), HX8, Lib.hid (HST.out.push HFL.out hzN hzl)⟩
theorem RefRead_calls (s : ByteArray) (w : World) (hs : s.size ≤ 100000) (hm : MaxL w) :
    Calls Tryd.prog 19 #[.string s] w (RP w (bs s)) := by
  by_cases hN : Lib.index ((bs s).take 2048) endB < 0
  · exact RefRead_more s w hs hN
  · obtain ⟨n, hn⟩ := Int.eq_ofNat_of_zero_le (Int.not_lt.1 hN)
    cases hL : Lib.split ((bs s).take n) [13, 10] with
    | nil =>
      have := Rem.nil (s := bs s) (n := n) (f := 0) (.inr ⟨Nat.zero_le _, hL.symm⟩)
      omega
    | cons l0 ls =>
      cases hF : refFirst l0 with
      | none => exact RefRead_first s w hs hm n hn l0 ls hL hF
      | some q =>
        obtain ⟨x, y, z⟩ := q
        cases hB : ls.all (fun l => (refFld l).isSome) with
        | false => exact RefRead_field s w hs hm n hn l0 ls hL x y z hF hB
        | true => exact RefRead_lines s w hs hm n hn l0 ls hL x y z hF hB
end Go.Proofs.YtknfoolcbfmpaaaDoor
