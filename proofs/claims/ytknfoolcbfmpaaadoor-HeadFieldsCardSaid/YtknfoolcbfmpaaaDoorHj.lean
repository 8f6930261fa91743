/- head.Read of a first line that is none; conditions: the library's bound lies where it is laid; the bytes can be read. -/
import Derived.Test.YtknfoolcbfmpaaaDoorHi
namespace Go.Proofs.YtknfoolcbfmpaaaDoor
set_option linter.unusedSimpArgs false
set_option linter.unusedVariables false
open Go.RowKit
set_option maxRecDepth 100000 in
set_option maxHeartbeats 4000000 in
theorem Read_form (g o c : Nat) (l : List UInt8) (w : World) (hl : l.length ≤ c) (hc : c ≤ maxLen) (hz : l.length ≤ 100000) (hm : MaxL w) (hA : Bys w (some ⟨g, o, none⟩) l) (hN : ¬ Lib.index (l.take 2048) endB < 0) (hF : ∀ l0 ls, Lib.split (l.take (Lib.index (l.take 2048) endB).toNat) [13, 10] = l0 :: ls → firstB l0 = none) :
    Calls Tryd.prog 16 #[.slice (some ⟨g, o, none⟩) l.length c] w (RP w l) := by
  obtain ⟨W0, hW0⟩ : ∃ W0, W0 = w.alloc (.cells (hCells ⟨#[]⟩ ⟨#[]⟩ ⟨#[]⟩ (.slice none 0 0)) 25 (0, 0)) := ⟨_, rfl⟩
  obtain ⟨W1, hW1⟩ : ∃ W1, W1 = W0.alloc (.cells #[.int .u8 13, .int .u8 10, .int .u8 13, .int .u8 10] 5 (4, 5)) := ⟨_, rfl⟩
  have HB0 : Hid (Below w.heap.size w W0) := Lib.hid (hW0 ▸ below_alloc1 w _)
  have HB1 : Hid (Below w.heap.size w W1) := Lib.hid (hW1 ▸ below_al HB0.out _)
  have HR1 : Hid (Blk W1 w.heap.size (hCells ⟨#[]⟩ ⟨#[]⟩ ⟨#[]⟩ (.slice none 0 0)) 25) := Lib.hid (by rw [hW1, hW0]; exact (Blk.new' w _ _ rfl).alloc _)
  have hsz0 : W0.heap.size = w.heap.size + 1 := by rw [hW0]; simp
  have HE : Hid (Bys W1 (some ⟨W0.heap.size, 0, none⟩) endB) := Lib.hid fun i hi => by
    refine ⟨W0.heap.size, 0, rfl, ?_⟩
    rw [Nat.zero_add, hW1]
    refine (World.cell?_alloc_mark W0 _ _ _ i).trans ?_
    match i, hi with
    | 0, _ => rfl
    | 1, _ => rfl
    | 2, _ => rfl
    | 3, _ => rfl
  have HMX : Hid (MaxL W1) := Lib.hid (hm.below HB1.out)
  have HA : Hid (Bys W1 (some ⟨g, o, none⟩) l) := Lib.hid (bys_below hA HB1.out)
  have hidx := index_calls g o c W0.heap.size (l.take 2048) W1 (by rw [List.length_take]; omega) (by rw [List.length_take]; omega) HMX.out (HA.out.take 2048) HE.out
  have hst := hidx.mono (R' := fun e w' => e = .returned (.int .i64 (Lib.index (l.take 2048) endB)) ∧ Hid (RS w w' l g o)) (by
    rintro e w' ⟨rfl, q, rfl⟩
    exact ⟨rfl, Lib.hid ⟨below_drewN HB1.out _, HR1.out.below (below_drewN1 _ _), HMX.out.below (below_drewN1 _ _), bys_below HA.out (below_drewN1 _ _)⟩⟩)
  rw [List.length_take, hsz0, hW1, hW0, show min 2048 l.length = (min (l.length : Int) 2048).toNat by omega] at hst
  have hcc : (convert 28 28 (.slice (some ⟨w.heap.size + 1, 0, none⟩) 4 4)).run Tryd.prog ((w.alloc (.cells (hCells ⟨#[]⟩ ⟨#[]⟩ ⟨#[]⟩ (.slice none 0 0)) 25 (0, 0))).alloc (.cells #[.int .u8 13, .int .u8 10, .int .u8 13, .int .u8 10] 5)) = .ok (.slice (some ⟨w.heap.size + 1, 0, none⟩) 4 4) ((w.alloc (.cells (hCells ⟨#[]⟩ ⟨#[]⟩ ⟨#[]⟩ (.slice none 0 0)) 25 (0, 0))).alloc (.cells #[.int .u8 13, .int .u8 10, .int .u8 13, .int .u8 10] 5 (4, 5))) := by
    have := conv_const W0 #[.int .u8 13, .int .u8 10, .int .u8 13, .int .u8 10] 4 4
    rw [hsz0, hW0] at this
    exact this
  clear hidx HB0 HB1 HR1 HE HMX HA hW1 W1 hsz0 hW0 W0 hm hA
  have HQ : Hid (readB l = if Lib.index (l.take 2048) endB < 0 then ⟨nilP, 0, if 2048 ≤ l.length then 51 else 50⟩ else linesB (Lib.split (l.take (Lib.index (l.take 2048) endB).toNat) [13, 10]) (Lib.index (l.take 2048) endB)) := Lib.hid rfl
  have hisp := Lib.index_spec (l.take 2048) endB
  unfold RP
  generalize readB l = RR at HQ ⊢
  generalize Lib.index (l.take 2048) endB = N at hst HQ hisp hN hF
  unfold maxLen at hc
  have hmn : (min 2048 l.length : Nat) ≤ c := by omega
  rcases hisp with ⟨rfl, _⟩ | ⟨n, rfl, hn, _, _⟩
  · exact absurd hN (by decide)
  · have hn2 : n ≤ l.length ∧ n ≤ 2048 := by rw [List.length_take] at hn; omega
    have HQ2 : Hid (RR = linesB (Lib.split (l.take n) [13, 10]) n) := Lib.hid (by rw [HQ.out, if_neg (by omega)]; rfl)
    clear HQ hn
    simp only [Int.toNat_natCast] at hF
    have HFS := Lib.hid hF
    clear hF
    obtain ⟨hn3, hn4⟩ := hn2
    have hln : (l.take n).length = n := by rw [List.length_take]; omega
    obtain ⟨t, ht⟩ : ∃ t, t = mk (l.take n) := ⟨_, rfl⟩
    have hts : t.size = n := by rw [ht, mk_size, hln]
    have HT : Hid (bs t = l.take n) := Lib.hid (by rw [ht, bs_mk])
    have hcv0 := fun (w2 : World) (h : Bys w2 (some ⟨g, o, none⟩) l) => conv_mk (w := w2) c (h.take n)
    rw [hln, ← ht] at hcv0
    clear ht hln
    go_enter Tryd.func16, Tryd.ntmps16
    go_upto_region 8 with (first
      | (go_at_call 36; refine hst.mono ?_; rintro e w2 ⟨rfl, HS⟩; have hcv := hcv0 w2 HS.out.by_)
      | (go_at_call 37; refine (split_calls t w2 (by omega) HS.out.mx).mono ?_; rintro e w3 ⟨l0, ls, rfl, hll, hpz, HSP, hst3, hb3⟩; have HL3 := Lib.hid hst3; have HB3 := Lib.hid hb3; have HPZ := Lib.hid hpz; have hl0 : l0.size ≤ 100000 := by have := hpz l0 List.mem_cons_self; omega
         have e0 : w3.cell? ⟨w2.heap.size, 0, none⟩ = some (.string l0) := by
           obtain ⟨b', o', e, hcl⟩ := hst3 0 (by simp)
           cases e
           exact hcl
         clear hst3 hb3 hpz)
      | (go_at_call 38; refine (splitN_calls l0 w3 hl0 (HS.out.mx.below HB3.out)).mono ?_; rintro e w4 ⟨r, c3, rfl, hr3, hrz, HSN, hst4, hb4⟩; have HL4 := Lib.hid hst4; have HB4 := Lib.hid hb4; have HRZ := Lib.hid hrz; clear hst4 hb4 hrz))
    have HBE : Hid (Below w.heap.size w w4) := Lib.hid (bt (bt HS.out.be HB3.out) HB4.out)
    have HRB : Hid (Blk w4 w.heap.size (hCells ⟨#[]⟩ ⟨#[]⟩ ⟨#[]⟩ (.slice none 0 0)) 25) := Lib.hid ((HS.out.rb.below HB3.out).below HB4.out)
    have HQ3 : Hid (RR = linesB (bs l0 :: bss ls) n) := Lib.hid (by rw [HQ2.out, ← HT.out, HSP.out])
    have HFB : Hid (firstB (bs l0) = match bss r with | [a, b, c] => if wordB a && wordB b && valueB c then some (a, b, c) else none | _ => none) := Lib.hid (by rw [← HSN.out]; rfl)
    clear HQ2
    have z0 := (HRB.out.cell 0).trans rfl
    have z1 := (HRB.out.cell 1).trans rfl
    have z2 := (HRB.out.cell 2).trans rfl
    have z3 := (HRB.out.cell 3).trans rfl
    have k0 := HRB.out.frozen 0
    have k1 := HRB.out.frozen 1
    have k2 := HRB.out.frozen 2
    have k3 := HRB.out.frozen 3
    have HFN : Hid (firstB (bs l0) = none) := Lib.hid (HFS.out _ _ (by rw [← HT.out]; exact HSP.out))
    rcases r with _ | ⟨pa, _ | ⟨pb, _ | ⟨pc, _ | ⟨pd, r⟩⟩⟩⟩
    · have HQ4 : Hid (RR = ⟨nilP, 0, 52⟩) := Lib.hid (by rw [HQ3.out]; exact lines_no _ _ (by rw [HFB.out]; rfl))
      go_wp2
      refine bodyPost_ret (v := .tuple #[nilH.val, .int .i64 0, .int .i64 52]) ?_ rfl ⟨nilH, 0, 52, rfl, HQ4.out, nilH_ok _, ?_⟩
      · rw [results_cell_tmp2 rfl]; go_simp
      · exact below_set (below_set (below_set (below_set HBE.out (Nat.le_refl _) 0 _) (Nat.le_refl _) 1 _) (Nat.le_refl _) 2 _) (Nat.le_refl _) 3 _
    · have HQ4 : Hid (RR = ⟨nilP, 0, 52⟩) := Lib.hid (by rw [HQ3.out]; exact lines_no _ _ (by rw [HFB.out]; rfl))
      go_wp2
      refine bodyPost_ret (v := .tuple #[nilH.val, .int .i64 0, .int .i64 52]) ?_ rfl ⟨nilH, 0, 52, rfl, HQ4.out, nilH_ok _, ?_⟩
      · rw [results_cell_tmp2 rfl]; go_simp
      · exact below_set (below_set (below_set (below_set HBE.out (Nat.le_refl _) 0 _) (Nat.le_refl _) 1 _) (Nat.le_refl _) 2 _) (Nat.le_refl _) 3 _
    · have HQ4 : Hid (RR = ⟨nilP, 0, 52⟩) := Lib.hid (by rw [HQ3.out]; exact lines_no _ _ (by rw [HFB.out]; rfl))
      go_wp2
      refine bodyPost_ret (v := .tuple #[nilH.val, .int .i64 0, .int .i64 52]) ?_ rfl ⟨nilH, 0, 52, rfl, HQ4.out, nilH_ok _, ?_⟩
      · rw [results_cell_tmp2 rfl]; go_simp
      · exact below_set (below_set (below_set (below_set HBE.out (Nat.le_refl _) 0 _) (Nat.le_refl _) 1 _) (Nat.le_refl _) 2 _) (Nat.le_refl _) 3 _
    · have hza := HRZ.out pa (by simp)
      have hzb := HRZ.out pb (by simp)
      have hzc := HRZ.out pc (by simp)
      have e1 : w4.cell? ⟨w3.heap.size, 0, none⟩ = some (.string pa) := by
        obtain ⟨b', o', e, hcl⟩ := HL4.out 0 (by simp)
        cases e
        exact hcl
      have e2 : w4.cell? ⟨w3.heap.size, 1, none⟩ = some (.string pb) := by
        obtain ⟨b', o', e, hcl⟩ := HL4.out 1 (by simp)
        cases e
        exact hcl
      have e3 : w4.cell? ⟨w3.heap.size, 2, none⟩ = some (.string pc) := by
        obtain ⟨b', o', e, hcl⟩ := HL4.out 2 (by simp)
        cases e
        exact hcl
      have hwa := fun w => word_calls pa w (mx (by omega))
      have hwb := fun w => word_calls pb w (mx (by omega))
      have hvc := fun w => value_quiet pc w (mx (by omega))
      have HFB2 : Hid (firstB (bs l0) = if wordB (bs pa) && wordB (bs pb) && valueB (bs pc) then some (bs pa, bs pb, bs pc) else none) := Lib.hid HFB.out
      generalize wordB (bs pa) = qa at hwa HFB2
      generalize wordB (bs pb) = qb at hwb HFB2
      generalize valueB (bs pc) = qc at hvc HFB2
      clear HFB
      cases qa with
      | false =>
        have HQ4 : Hid (RR = ⟨nilP, 0, 52⟩) := Lib.hid (by rw [HQ3.out]; exact lines_no _ _ (by rw [HFB2.out]; rfl))
        go_wp2_with (go_at_call 33; ((with_reducible refine (hwa _).mono ?_); rintro e w5 ⟨rfl, rfl⟩))
        refine bodyPost_ret (v := .tuple #[nilH.val, .int .i64 0, .int .i64 52]) ?_ rfl ⟨nilH, 0, 52, rfl, HQ4.out, nilH_ok _, ?_⟩
        · rw [results_cell_tmp2 rfl]; go_simp
        · exact below_set (below_set (below_set (below_set HBE.out (Nat.le_refl _) 0 _) (Nat.le_refl _) 1 _) (Nat.le_refl _) 2 _) (Nat.le_refl _) 3 _
      | true =>
        cases qb with
        | false =>
          have HQ4 : Hid (RR = ⟨nilP, 0, 52⟩) := Lib.hid (by rw [HQ3.out]; exact lines_no _ _ (by rw [HFB2.out]; rfl))
          go_wp2_with (go_at_call 33; first | ((with_reducible refine (hwa _).mono ?_); rintro e w5 ⟨rfl, rfl⟩) | ((with_reducible refine (hwb _).mono ?_); rintro e w5 ⟨rfl, rfl⟩))
          refine bodyPost_ret (v := .tuple #[nilH.val, .int .i64 0, .int .i64 52]) ?_ rfl ⟨nilH, 0, 52, rfl, HQ4.out, nilH_ok _, ?_⟩
          · rw [results_cell_tmp2 rfl]; go_simp
          · exact below_set (below_set (below_set (below_set HBE.out (Nat.le_refl _) 0 _) (Nat.le_refl _) 1 _) (Nat.le_refl _) 2 _) (Nat.le_refl _) 3 _
        | true =>
          cases qc with
          | false =>
            have HQ4 : Hid (RR = ⟨nilP, 0, 52⟩) := Lib.hid (by rw [HQ3.out]; exact lines_no _ _ (by rw [HFB2.out]; rfl))
            go_wp2_with (first
              | (go_at_call 33; first | ((with_reducible refine (hwa _).mono ?_); rintro e w5 ⟨rfl, rfl⟩) | ((with_reducible refine (hwb _).mono ?_); rintro e w5 ⟨rfl, rfl⟩))
              | (go_at_call 32; refine (hvc _).mono ?_; rintro e w5 ⟨rfl, m5, rfl⟩))
            refine bodyPost_ret (v := .tuple #[nilH.val, .int .i64 0, .int .i64 52]) ?_ rfl ⟨nilH, 0, 52, rfl, HQ4.out, nilH_ok _, ?_⟩
            · rw [results_cell_tmp2 rfl]; go_simp
            · exact below_set (below_set (below_set (below_set (below_drewN HBE.out _) (Nat.le_refl _) 0 _) (Nat.le_refl _) 1 _) (Nat.le_refl _) 2 _) (Nat.le_refl _) 3 _
          | true => exact absurd HFN.out (by rw [HFB2.out]; simp)
    · simp at hr3
end Go.Proofs.YtknfoolcbfmpaaaDoor
