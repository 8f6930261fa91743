/- head.Read of lines; conditions: the library's bound lies where it is laid; the bytes can be read. -/
import Derived.Test.YtknfoolcbfmpaaaDoorHi
namespace Go.Proofs.YtknfoolcbfmpaaaDoor
set_option linter.unusedSimpArgs false
set_option linter.unusedVariables false
open Go.RowKit
set_option maxRecDepth 100000 in
set_option maxHeartbeats 4000000 in
theorem Read_lines (g o c : Nat) (l : List UInt8) (w : World) (hl : l.length ≤ c) (hc : c ≤ maxLen) (hz : l.length ≤ 100000) (hm : MaxL w) (hA : Bys w (some ⟨g, o, none⟩) l) (hN : ¬ Lib.index (l.take 2048) endB < 0) (hF : ∃ l0 ls p, Lib.split (l.take (Lib.index (l.take 2048) endB).toNat) [13, 10] = l0 :: ls ∧ firstB l0 = some p ∧ ls ≠ []) :
    Calls Tryd.prog 16 #[.slice (some ⟨g, o, none⟩) l.length c] w (RP w l) := by
  obtain ⟨W0, hW0⟩ : ∃ W0, W0 = w.alloc (.cells (hCells ⟨#[]⟩ ⟨#[]⟩ ⟨#[]⟩ (.slice none 0 0)) 25 (0, 0)) := ⟨_, rfl⟩
  obtain ⟨W1, hW1⟩ : ∃ W1, W1 = W0.alloc (.cells #[.int .u8 13, .int .u8 10, .int .u8 13, .int .u8 10] 5 (4, 5)) := ⟨_, rfl⟩
  have HB0 : Hid (Below w.heap.size w W0) := Lib.hid (hW0 ▸ below_alloc1 w _)
  have HB1 : Hid (Below w.heap.size w W1) := Lib.hid (hW1 ▸ below_al HB0.out _)
  have HR1 : Hid (Blk W1 w.heap.size (hCells ⟨#[]⟩ ⟨#[]⟩ ⟨#[]⟩ (.slice none 0 0)) 25) := Lib.hid (by rw [hW1, hW0]; exact (Blk.new' w _ _ rfl).alloc _)
  have hsz0 : W0.heap.size = w.heap.size + 1 := by rw [hW0]; simp
  have HE : Hid (Bys W1 (some ⟨W0.heap.size, 0, none⟩) endB) := Lib.hid fun i hi => by
    refine ⟨W0.heap.size, 0, rfl, ?_⟩
    rw [Nat.zero_add, hW1]
    refine (World.cell?_alloc_mark W0 _ _ _ i).trans ?_
    match i, hi with
    | 0, _ => rfl
    | 1, _ => rfl
    | 2, _ => rfl
    | 3, _ => rfl
  have HMX : Hid (MaxL W1) := Lib.hid (hm.below HB1.out)
  have HA : Hid (Bys W1 (some ⟨g, o, none⟩) l) := Lib.hid (bys_below hA HB1.out)
  have hidx := index_calls g o c W0.heap.size (l.take 2048) W1 (by rw [List.length_take]; omega) (by rw [List.length_take]; omega) HMX.out (HA.out.take 2048) HE.out
  have hst := hidx.mono (R' := fun e w' => e = .returned (.int .i64 (Lib.index (l.take 2048) endB)) ∧ Hid (RS w w' l g o)) (by
    rintro e w' ⟨rfl, q, rfl⟩
    exact ⟨rfl, Lib.hid ⟨below_drewN HB1.out _, HR1.out.below (below_drewN1 _ _), HMX.out.below (below_drewN1 _ _), bys_below HA.out (below_drewN1 _ _)⟩⟩)
  rw [List.length_take, hsz0, hW1, hW0, show min 2048 l.length = (min (l.length : Int) 2048).toNat by omega] at hst
  have hcc : (convert 28 28 (.slice (some ⟨w.heap.size + 1, 0, none⟩) 4 4)).run Tryd.prog ((w.alloc (.cells (hCells ⟨#[]⟩ ⟨#[]⟩ ⟨#[]⟩ (.slice none 0 0)) 25 (0, 0))).alloc (.cells #[.int .u8 13, .int .u8 10, .int .u8 13, .int .u8 10] 5)) = .ok (.slice (some ⟨w.heap.size + 1, 0, none⟩) 4 4) ((w.alloc (.cells (hCells ⟨#[]⟩ ⟨#[]⟩ ⟨#[]⟩ (.slice none 0 0)) 25 (0, 0))).alloc (.cells #[.int .u8 13, .int .u8 10, .int .u8 13, .int .u8 10] 5 (4, 5))) := by
    have := conv_const W0 #[.int .u8 13, .int .u8 10, .int .u8 13, .int .u8 10] 4 4
    rw [hsz0, hW0] at this
    exact this
  clear hidx HB0 HB1 HR1 HE HMX HA hW1 W1 hsz0 hW0 W0 hm hA
  have HQ : Hid (readB l = if Lib.index (l.take 2048) endB < 0 then ⟨nilP, 0, if 2048 ≤ l.length then 51 else 50⟩ else linesB (Lib.split (l.take (Lib.index (l.take 2048) endB).toNat) [13, 10]) (Lib.index (l.take 2048) endB)) := Lib.hid rfl
  have hisp := Lib.index_spec (l.take 2048) endB
  unfold RP
  generalize readB l = RR at HQ ⊢
  generalize Lib.index (l.take 2048) endB = N at hst HQ hisp hN hF
  unfold maxLen at hc
  have hmn : (min 2048 l.length : Nat) ≤ c := by omega
  rcases hisp with ⟨rfl, _⟩ | ⟨n, rfl, hn, _, _⟩
  · exact absurd hN (by decide)
  · have hn2 : n ≤ l.length ∧ n ≤ 2048 := by rw [List.length_take] at hn; omega
    have HQ2 : Hid (RR = linesB (Lib.split (l.take n) [13, 10]) n) := Lib.hid (by rw [HQ.out, if_neg (by omega)]; rfl)
    clear HQ hn
    simp only [Int.toNat_natCast] at hF
    have HFS := Lib.hid hF
    clear hF
    obtain ⟨hn3, hn4⟩ := hn2
    have hln : (l.take n).length = n := by rw [List.length_take]; omega
    obtain ⟨t, ht⟩ : ∃ t, t = mk (l.take n) := ⟨_, rfl⟩
    have hts : t.size = n := by rw [ht, mk_size, hln]
    have HT : Hid (bs t = l.take n) := Lib.hid (by rw [ht, bs_mk])
    have hcv0 := fun (w2 : World) (h : Bys w2 (some ⟨g, o, none⟩) l) => conv_mk (w := w2) c (h.take n)
    rw [hln, ← ht] at hcv0
    clear ht hln
    go_enter Tryd.func16, Tryd.ntmps16
    go_upto_region 8 with (first
      | (go_at_call 36; refine hst.mono ?_; rintro e w2 ⟨rfl, HS⟩; have hcv := hcv0 w2 HS.out.by_)
      | (go_at_call 37; refine (split_calls t w2 (by omega) HS.out.mx).mono ?_; rintro e w3 ⟨l0, ls, rfl, hll, hpz, HSP, hst3, hb3⟩; have HL3 := Lib.hid hst3; have HB3 := Lib.hid hb3; have HPZ := Lib.hid hpz; have hl0 : l0.size ≤ 100000 := by have := hpz l0 List.mem_cons_self; omega
         have e0 : w3.cell? ⟨w2.heap.size, 0, none⟩ = some (.string l0) := by
           obtain ⟨b', o', e, hcl⟩ := hst3 0 (by simp)
           cases e
           exact hcl
         clear hst3 hb3 hpz)
      | (go_at_call 38; refine (splitN_calls l0 w3 hl0 (HS.out.mx.below HB3.out)).mono ?_; rintro e w4 ⟨r, c3, rfl, hr3, hrz, HSN, hst4, hb4⟩; have HL4 := Lib.hid hst4; have HB4 := Lib.hid hb4; have HRZ := Lib.hid hrz; clear hst4 hb4 hrz))
    have HBE : Hid (Below w.heap.size w w4) := Lib.hid (bt (bt HS.out.be HB3.out) HB4.out)
    have HRB : Hid (Blk w4 w.heap.size (hCells ⟨#[]⟩ ⟨#[]⟩ ⟨#[]⟩ (.slice none 0 0)) 25) := Lib.hid ((HS.out.rb.below HB3.out).below HB4.out)
    have HQ3 : Hid (RR = linesB (bs l0 :: bss ls) n) := Lib.hid (by rw [HQ2.out, ← HT.out, HSP.out])
    have HFB : Hid (firstB (bs l0) = match bss r with | [a, b, c] => if wordB a && wordB b && valueB c then some (a, b, c) else none | _ => none) := Lib.hid (by rw [← HSN.out]; rfl)
    clear HQ2
    have z0 := (HRB.out.cell 0).trans rfl
    have z1 := (HRB.out.cell 1).trans rfl
    have z2 := (HRB.out.cell 2).trans rfl
    have z3 := (HRB.out.cell 3).trans rfl
    have k0 := HRB.out.frozen 0
    have k1 := HRB.out.frozen 1
    have k2 := HRB.out.frozen 2
    have k3 := HRB.out.frozen 3
    have HFN : Hid (∃ p, firstB (bs l0) = some p) := Lib.hid (by
      obtain ⟨m0, ms, p, h1, h2, h3⟩ := HFS.out
      rw [← HT.out, HSP.out] at h1
      rw [(List.cons.inj h1).1]; exact ⟨p, h2⟩)
    have hls : ls ≠ [] := by
      obtain ⟨m0, ms, p, h1, h2, h3⟩ := HFS.out
      rw [← HT.out, HSP.out] at h1
      intro e
      rw [e] at h1
      exact h3 (List.cons.inj h1).2.symm
    rcases r with _ | ⟨pa, _ | ⟨pb, _ | ⟨pc, _ | ⟨pd, r⟩⟩⟩⟩
    · exact absurd HFN.out (by rw [HFB.out]; simp)
    · exact absurd HFN.out (by rw [HFB.out]; simp)
    · exact absurd HFN.out (by rw [HFB.out]; simp)
    · have hza := HRZ.out pa (by simp)
      have hzb := HRZ.out pb (by simp)
      have hzc := HRZ.out pc (by simp)
      have e1 : w4.cell? ⟨w3.heap.size, 0, none⟩ = some (.string pa) := by
        obtain ⟨b', o', e, hcl⟩ := HL4.out 0 (by simp)
        cases e
        exact hcl
      have e2 : w4.cell? ⟨w3.heap.size, 1, none⟩ = some (.string pb) := by
        obtain ⟨b', o', e, hcl⟩ := HL4.out 1 (by simp)
        cases e
        exact hcl
      have e3 : w4.cell? ⟨w3.heap.size, 2, none⟩ = some (.string pc) := by
        obtain ⟨b', o', e, hcl⟩ := HL4.out 2 (by simp)
        cases e
        exact hcl
      have hwa := fun w => word_calls pa w (mx (by omega))
      have hwb := fun w => word_calls pb w (mx (by omega))
      have hvc := fun w => value_quiet pc w (mx (by omega))
      have HFB2 : Hid (firstB (bs l0) = if wordB (bs pa) && wordB (bs pb) && valueB (bs pc) then some (bs pa, bs pb, bs pc) else none) := Lib.hid HFB.out
      generalize wordB (bs pa) = qa at hwa HFB2
      generalize wordB (bs pb) = qb at hwb HFB2
      generalize valueB (bs pc) = qc at hvc HFB2
      clear HFB
      cases qa with
      | false => exact absurd HFN.out (by rw [HFB2.out]; simp)
      | true =>
        cases qb with
        | false => exact absurd HFN.out (by rw [HFB2.out]; simp)
        | true =>
          cases qc with
          | false => exact absurd HFN.out (by rw [HFB2.out]; simp)
          | true =>
            go_upto_region 10 with (first
              | (go_at_call 33; first | ((with_reducible refine (hwa _).mono ?_); rintro e w5 ⟨rfl, rfl⟩) | ((with_reducible refine (hwb _).mono ?_); rintro e w5 ⟨rfl, rfl⟩))
              | (go_at_call 32; refine (hvc _).mono ?_; rintro e w5 ⟨rfl, m5, rfl⟩))
            obtain ⟨W5, hW5⟩ : ∃ W5, W5 = w5.drewN m5 := ⟨_, rfl⟩
            have hb5 : Below w5.heap.size w5 W5 := hW5 ▸ below_drewN1 w5 m5
            rw [← hW5]
            clear hW5
            have hbA : ∀ o, Below w5.heap.size w5 (W5.alloc o) := fun o => below_al hb5 o
            have HLS : Hid (∀ o : Obj, o = .cells (hCells pa pb pc (.slice none 0 0)) 25 (0, 0) → LS w w2.heap.size W5.heap.size ls pa pb pc (.slice none 0 0) [] (W5.alloc o).drew) := Lib.hid (by
              rintro o rfl
              have hlt := (HRB.out.below hb5).lt
              have hl3 : w2.heap.size < w3.heap.size := cell_lt e0
              refine ⟨below_drew1 (below_al (bt HBE.out hb5) _), ((HRB.out.below hb5).alloc _).drew1, (Blk.new' W5 _ _ rfl).drew1, OwnF.nil _ _, ((HS.out.mx.below HB3.out).below HB4.out).below (below_drew1 (hbA _)), ?_, hlt, ?_⟩
              · intro i hi
                obtain ⟨b', o', e, hcl⟩ := ((HL3.out.below HB4.out).below (below_drew1 (hbA _))) (i + 1) (by simpa using hi)
                cases e
                exact ⟨_, _, rfl, by rw [Nat.add_comm 1 i, ← Nat.zero_add (i + 1)]; exact hcl⟩
              · have := HB4.out.size; have := hb5.size; omega)
            have q1 : ∀ o, (W5.alloc o).cell? ⟨w3.heap.size, 0, none⟩ = some (.string pa) := fun o => ((bcell (hbA o)).1 _ 0 (cell_lt e1)).trans e1
            have q2 : ∀ o, (W5.alloc o).cell? ⟨w3.heap.size, 1, none⟩ = some (.string pb) := fun o => ((bcell (hbA o)).1 _ 1 (cell_lt e2)).trans e2
            have q3 : ∀ o, (W5.alloc o).cell? ⟨w3.heap.size, 2, none⟩ = some (.string pc) := fun o => ((bcell (hbA o)).1 _ 2 (cell_lt e3)).trans e3
            have q4 := ((bcell hb5).1 _ 0 (cell_lt e1)).trans e1
            have q5 := ((bcell hb5).1 _ 1 (cell_lt e2)).trans e2
            have q6 := ((bcell hb5).1 _ 2 (cell_lt e3)).trans e3
            clear z0 z1 z2 z3 k0 k1 k2 k3 e0 e1 e2 e3
            go_region
            have HX0 := Lib.hid (HLS.out _ rfl)
            have HQ5 : Hid (RR = match fieldsB (bss ls) with
              | none => ⟨nilP, 0, 52⟩
              | some fs => if 32 < fs.length then ⟨nilP, 0, 51⟩ else ⟨⟨bs pa, bs pb, bs pc, fs⟩, n + 4, 0⟩) := Lib.hid (by rw [HQ3.out]; exact lines_yes _ _ (by rw [HFB2.out]; rfl))
            clear HQ3 HFB2 HLS q1 q2 q3 q4 q5 q6 hst hcc hwa hwb hvc hcv0
            generalize W5.heap.size = H at HX0 ⊢
            go_wp2
            have h := hls
            go_loopg [82] ls.length (fun gh v82 wx => ∃ (k : Nat) (v : Value) (fs : List Fd), v82 = .int .i64 k ∧ k + gh = ls.length ∧ fs.length = k ∧ Hid (LS w w2.heap.size H ls pa pb pc v fs wx) ∧ Hid (((bss ls).take k).all okF = true ∧ fs.map Fd.pd = ((bss ls).take k).map (fun l => (fldB l).1)) ∧ Hid (∀ f ∈ fs, f.nm.size ≤ 100000 ∧ f.vl.size ≤ 100000))
            case atStart => exact ⟨0, _, [], rfl, by omega, rfl, HX0, Lib.hid ⟨by simp, by simp⟩, Lib.hid fun f hf => by cases hf⟩
            case round =>
              obtain ⟨k, v, fs, rfl, hk, hfk, HX, HF, HZ⟩ := hrel
              by_cases hlt : k < ls.length
              · obtain ⟨b', o', e9, hcl⟩ := HX.out.st k hlt
                cases e9
                have hsz := HPZ.out ls[k] (List.mem_cons_of_mem _ (List.getElem_mem hlt))
                have hbk : k < (bss ls).length := by rw [List.length_map]; exact hlt
                have hbe : (bss ls)[k] = bs ls[k] := List.getElem_map _
                have HN : Hid (((bss ls).take (k + 1)).all okF = (((bss ls).take k).all okF && okF (bs ls[k])) ∧ ((bss ls).take (k + 1)).map (fun l => (fldB l).1) = ((bss ls).take k).map (fun l => (fldB l).1) ++ [(fldB (bs ls[k])).1]) := Lib.hid (by rw [← hbe]; exact fields_take (bss ls) k hbk)
                have HNO : Hid (okF (bs ls[k]) = false → fieldsB (bss ls) = none) := Lib.hid (by rw [← hbe]; exact fields_no (bss ls) k hbk)
                clear hbk hbe
                generalize ls[k] = s at hcl hsz HN HNO
                have hs5 : s.size ≤ 100000 := by omega
                go_upto_region 15 with (go_at_call 39; refine (field_calls s _ hs5 HX.out.mx).mono ?_; rintro e w6 ⟨nm, vl, ok, rfl, n1, n2, HFL, hb6⟩; have HX6 := Lib.hid ((HX.out.below hb6).al (.cells #[.string nm, .string vl] 48)); clear hb6)
                cases ok with
                | false =>
                  have HQ6 : Hid (RR = ⟨nilP, 0, 52⟩) := Lib.hid (by rw [HQ5.out, HNO.out (by unfold okF; rw [HFL.out])])
                  have z0 := (HX6.out.rb.cell 0).trans rfl
                  have z1 := (HX6.out.rb.cell 1).trans rfl
                  have z2 := (HX6.out.rb.cell 2).trans rfl
                  have z3 := (HX6.out.rb.cell 3).trans rfl
                  have k0 := HX6.out.rb.frozen 0
                  have k1 := HX6.out.rb.frozen 1
                  have k2 := HX6.out.rb.frozen 2
                  have k3 := HX6.out.rb.frozen 3
                  go_wp2
                  refine bodyPost_ret (v := .tuple #[nilH.val, .int .i64 0, .int .i64 52]) ?_ rfl ⟨nilH, 0, 52, rfl, HQ6.out, nilH_ok _, ?_⟩
                  · rw [results_cell_tmp2 rfl]; go_simp
                  · exact below_set (below_set (below_set (below_set HX6.out.be (Nat.le_refl _) 0 _) (Nat.le_refl _) 1 _) (Nat.le_refl _) 2 _) (Nat.le_refl _) 3 _
                | true =>
                  obtain ⟨W7, hW7⟩ : ∃ W7, W7 = w6.alloc (.cells #[.string nm, .string vl] 48 (0, 0)) := ⟨_, rfl⟩
                  rw [← hW7] at HX6 ⊢
                  have f0 : W7.cell? ⟨w6.heap.size, 0, none⟩ = some (.string nm) := hW7 ▸ (alloc_cell w6 _ _ 0).trans rfl
                  have f1 : W7.cell? ⟨w6.heap.size, 1, none⟩ = some (.string vl) := hW7 ▸ (alloc_cell w6 _ _ 1).trans rfl
                  have y3 : W7.cell? ⟨H, 3, none⟩ = some v := (HX6.out.hb.cell 3).trans rfl
                  clear hW7
                  generalize w6.heap.size = F7 at f0 f1 ⊢
                  go_wp2_with (at_builtin
                               refine wpList_app rfl _ _ _ rfl v (.slice (some ⟨W7.heap.size, 0, none⟩) 1 1) (by rfl) (by rfl) (OwnF.app1 (f := ⟨nm, vl⟩) (HX6.out.al (.cells #[.string nm, .string vl] 48)).ow _ W7.heap.size (Blk.new' _ _ _ rfl) ?h2 ?h3) ?_
                               case h2 => omega
                               case h3 => have := HX6.out.hb.lt; simp; omega
                               intro v2 w8 hF8
                               obtain ⟨A2, c2, hv2, _, _, _⟩ := hF8.own.form
                               subst hv2
                               have HX8 := Lib.hid ((HX6.out.al (.cells #[.string nm, .string vl] 48)).push hF8)
                               have y8 : w8.cell? ⟨H, 3, none⟩ = some v := (((HX6.out.al (.cells #[.string nm, .string vl] 48)).hb2 hF8).cell 3).trans rfl
                               have k8 := ((HX6.out.al (.cells #[.string nm, .string vl] 48)).hb2 hF8).frozen 3
                               clear hF8)
                  go_roundg (ls.length - (k + 1))
                  case measure => omega
                  case rel =>
                    have hlen : (fs ++ [(⟨nm, vl⟩ : Fd)]).length = k + 1 := by rw [List.length_append, hfk]; rfl
                    rw [hlen] at HX8
                    refine ⟨k + 1, _, fs ++ [⟨nm, vl⟩], by go_num, by omega, by rw [List.length_append, hfk]; rfl, HX8, Lib.hid ⟨?_, ?_⟩, Lib.hid ?_⟩
                    · rw [HN.out.1, HF.out.1]; unfold okF; rw [HFL.out]; rfl
                    · rw [HN.out.2, List.map_append, HF.out.2, HFL.out]; rfl
                    · intro f hf
                      rcases List.mem_append.1 hf with hf | hf
                      · exact HZ.out f hf
                      · rw [List.mem_singleton.1 hf]; exact ⟨by simp only; omega, by simp only; omega⟩
              · have hkl : k = ls.length := by omega
                have HG : Hid (fieldsB (bss ls) = some (fs.map Fd.pd)) := Lib.hid (by
                    have h1 := HF.out.1
                    have h2 := HF.out.2
                    rw [List.take_of_length_le (by simp [bss]; omega)] at h1 h2
                    unfold fieldsB
                    rw [if_pos h1, h2])
                obtain ⟨A5, c5, hv, q1, q2, q3⟩ := HX.out.ow.form
                subst hv
                have HFD := Lib.hid q3
                clear q1 q2 q3
                have HQ6 : Hid (RR = if 32 < fs.length then ⟨nilP, 0, 51⟩ else ⟨⟨bs pa, bs pb, bs pc, fs.map Fd.pd⟩, n + 4, 0⟩) := Lib.hid (by rw [HQ5.out, HG.out]; simp only [List.length_map])
                clear HQ5
                have z0 := (HX.out.rb.cell 0).trans rfl
                have z1 := (HX.out.rb.cell 1).trans rfl
                have z2 := (HX.out.rb.cell 2).trans rfl
                have z3 := (HX.out.rb.cell 3).trans rfl
                have k0 := HX.out.rb.frozen 0
                have k1 := HX.out.rb.frozen 1
                have k2 := HX.out.rb.frozen 2
                have k3 := HX.out.rb.frozen 3
                have y0 := (HX.out.hb.cell 0).trans rfl
                have y1 := (HX.out.hb.cell 1).trans rfl
                have y2 := (HX.out.hb.cell 2).trans rfl
                have y3 := (HX.out.hb.cell 3).trans rfl
                simp only [hCells] at y0 y1 y2 y3
                have hne : H ≠ w.heap.size := by have := HX.out.lt; omega
                by_cases h32 : 32 < fs.length
                · have HQ7 : Hid (RR = ⟨nilP, 0, 51⟩) := Lib.hid (by rw [HQ6.out, if_pos h32])
                  clear HQ6
                  have hd : decide ((32 : Int) < (fs.length : Int)) = true := decide_eq_true (by omega)
                  go_wp2
                  refine bodyPost_ret (v := .tuple #[nilH.val, .int .i64 0, .int .i64 51]) ?_ rfl ⟨nilH, 0, 51, rfl, HQ7.out, nilH_ok _, ?_⟩
                  · rw [results_cell_tmp2 rfl]; go_simp
                  · exact below_set (below_set (below_set (below_set HX.out.be (Nat.le_refl _) 0 _) (Nat.le_refl _) 1 _) (Nat.le_refl _) 2 _) (Nat.le_refl _) 3 _
                · have HQ7 : Hid (RR = ⟨⟨bs pa, bs pb, bs pc, fs.map Fd.pd⟩, n + 4, 0⟩) := Lib.hid (by rw [HQ6.out, if_neg h32])
                  clear HQ6
                  have hd : decide ((32 : Int) < (fs.length : Int)) = false := decide_eq_false (by omega)
                  go_wp2
                  refine bodyPost_ret (v := .tuple #[Hd.val ⟨pa, pb, pc, A5, c5, fs⟩, .int .i64 ((n : Int) + 4), .int .i64 0]) ?_ rfl ⟨⟨pa, pb, pc, A5, c5, fs⟩, (n : Int) + 4, 0, rfl, HQ7.out, ⟨by simp only; omega, by simp only; omega, by simp only; omega, by simp only; omega, HZ.out, ?_⟩, ?_⟩
                  · rw [results_cell_tmp2 rfl]; go_simp
                  · have hR : w.heap.size < H + 1 := by have := HX.out.lt; omega
                    exact ((((HX.out.ow.set hR 0 _).set hR 1 _).set hR 2 _).set hR 3 _).fds
                  · exact below_set (below_set (below_set (below_set HX.out.be (Nat.le_refl _) 0 _) (Nat.le_refl _) 1 _) (Nat.le_refl _) 2 _) (Nat.le_refl _) 3 _
    · simp at hr3
end Go.Proofs.YtknfoolcbfmpaaaDoor
