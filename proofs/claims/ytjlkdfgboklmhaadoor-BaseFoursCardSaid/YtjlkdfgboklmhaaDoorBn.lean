/- The law BaseFours: of every slice of texts that can be read, it answers yes. -/
import Derived.Test.YtjlkdfgboklmhaaDoorBl
namespace Go.Proofs.YtjlkdfgboklmhaaDoor
set_option linter.unusedSimpArgs false
set_option linter.unusedVariables false
open Go.RowKit
theorem mk_bs' (s : ByteArray) : (⟨(bs s).toArray⟩ : ByteArray) = s := bs_inj rfl
theorem strs_below {w w1 : World} {A : Option Addr} {l : List ByteArray} (h : Strs w A l) (hb : Below w.heap.size w w1) : Strs w1 A l := fun i hi => by
  obtain ⟨b, off, e, hc⟩ := h i hi
  exact ⟨b, off, e, (hb.cell (p := ⟨b, off + i, none⟩) (World.block_lt_of_cell? w _ hc)).trans hc⟩
set_option maxRecDepth 100000 in
set_option maxHeartbeats 2000000 in
theorem BaseFours_calls (A : Option Addr) (ps : List ByteArray) (kp : Nat) (w : World) (hl : ps.length ≤ maxLen) (hA : Strs w A ps) :
    Calls Tryd.prog 7 #[.slice A ps.length kp] w fun e w' => e = .returned (.bool true) ∧ Below w.heap.size w w' := by
  unfold maxLen at hl
  have HA := Lib.hid hA
  clear hA
  by_cases h4 : ps.length ≤ 100
  · have hd1 : decide (100 < (ps.length : Int)) = false := decide_eq_false (by omega)
    have hcv := fun (w : World) (s : ByteArray) => conv_bytes w s
    go_enter Tryd.func7, Tryd.ntmps7
    go_wp2_with (go_at_call 11; refine (awake_calls _).mono ?_; rintro e w1 ⟨rfl, hb1⟩; have H1 := Lib.hid hb1; clear hb1)
    go_loopg [3, 4, 5] ps.length (fun gh v3 v4 v5 wx => ∃ (i : Nat) (sa wa : ByteArray), v3 = .string sa ∧ v4 = .string wa ∧ v5 = .int .i64 i ∧ i + gh = ps.length ∧ Hid (bs sa = putB (bs wa)) ∧ wa.size = 3 * i ∧ sa.size = 4 * i ∧ Hid (Below w.heap.size w wx))
    case atStart => exact ⟨0, ⟨#[]⟩, ⟨#[]⟩, rfl, rfl, rfl, by omega, Lib.hid rfl, rfl, rfl, H1⟩
    case round =>
      obtain ⟨i, sa, wa, rfl, rfl, rfl, hi, hsw, hws, hss, hb⟩ := hrel
      by_cases hlt : i < ps.length
      · obtain ⟨b, off, rfl, hc⟩ := (strs_below HA.out hb.out) i hlt
        by_cases h3 : ps[i].size = 3
        · have hpp := fun w => put_str w ps[i] (by omega)
          rw [h3] at hpp
          have hc2 : ∀ w' : World, Below wr.heap.size wr w' → w'.cell? ⟨b, off + i, none⟩ = some (.string ps[i]) := fun w' h => (h.cell (p := ⟨b, off + i, none⟩) (World.block_lt_of_cell? wr _ hc)).trans hc
          have HC2 := Lib.hid hc2
          clear hc2
          generalize hpi : ps[i] = pi at hc h3 hpp HC2
          clear hpi
          obtain ⟨px, hpx⟩ : ∃ px : ByteArray, px = ⟨(putB (bs pi)).toArray⟩ := ⟨_, rfl⟩
          rw [← hpx] at hpp
          have hpxs : px.size = 4 := by rw [← bs_length, hpx]; show (putB (bs pi)).length = 4; rw [put_len, bs_length, h3]
          have HPX : Hid (bs px = putB (bs pi)) := Lib.hid (by rw [hpx])
          clear hpx
          have hq1 : (sa ++ px).size = sa.size + px.size := ByteArray.size_append
          have hq2 : (wa ++ pi).size = wa.size + pi.size := ByteArray.size_append
          go_wp2_with (go_at_call 12; refine (hpp _).mono ?_; rintro e w2 ⟨rfl, hb2⟩; have H2 := Lib.hid hb2; have hc3 := HC2.out w2 hb2; clear hb2)
          go_roundg (ps.length - (i + 1))
          case measure => omega
          case rel =>
            refine ⟨i + 1, sa ++ px, wa ++ pi, rfl, rfl, by go_num, by omega, Lib.hid ?_, by rw [hq2]; omega, by rw [hq1]; omega, Lib.hid (bt hb.out H2.out)⟩
            rw [bs_app, bs_app, hsw.out, HPX.out]
            exact (put_append _ _ (by rw [bs_length, hws]; omega)).symm
        · have hd3 : ((ps[i].size : Int) != 3) = true := by rw [bne_iff_ne]; omega
          clear h3
          go_wp2
          go_ret
          exact ⟨rfl, hb.out⟩
      · have hgp := get_put (bs wa) (by rw [bs_length]; omega)
        rw [← hsw.out] at hgp
        have hg := fun w => Get_calls sa w (by omega)
        rw [hgp] at hg
        have HWA : Hid ((⟨(bs wa).toArray⟩ : ByteArray) = wa) := Lib.hid (mk_bs' wa)
        clear hgp
        go_wp2_with (go_at_call 13; refine (hg _).mono ?_; rintro e w2 ⟨A2, c2, rfl, hby, _, _, hb2⟩
                     have H2 := Lib.hid hb2
                     have hcv2 := conv_str (w := w2) c2 hby
                     clear hb2 hby
                     simp only [codeG, Option.getD_some] at hcv2 ⊢
                     rw [HWA.out, bs_length, hws] at hcv2)
        go_ret
        exact ⟨rfl, bt hb.out H2.out⟩
  · have hd1 : decide (100 < (ps.length : Int)) = true := decide_eq_true (by omega)
    go_enter Tryd.func7, Tryd.ntmps7
    go_wp2_with (go_at_call 11; refine (awake_calls _).mono ?_; rintro e w1 ⟨rfl, hb1⟩; have HB1 := Lib.hid hb1; clear hb1)
    all_goals first
      | (exfalso; omega)
      | (go_ret; exact ⟨rfl, Below.trans (Hid.out ‹Hid (Below w.heap.size w _)›) (HB1.out.mono (Below.size (Hid.out ‹Hid (Below w.heap.size w _)›)))⟩)
end Go.Proofs.YtjlkdfgboklmhaaDoor
