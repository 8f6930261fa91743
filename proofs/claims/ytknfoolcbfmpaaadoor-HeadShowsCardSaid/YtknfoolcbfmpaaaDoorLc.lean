/- The law HeadAgain: the walk; conditions: the library's bound lies where it is laid. -/
import Derived.Test.YtknfoolcbfmpaaaDoorLa
namespace Go.Proofs.YtknfoolcbfmpaaaDoor
set_option linter.unusedSimpArgs false
set_option linter.unusedVariables false
open Go.RowKit
theorem nilH_pd : nilH.pd = nilP := rfl
/-- head.Read of bytes that are a text's. -/
theorem ReadBys (A : Option Addr) (c : Nat) (l : List UInt8) (w : World) (h0 : l ≠ []) (hl : l.length ≤ c) (hc : c ≤ maxLen) (hz : l.length ≤ 100000) (hm : MaxL w) (hA : Bys w A l) :
    Calls Tryd.prog 16 #[.slice A l.length c] w (RP w l) := by
  obtain ⟨b, off, rfl, _⟩ := hA 0 (List.length_pos_iff.2 h0)
  exact Read_calls b off c l w hl hc hz hm hA
theorem textP_ne (p : Pd) : textP p ≠ [] := by
  unfold textP
  simp
theorem text_le {p : Pd} (h : checkP p = 0) : (textP p).length ≤ 2048 := by
  rw [text_len]; exact (check_zero h).2.2
theorem read_back {p : Pd} (h : checkP p = 0) : readB (textP p) = ⟨p, (textP p).length, 0⟩ := by
  have := read_text p [] h
  rwa [List.append_nil] at this
set_option maxRecDepth 100000 in
set_option maxHeartbeats 4000000 in
theorem headAgain_calls (s : ByteArray) (w : World) (hs : s.size ≤ maxLen) (hm : MaxL w) :
    Calls Tryd.prog 8 #[.string s] w fun e w' => e = .returned (.bool true) ∧ Below w.heap.size w w' := by
  unfold maxLen at hs
  by_cases h1 : 2500 < s.size
  · have da : decide ((2500 : Int) < (s.size : Int)) = true := decide_eq_true (by omega)
    go_enter Tryd.func8, Tryd.ntmps8
    go_wp2_with (go_at_call 11; first | ((with_reducible refine (awake_calls _ hm).mono ?_); rintro e w1 ⟨rfl, hb⟩; have HB1 := Lib.hid hb; have HM1 := Lib.hid (hm.below hb); clear hb) | ((with_reducible refine (awake_calls _ HM1.out).mono ?_); rintro e w2 ⟨rfl, hb⟩; have HB2 := Lib.hid (bt HB1.out hb); clear hb))
    go_ret
    exact ⟨rfl, HB2.out⟩
  · have da : decide ((2500 : Int) < (s.size : Int)) = false := decide_eq_false (by omega)
    have hcv := fun w => conv_bytes w s
    have HRC := Lib.hid (read_cases (bs s))
    have HRK := Lib.hid (fun e : (readB (bs s)).e = 0 => read_check e)
    go_enter Tryd.func8, Tryd.ntmps8
    go_upto_region 3 with (go_at_call 11; ((with_reducible refine (awake_calls _ hm).mono ?_); rintro e w1 ⟨rfl, hb⟩; have HB1 := Lib.hid hb; have HM1 := Lib.hid (hm.below hb); clear hb))
    have hrd := ReadConv s w1 (by omega) HM1.out
    go_cut [3, 4, 5] (fun v3 v4 v5 wx => ∃ (h : Hd) (N : Nat) (n er : Int), v3 = .pointer (some ⟨N, 0, none⟩) ∧ v4 = .int .i64 n ∧ v5 = .int .i64 er ∧ Hid (readB (bs s) = ⟨h.pd, n, er⟩) ∧ Hid (HX w h N wx))
    case first =>
      clear HRC HRK
      unfold RP at hrd
      go_wp2_with (go_at_call 16; refine hrd.mono ?_; clear hrd; rintro e w2 ⟨⟨ha, hb, hc, A, k, fs⟩, n, er, rfl, hr, hk, hb2⟩; have HR := Lib.hid hr; have HK := Lib.hid hk; have HB2 := Lib.hid (bt (bt HB1.out (cv_below w1 s)) hb2); clear hr hk hb2)
      go_meet
      exact ⟨⟨ha, hb, hc, A, k, fs⟩, w2.heap.size, n, er, rfl, rfl, rfl, HR, Lib.hid (HX.box HB2.out HK.out hm (below_alloc1 _ _) (at_of_blk (t := 25) (Blk.new' _ _ _ rfl)))⟩
    case rest =>
      obtain ⟨h, N, n, er, rfl, rfl, rfl, HR, HH⟩ := hcut
      clear hrd hcv HB1 HM1
      have hrc := HRC.out
      rw [HR.out] at hrc
      have HRK2 : Hid (er = 0 → checkP h.pd = 0 ∨ checkP h.pd = 51) := Lib.hid (by have := HRK.out; rw [HR.out] at this; exact this)
      have HRC2 := Lib.hid hrc
      clear hrc HRC HRK HR
      obtain ⟨f0, f1, f2, f3⟩ := HH.out.bx
      by_cases he : er = 0
      · subst he
        have HK2 := Lib.hid (HRK2.out rfl)
        clear HRC2 HRK2
        have hsh := Show_calls h wc HH.out.ok
        unfold SP at hsh
        rcases HK2.out with hk0 | hk51
        · have HK0 := Lib.hid hk0
          clear hk0 HK2
          obtain ⟨ha, hb, hc, A, k, fs⟩ := h
          simp only at *
          go_upto_region 9 with (go_at_call 13; refine hsh.mono ?_; clear hsh f0 f1 f2 f3; rintro e w2 ⟨hb2, hq⟩; obtain ⟨A2, c2, rfl, q1, q2, q3⟩ := (hq.resolve_left fun hx => hx.1 HK0.out).2; have HH2 := Lib.hid (HH.out.below hb2); have HRD := Lib.hid (ReadBys A2 c2 _ w2 (textP_ne _) q1 q2 (by have := text_le HK0.out; omega) HH2.out.mx q3); have hlt := text_le HK0.out; clear hq hb2 q1 q2 q3)
          clear HH
          have hrd := HRD.out
          clear HRD
          unfold RP at hrd
          rw [read_back HK0.out] at hrd
          go_cut [8, 9, 10] (fun v8 v9 v10 wx => ∃ (g : Hd) (M : Nat), v8 = .pointer (some ⟨M, 0, none⟩) ∧ v9 = .int .i64 (textP (Hd.mk ha hb hc A k fs).pd).length ∧ v10 = .int .i64 0 ∧ Hid (g.pd = (Hd.mk ha hb hc A k fs).pd) ∧ Hid (HX w g M wx) ∧ Hid (HX w (Hd.mk ha hb hc A k fs) N wx))
          case first =>
            go_wp2_with (go_at_call 16; refine hrd.mono ?_; clear hrd; rintro e w3 ⟨⟨ga, gb, gc, G, j, gs⟩, n2, er2, rfl, hr, hk, hb3⟩; obtain ⟨p1, rfl, rfl⟩ := Rd.mk.inj hr; have HP := Lib.hid p1; have HK := Lib.hid hk; have HB3 := Lib.hid hb3; clear hr hk hb3 p1)
            go_meet
            exact ⟨⟨ga, gb, gc, G, j, gs⟩, w3.heap.size, rfl, rfl, rfl, Lib.hid HP.out.symm, Lib.hid (HX.box (bt HH2.out.be HB3.out) HK.out hm (below_alloc1 _ _) (at_of_blk (t := 25) (Blk.new' _ _ _ rfl))), Lib.hid ((HH2.out.below HB3.out).below (below_alloc1 _ _))⟩
          case rest =>
            obtain ⟨g, M, rfl, rfl, rfl, HP, HG, HH⟩ := hcut
            clear hrd HH2
            have hal := Alike_calls g ⟨ha, hb, hc, A, k, fs⟩ wc HG.out.ok HH.out.ok
            rw [alike_same HP.out] at hal
            obtain ⟨f0, f1, f2, f3⟩ := HH.out.bx
            obtain ⟨g0, g1, g2, g3⟩ := HG.out.bx
            have HB := Lib.hid HH.out.be
            clear HP HG HH
            obtain ⟨ga, gb, gc, G, j, gs⟩ := g
            simp only at *
            go_wp2_with (go_at_call 18; refine hal.mono ?_; rintro e w5 ⟨rfl, hb5⟩; have HB5 := Lib.hid (bt HB.out hb5); clear hb5)
            go_ret
            exact ⟨rfl, HB5.out⟩
        · have HK5 := Lib.hid hk51
          clear hk51 HK2
          obtain ⟨ha, hb, hc, A, k, fs⟩ := h
          simp only at *
          rw [HK5.out] at hsh
          go_wp2_with (go_at_call 13; refine hsh.mono ?_; clear hsh; rintro e w2 ⟨hb2, hq⟩; obtain rfl := (hq.resolve_right fun hx => absurd hx.1 (by decide)).2; have HB2 := Lib.hid (bt HH.out.be hb2); clear hq hb2)
          go_ret
          exact ⟨rfl, HB2.out⟩
      · have hne : ((er : Int) != 0) = true := bne_iff_ne.2 he
        obtain ⟨_, hp, rfl⟩ := HRC2.out.resolve_right fun hx => he hx.1
        have hal := Alike_calls h nilH wc HH.out.ok (nilH_ok _)
        rw [alike_same (hp.trans nilH_pd.symm)] at hal
        have HB := Lib.hid HH.out.be
        clear HH HRK2 HRC2 hp he
        obtain ⟨ha, hb, hc, A, k, fs⟩ := h
        simp only at *
        go_wp2_with (go_at_call 18; refine hal.mono ?_; rintro e w5 ⟨rfl, hb5⟩; have HB5 := Lib.hid (bt HB.out hb5); clear hb5)
        go_ret
        exact ⟨rfl, HB5.out⟩
end Go.Proofs.YtknfoolcbfmpaaaDoor
