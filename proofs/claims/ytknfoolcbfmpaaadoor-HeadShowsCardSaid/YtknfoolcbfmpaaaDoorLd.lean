/- The law HeadShows: the walk; conditions: the fields can be read, strings of lengths that a world can hold; the library's bound lies where it is laid. -/
import Derived.Test.YtknfoolcbfmpaaaDoorLc
import Derived.Test.YtknfoolcbfmpaaaDoorId
namespace Go.Proofs.YtknfoolcbfmpaaaDoor
set_option linter.unusedSimpArgs false
set_option linter.unusedVariables false
open Go.RowKit
/-- Two boxes and bytes are kept. -/
theorem keepS {h g : Hd} {W wx : World} {N M : Nat} {A : Option Addr} {l : List UInt8} {c : Nat} {u : ByteArray} (HA : h.At W N) (HG : g.At W M) (HY : Bys W A l) (hu : u = ⟨l.toArray⟩) (hb : Hid (Below W.heap.size W wx)) :
    wx.cell? ⟨N, 0, none⟩ = some (.string h.a) ∧ wx.cell? ⟨N, 1, none⟩ = some (.string h.b) ∧ wx.cell? ⟨N, 2, none⟩ = some (.string h.c) ∧ wx.cell? ⟨N, 3, none⟩ = some (.slice h.A h.fs.length h.k) ∧
    wx.cell? ⟨M, 0, none⟩ = some (.string g.a) ∧ wx.cell? ⟨M, 1, none⟩ = some (.string g.b) ∧ wx.cell? ⟨M, 2, none⟩ = some (.string g.c) ∧ wx.cell? ⟨M, 3, none⟩ = some (.slice g.A g.fs.length g.k) ∧
    (convert 28 9 (.slice A l.length c)).run Tryd.prog wx = .ok (.string u) wx ∧ Hid (Below W.heap.size W wx) := by
  obtain ⟨f0, f1, f2, f3⟩ := HA.below hb.out
  obtain ⟨g0, g1, g2, g3⟩ := HG.below hb.out
  exact ⟨f0, f1, f2, f3, g0, g1, g2, g3, hu ▸ conv_str c (bys_below HY hb.out), hb⟩
set_option maxRecDepth 100000 in
set_option maxHeartbeats 1000000 in
theorem headShows_calls (h : Hd) (m : ByteArray) (w : World) (hk : h.In w) (hn : m.size ≤ maxLen) (hm : MaxL w) :
    Calls Tryd.prog 3 #[h.val, .string m] w fun e w' => e = .returned (.bool true) ∧ Below w.heap.size w w' := by
  unfold maxLen at hn
  obtain ⟨W1, hW1⟩ : ∃ W1, W1 = w.alloc (.cells h.cells 25 (0, 0)) := ⟨_, rfl⟩
  have HB0 : Hid (Below w.heap.size w W1) := Lib.hid (hW1 ▸ below_alloc1 w _)
  have HAT : Hid (h.At W1 w.heap.size) := Lib.hid (hW1 ▸ h.box w 25)
  have HK : Hid (h.In W1) := Lib.hid (hk.below HB0.out)
  have HM : Hid (MaxL W1) := Lib.hid (hm.below HB0.out)
  have hfew := fun (w' : World) (g : h.In w') => Few_calls h w' g
  have HOK : Hid (fewB h = true → ∀ w' : World, h.In w' → h.Ok w') := Lib.hid fun e w' g => g.ok e
  generalize fewB h = q at hfew HOK
  clear hk
  by_cases hbig : q = true ∧ m.size ≤ 300
  · obtain ⟨rfl, hq2⟩ := hbig
    have hd2 : decide ((300 : Int) < (m.size : Int)) = false := decide_eq_false (by omega)
    have HOK2 := Lib.hid (HOK.out rfl)
    clear HOK
    have hsh := fun (w' : World) (g : h.Ok w') => Show_calls h w' g
    have hrc := fun (w' : World) (g : h.Ok w') => refCheck_calls h w' g
    have hck := fun (w' : World) (g : h.Ok w') => Check_calls h w' g
    have htx := fun (w' : World) (g : h.Ok w') => Text_calls h w' g
    have hal := fun (g : Hd) (w' : World) (k : g.Ok w') (k2 : h.Ok w') => Alike_calls g h w' k k2
    have HT : Hid (checkP h.pd = 0 → (textP h.pd).length ≤ 2048 ∧ textP h.pd ≠ [] ∧ readB (textP h.pd ++ bs m) = ⟨h.pd, (textP h.pd).length, 0⟩) := Lib.hid fun e => ⟨text_le e, textP_ne _, read_text _ _ e⟩
    unfold SP at hsh
    unfold TP at htx
    generalize textP h.pd = TX at hsh htx HT
    generalize checkP h.pd = C at hsh hrc hck HT
    by_cases hC : C = 0
    · subst hC
      obtain ⟨ht1, ht2, ht3⟩ := HT.out rfl
      have HT3 := Lib.hid ht3
      have HT2 := Lib.hid ht2
      obtain ⟨u, hu⟩ : ∃ u, u = mk TX := ⟨_, rfl⟩
      have HU := Lib.hid hu
      have hus : u.size ≤ 2048 := by rw [hu, mk_size]; exact ht1
      have htx2 : ∀ (w' : World), h.Ok w' → Calls Tryd.prog 17 #[h.val] w' fun e w'' => e = .returned (.string u) ∧ Below w'.heap.size w' w'' := fun w' g => by
        refine (htx w' g).mono ?_
        rintro e w'' ⟨t, rfl, _, ht, hb⟩
        have e : t = u := bs_inj (by rw [ht.out, hu, bs_mk])
        exact ⟨by rw [e], hb⟩
      have hbm : bs (u ++ m) = TX ++ bs m := by rw [bs_app, hu, bs_mk]
      have hums : (u ++ m).size ≤ 100000 := by rw [ByteArray.size_append]; omega
      obtain ⟨t, htum⟩ : ∃ t, u ++ m = t := ⟨_, rfl⟩
      rw [htum] at hbm hums
      have HTM := Lib.hid hbm
      have hcv := fun w => conv_bytes w t
      clear ht2 ht3 hu htx hbm HT
      obtain ⟨sa, sb, sc, A, kc, fs⟩ := h
      try simp only at *
      go_enter Tryd.func3, Tryd.ntmps3
      go_upto_region 1 with (fail)
      rw [← hW1]
      clear hW1
      go_upto_region 9 with (first
        | (go_at_call 11; ((with_reducible refine (awake_calls _ HM.out).mono ?_); rintro e w1 ⟨rfl, hb⟩; have HB1 := Lib.hid (bt HB0.out hb); have HK1 := Lib.hid (HK.out.below hb); have HAT1 := Lib.hid (HAT.out.below hb); obtain ⟨f0, f1, f2, f3⟩ := HAT1.out; clear hb))
        | (go_at_call 12; refine (hfew _ HK1.out).mono ?_; clear f0 f1 f2 f3; rintro e w2 ⟨rfl, hb⟩; have HB2 := Lib.hid (bt HB1.out hb); have HAT2 := Lib.hid (HAT1.out.below hb); have HO2 := Lib.hid (HOK2.out _ (HK1.out.below hb)); obtain ⟨f0, f1, f2, f3⟩ := HAT2.out; clear hb)
        | (go_at_call 13; refine (hsh _ HO2.out).mono ?_; clear f0 f1 f2 f3; rintro e w3 ⟨hb, hq⟩; obtain ⟨A2, c2, rfl, q1, q2, q3⟩ := (hq.resolve_left fun hx => hx.1 rfl).2; have HB3 := Lib.hid (bt HB2.out hb); have HAT3 := Lib.hid (HAT2.out.below hb); have HO3 := Lib.hid (HO2.out.below hb); have HY3 := Lib.hid q3; have HQ3 := Lib.hid (And.intro q1 q2); obtain ⟨f0, f1, f2, f3⟩ := HAT3.out; clear hb hq q1 q2 q3)
        | (go_at_call 14; refine (hrc _ HO3.out).mono ?_; clear f0 f1 f2 f3; rintro e w4 ⟨rfl, hb⟩; have HB4 := Lib.hid (bt HB3.out hb); have HAT4 := Lib.hid (HAT3.out.below hb); have HO4 := Lib.hid (HO3.out.below hb); have HY4 := Lib.hid (bys_below HY3.out hb); obtain ⟨f0, f1, f2, f3⟩ := HAT4.out; clear hb)
        | (go_at_call 15; refine (hck _ HO4.out).mono ?_; clear f0 f1 f2 f3; rintro e w5 ⟨rfl, hb⟩; have HB5 := Lib.hid (bt HB4.out hb); have HAT5 := Lib.hid (HAT4.out.below hb); have HO5 := Lib.hid (HO4.out.below hb); have HY5 := Lib.hid (bys_below HY4.out hb); clear hb))
      have hstr : (convert 28 9 (.slice A2 TX.length c2)).run Tryd.prog w5 = .ok (.string u) w5 := HU.out ▸ conv_str c2 HY5.out
      have hrd := ReadConv t w5 hums (hm.below HB5.out)
      rw [HTM.out] at hrd
      unfold RP at hrd
      rw [HT3.out] at hrd
      clear HB0 HB1 HB2 HB3 HB4 HAT HAT1 HAT2 HAT3 HAT4 HO2 HO3 HO4 HY3 HY4 HK HK1 HM HOK2 hfew hsh hrc hck
      go_cut [8, 9, 10] (fun v8 v9 v10 wx => ∃ (g : Hd) (M : Nat), v8 = .pointer (some ⟨M, 0, none⟩) ∧ v9 = .int .i64 TX.length ∧ v10 = .int .i64 0 ∧ Hid (g.pd = (Hd.mk sa sb sc A kc fs).pd) ∧ Hid (HX w g M wx) ∧ Hid ((Hd.mk sa sb sc A kc fs).Ok wx ∧ (Hd.mk sa sb sc A kc fs).At wx w.heap.size ∧ Bys wx A2 TX))
      case first =>
        go_wp2_with (go_at_call 16; refine hrd.mono ?_; clear hrd; rintro e w6 ⟨⟨ga, gb, gc, G, j, gs⟩, n2, er2, rfl, hr, hk, hb6⟩; obtain ⟨p1, rfl, rfl⟩ := Rd.mk.inj hr; have HP := Lib.hid p1; have HKG := Lib.hid hk; have HB6 := Lib.hid (bt (cv_below w5 t) hb6); clear hr hk hb6 p1)
        go_meet
        exact ⟨⟨ga, gb, gc, G, j, gs⟩, w6.heap.size, rfl, rfl, rfl, Lib.hid HP.out.symm, Lib.hid (HX.box (bt HB5.out HB6.out) HKG.out hm (below_alloc1 _ _) (at_of_blk (t := 25) (Blk.new' _ _ _ rfl))), Lib.hid ⟨HO5.out.below (below_al HB6.out _), HAT5.out.below (below_al HB6.out _), bys_below HY5.out (below_al HB6.out _)⟩⟩
      case rest =>
        obtain ⟨g, M, rfl, rfl, rfl, HP, HG, HH⟩ := hcut
        clear hrd hstr HB5 HAT5 HO5 HY5 hcv
        have hal2 := fun w' k k2 => hal g w' k k2
        rw [alike_same HP.out] at hal2
        have HB := Lib.hid HG.out.be
        have HGA := Lib.hid HG.out.bx
        have HGO := Lib.hid HG.out.ok
        have HHO := Lib.hid HH.out.1
        have HHA := Lib.hid HH.out.2.1
        have HHY := Lib.hid HH.out.2.2
        clear HG HH HP hal
        obtain ⟨ga, gb, gc, G, j, gs⟩ := g
        try simp only at *
        go_upto_region 10 with (fail)
        go_region_held3 (fun wx => wx.cell? ⟨w.heap.size, 0, none⟩ = some (.string sa) ∧ wx.cell? ⟨w.heap.size, 1, none⟩ = some (.string sb) ∧ wx.cell? ⟨w.heap.size, 2, none⟩ = some (.string sc) ∧ wx.cell? ⟨w.heap.size, 3, none⟩ = some (.slice A fs.length kc) ∧ wx.cell? ⟨M, 0, none⟩ = some (.string ga) ∧ wx.cell? ⟨M, 1, none⟩ = some (.string gb) ∧ wx.cell? ⟨M, 2, none⟩ = some (.string gc) ∧ wx.cell? ⟨M, 3, none⟩ = some (.slice G gs.length j) ∧ (convert 28 9 (.slice A2 TX.length c2)).run Tryd.prog wx = .ok (.string u) wx ∧ Hid (Below wc.heap.size wc wx))
          ((refine keepS HHA.out HGA.out HHY.out HU.out ?_; first | assumption | exact Lib.hid (below_drew1 (Below.refl _ _))))
          (first
            | (go_at_call 17
               refine (htx2 _ (HHO.out.below (by first | exact Hid.out (by assumption) | exact below_drew1 (Below.refl _ _)))).mono ?_
               rintro e w6 ⟨rfl, hb⟩
               have HB6 : Hid (Below wc.heap.size wc w6) := Lib.hid (bt (by first | exact Hid.out (by assumption) | exact below_drew1 (Below.refl _ _)) hb)
               clear hb)
            | (go_at_call 18
               refine (hal2 _ (HGO.out.below (by first | exact Hid.out (by assumption) | exact below_drew1 (Below.refl _ _))) (HHO.out.below (by first | exact Hid.out (by assumption) | exact below_drew1 (Below.refl _ _)))).mono ?_
               rintro e w7 ⟨rfl, hb⟩
               have HB7 : Hid (Below wc.heap.size wc w7) := Lib.hid (bt (by first | exact Hid.out (by assumption) | exact below_drew1 (Below.refl _ _)) hb)
               clear hb))
        all_goals
          go_wp2
          go_ret
          exact ⟨rfl, bt HB.out (by first | exact HB7.out | exact Hid.out (by assumption))⟩
    · have hbC : ((C : Int) != 0) = true := bne_iff_ne.2 hC
      have HC := Lib.hid hC
      clear hC HT htx hal
      obtain ⟨sa, sb, sc, A, kc, fs⟩ := h
      try simp only at *
      go_enter Tryd.func3, Tryd.ntmps3
      go_upto_region 1 with (fail)
      rw [← hW1]
      clear hW1
      go_wp2_with (first
        | (go_at_call 11; ((with_reducible refine (awake_calls _ HM.out).mono ?_); rintro e w1 ⟨rfl, hb⟩; have HB1 := Lib.hid (bt HB0.out hb); have HK1 := Lib.hid (HK.out.below hb); have HAT1 := Lib.hid (HAT.out.below hb); obtain ⟨f0, f1, f2, f3⟩ := HAT1.out; clear hb))
        | (go_at_call 12; refine (hfew _ HK1.out).mono ?_; clear f0 f1 f2 f3; rintro e w2 ⟨rfl, hb⟩; have HB2 := Lib.hid (bt HB1.out hb); have HAT2 := Lib.hid (HAT1.out.below hb); have HO2 := Lib.hid (HOK2.out _ (HK1.out.below hb)); obtain ⟨f0, f1, f2, f3⟩ := HAT2.out; clear hb)
        | (go_at_call 13; refine (hsh _ HO2.out).mono ?_; clear f0 f1 f2 f3; rintro e w3 ⟨hb, hq⟩; obtain rfl := (hq.resolve_right fun hx => HC.out hx.1).2; have HB3 := Lib.hid (bt HB2.out hb); have HAT3 := Lib.hid (HAT2.out.below hb); have HO3 := Lib.hid (HO2.out.below hb); obtain ⟨f0, f1, f2, f3⟩ := HAT3.out; clear hb hq)
        | (go_at_call 14; refine (hrc _ HO3.out).mono ?_; clear f0 f1 f2 f3; rintro e w4 ⟨rfl, hb⟩; have HB4 := Lib.hid (bt HB3.out hb); have HAT4 := Lib.hid (HAT3.out.below hb); have HO4 := Lib.hid (HO3.out.below hb); obtain ⟨f0, f1, f2, f3⟩ := HAT4.out; clear hb)
        | (go_at_call 15; refine (hck _ HO4.out).mono ?_; clear f0 f1 f2 f3; rintro e w5 ⟨rfl, hb⟩; have HB5 := Lib.hid (bt HB4.out hb); clear hb))
      go_ret
      exact ⟨rfl, HB5.out⟩
  · cases q with
    | false =>
      clear hbig
      obtain ⟨sa, sb, sc, A, kc, fs⟩ := h
      try simp only at *
      go_enter Tryd.func3, Tryd.ntmps3
      go_upto_region 1 with (fail)
      rw [← hW1]
      clear hW1
      go_wp2_with (first
        | (go_at_call 11; first | ((with_reducible refine (awake_calls _ HM.out).mono ?_); rintro e w1 ⟨rfl, hb⟩; have HB1 := Lib.hid (bt HB0.out hb); have HM1 := Lib.hid (HM.out.below hb); have HK1 := Lib.hid (HK.out.below hb); have HAT1 := Lib.hid (HAT.out.below hb); obtain ⟨f0, f1, f2, f3⟩ := HAT1.out; clear hb) | ((with_reducible refine (awake_calls _ HM2.out).mono ?_); rintro e w3 ⟨rfl, hb⟩; have HB3 := Lib.hid (bt HB2.out hb); clear hb))
        | (go_at_call 12; refine (hfew _ HK1.out).mono ?_; rintro e w2 ⟨rfl, hb⟩; have HB2 := Lib.hid (bt HB1.out hb); have HM2 := Lib.hid (HM1.out.below hb); clear hb))
      go_ret
      exact ⟨rfl, HB3.out⟩
    | true =>
      have hd2 : decide ((300 : Int) < (m.size : Int)) = true := decide_eq_true (by
        have : ¬ m.size ≤ 300 := fun e => hbig ⟨rfl, e⟩
        omega)
      clear hbig
      obtain ⟨sa, sb, sc, A, kc, fs⟩ := h
      try simp only at *
      go_enter Tryd.func3, Tryd.ntmps3
      go_upto_region 1 with (fail)
      rw [← hW1]
      clear hW1
      go_wp2_with (first
        | (go_at_call 11; first | ((with_reducible refine (awake_calls _ HM.out).mono ?_); rintro e w1 ⟨rfl, hb⟩; have HB1 := Lib.hid (bt HB0.out hb); have HM1 := Lib.hid (HM.out.below hb); have HK1 := Lib.hid (HK.out.below hb); have HAT1 := Lib.hid (HAT.out.below hb); obtain ⟨f0, f1, f2, f3⟩ := HAT1.out; clear hb) | ((with_reducible refine (awake_calls _ HM2.out).mono ?_); rintro e w3 ⟨rfl, hb⟩; have HB3 := Lib.hid (bt HB2.out hb); clear hb))
        | (go_at_call 12; refine (hfew _ HK1.out).mono ?_; rintro e w2 ⟨rfl, hb⟩; have HB2 := Lib.hid (bt HB1.out hb); have HM2 := Lib.hid (HM1.out.below hb); clear hb))
      go_ret
      exact ⟨rfl, HB3.out⟩
end Go.Proofs.YtknfoolcbfmpaaaDoor
