/- The law HeadGets: the walk; conditions: the fields can be read, strings of lengths that a world can hold; the library's bound lies where it is laid. -/
import Derived.Test.YtknfoolcbfmpaaaDoorHo
import Derived.Test.YtknfoolcbfmpaaaDoorIc
namespace Go.Proofs.YtknfoolcbfmpaaaDoor
set_option linter.unusedSimpArgs false
set_option linter.unusedVariables false
open Go.RowKit
/-- A head's box is kept. -/
theorem keepH {h : Hd} {W wx : World} {N : Nat} (HAT : h.At W N) (hb : Hid (Below W.heap.size W wx)) :
    wx.cell? ⟨N, 0, none⟩ = some (.string h.a) ∧ wx.cell? ⟨N, 1, none⟩ = some (.string h.b) ∧ wx.cell? ⟨N, 2, none⟩ = some (.string h.c) ∧ wx.cell? ⟨N, 3, none⟩ = some (.slice h.A h.fs.length h.k) ∧ Hid (Below W.heap.size W wx) := by
  obtain ⟨f0, f1, f2, f3⟩ := HAT.below hb.out
  exact ⟨f0, f1, f2, f3, hb⟩
theorem row_same (r : List ByteArray) : rowB r r = true := by simp [rowB]
set_option maxRecDepth 100000 in
set_option maxHeartbeats 4000000 in
theorem headGets_calls (h : Hd) (n : ByteArray) (w : World) (hk : h.In w) (hn : n.size ≤ maxLen) (hm : MaxL w) :
    Calls Tryd.prog 6 #[h.val, .string n] w fun e w' => e = .returned (.bool true) ∧ Below w.heap.size w w' := by
  obtain ⟨W1, hW1⟩ : ∃ W1, W1 = w.alloc (.cells h.cells 25 (0, 0)) := ⟨_, rfl⟩
  have HB0 : Hid (Below w.heap.size w W1) := Lib.hid (hW1 ▸ below_alloc1 w _)
  have HAT : Hid (h.At W1 w.heap.size) := Lib.hid (hW1 ▸ h.box w 25)
  have HK : Hid (h.In W1) := Lib.hid (hk.below HB0.out)
  have HM : Hid (MaxL W1) := Lib.hid (hm.below HB0.out)
  have hfew := fun (w' : World) (g : h.In w') => Few_calls h w' g
  have HOK : Hid (fewB h = true → ∀ w' : World, h.In w' → h.Ok w') := Lib.hid fun e w' g => g.ok e
  generalize fewB h = q at hfew HOK
  clear hk hm
  cases q with
  | false =>
    obtain ⟨sa, sb, sc, A, kc, fs⟩ := h
    try simp only at *
    go_enter Tryd.func6, Tryd.ntmps6
    go_upto_region 1 with (fail)
    rw [← hW1]
    clear hW1
    go_wp2_with (first
      | (go_at_call 11; first | ((with_reducible refine (awake_calls _ HM.out).mono ?_); rintro e w1 ⟨rfl, hb⟩; have HB1 := Lib.hid (bt HB0.out hb); have HM1 := Lib.hid (HM.out.below hb); have HK1 := Lib.hid (HK.out.below hb); have HAT1 := Lib.hid (HAT.out.below hb); obtain ⟨f0, f1, f2, f3⟩ := HAT1.out; clear hb) | ((with_reducible refine (awake_calls _ HM2.out).mono ?_); rintro e w3 ⟨rfl, hb⟩; have HB3 := Lib.hid (bt HB2.out hb); clear hb))
      | (go_at_call 12; refine (hfew _ HK1.out).mono ?_; rintro e w2 ⟨rfl, hb⟩; have HB2 := Lib.hid (bt HB1.out hb); have HM2 := Lib.hid (HM1.out.below hb); clear hb))
    go_ret
    exact ⟨rfl, HB3.out⟩
  | true =>
    have hok := HOK.out rfl
    by_cases hN : 300 < n.size
    · have hd : decide ((300 : Int) < (n.size : Int)) = true := decide_eq_true (by omega)
      obtain ⟨sa, sb, sc, A, kc, fs⟩ := h
      try simp only at *
      go_enter Tryd.func6, Tryd.ntmps6
      go_upto_region 1 with (fail)
      rw [← hW1]
      clear hW1
      go_wp2_with (first
        | (go_at_call 11; first | ((with_reducible refine (awake_calls _ HM.out).mono ?_); rintro e w1 ⟨rfl, hb⟩; have HB1 := Lib.hid (bt HB0.out hb); have HM1 := Lib.hid (HM.out.below hb); have HK1 := Lib.hid (HK.out.below hb); have HAT1 := Lib.hid (HAT.out.below hb); obtain ⟨f0, f1, f2, f3⟩ := HAT1.out; clear hb) | ((with_reducible refine (awake_calls _ HM2.out).mono ?_); rintro e w3 ⟨rfl, hb⟩; have HB3 := Lib.hid (bt HB2.out hb); clear hb))
        | (go_at_call 12; refine (hfew _ HK1.out).mono ?_; rintro e w2 ⟨rfl, hb⟩; have HB2 := Lib.hid (bt HB1.out hb); have HM2 := Lib.hid (HM1.out.below hb); clear hb))
      go_ret
      exact ⟨rfl, HB3.out⟩
    · have hd : decide ((300 : Int) < (n.size : Int)) = false := decide_eq_false (by omega)
      have HOK2 := Lib.hid hok
      clear hok HOK
      have hg1 := fun (w' : World) (g : h.Ok w') => Get_calls h n w' g hn
      have hg2 := fun (w' : World) (g : h.Ok w') => refGet_calls h n w' g hn
      have ht1 := fun (w' : World) => Token_calls n w' hn
      have ht2 := fun (w' : World) => reftoken_calls n w' hn
      have hl : (getF n h.fs).length ≤ h.fs.length := getF_len n h.fs
      have HL : Hid (h.fs.length ≤ maxLen) := Lib.hid HK.out.fl
      have hl2 := Lib.hid (Nat.le_trans hl HL.out)
      clear hl
      generalize tokB (bs n) = t at ht1 ht2
      generalize getF n h.fs = r at hg1 hg2 hl2
      have hrow : ∀ (A B : Option Addr) (c d : Nat) (w : World), Strs w A r → Strs w B r → Calls Tryd.prog 20 #[.slice A r.length c, .slice B r.length d] w fun e w' => e = .returned (.bool true) ∧ ∃ n, w' = w.drewN n := fun A B c d w hA hB => by
        have := Row_calls A B r r c d w hl2.out hl2.out hA hB
        rw [row_same] at this
        exact this
      unfold GP at hg1 hg2
      cases t
      all_goals
        obtain ⟨sa, sb, sc, A, kc, fs⟩ := h
        try simp only at *
        go_enter Tryd.func6, Tryd.ntmps6
        go_upto_region 1 with (fail)
        rw [← hW1]
        clear hW1
        go_upto_region 3 with (first
          | (go_at_call 11; ((with_reducible refine (awake_calls _ HM.out).mono ?_); rintro e w1 ⟨rfl, hb⟩; have HB1 := Lib.hid (bt HB0.out hb); have HM1 := Lib.hid (HM.out.below hb); have HK1 := Lib.hid (HK.out.below hb); have HAT1 := Lib.hid (HAT.out.below hb); obtain ⟨f0, f1, f2, f3⟩ := HAT1.out; clear hb))
          | (go_at_call 12; refine (hfew _ HK1.out).mono ?_; clear f0 f1 f2 f3; rintro e w2 ⟨rfl, hb⟩; have HB2 := Lib.hid (bt HB1.out hb); have HAT2 := Lib.hid (HAT1.out.below hb); have HO2 := Lib.hid (HOK2.out _ (HK1.out.below hb)); clear hb))
        clear HAT HAT1 HK HK1 HM HM1 hfew HOK2
        go_region_held3 (fun wx => wx.cell? ⟨w.heap.size, 0, none⟩ = some (.string sa) ∧ wx.cell? ⟨w.heap.size, 1, none⟩ = some (.string sb) ∧ wx.cell? ⟨w.heap.size, 2, none⟩ = some (.string sc) ∧ wx.cell? ⟨w.heap.size, 3, none⟩ = some (.slice A fs.length kc) ∧ Hid (Below w2.heap.size w2 wx))
          ((refine keepH HAT2.out ?_; first | assumption | exact Lib.hid (Below.refl _ _) | exact Lib.hid (below_drew1 (Below.refl _ _)) | exact Lib.hid (below_drewN (Hid.out (by assumption)) _)))
          (first
            | (go_at_call 21
               refine (hg1 _ (HO2.out.below (by first | exact Hid.out (by assumption) | exact below_drew1 (Below.refl _ _)))).mono ?_
               rintro e w3 ⟨A3, c3, rfl, _, _, h3, hb⟩
               have HL3 := Lib.hid h3
               have HB3 : Hid (Below w2.heap.size w2 w3) := Lib.hid (bt (by first | exact Hid.out (by assumption) | exact below_drew1 (Below.refl _ _)) hb)
               first
                 | (replace HR3 := Lib.hid (HR3.out.below hb))
                 | skip
               clear h3 hb)
            | (go_at_call 22
               refine (hg2 _ (HO2.out.below (by first | exact Hid.out (by assumption) | exact below_drew1 (Below.refl _ _)))).mono ?_
               rintro e w4 ⟨A4, c4, rfl, _, _, h3, hb⟩
               have HR3 := Lib.hid h3
               have HB4 : Hid (Below w2.heap.size w2 w4) := Lib.hid (bt (by first | exact Hid.out (by assumption) | exact below_drew1 (Below.refl _ _)) hb)
               first
                 | (replace HL3 := Lib.hid (HL3.out.below hb))
                 | skip
               clear h3 hb)
            | (go_at_call 20; refine (hrow _ _ _ _ _ HL3.out HR3.out).mono ?_; rintro e w5 ⟨rfl, m, rfl⟩)
            | (go_at_call 23; refine (ht1 _).mono ?_; rintro e w6 ⟨rfl, rfl⟩)
            | (go_at_call 24; refine (ht2 _).mono ?_; rintro e w7 ⟨rfl, rfl⟩))
        all_goals
          go_wp2
          go_ret
          exact ⟨rfl, bt HB2.out (by first | exact Hid.out (by assumption) | exact below_drewN (Hid.out (by assumption)) _)⟩
end Go.Proofs.YtknfoolcbfmpaaaDoor
