/- Any deeds are the document's text, and themselves again, or have none: the law; conditions: the deeds lie in memory, within the types, as many as a machine can hold; the world holds what the library's numbers lean on. -/
import Derived.Test.YtkodepckfdpaiaaDoorTk
namespace Go.Proofs.YtkodepckfdpaiaaDoor
set_option linter.unusedSimpArgs false
set_option linter.unusedVariables false
open Go.RowKit
theorem keepS {w3 wx : World} {b off : Nat} {y0 y1 y2 y3 y4 y5 : Value}
    (g : w3.cell? ⟨b, off, none⟩ = some y0 ∧ w3.cell? ⟨b, off + 1, none⟩ = some y1 ∧ w3.cell? ⟨b, off + 2, none⟩ = some y2 ∧ w3.cell? ⟨b, off + 3, none⟩ = some y3 ∧ w3.cell? ⟨b, off + 4, none⟩ = some y4 ∧ w3.cell? ⟨b, off + 5, none⟩ = some y5)
    (hb : Hid (Below w3.heap.size w3 wx)) :
    wx.cell? ⟨b, off, none⟩ = some y0 ∧ wx.cell? ⟨b, off + 1, none⟩ = some y1 ∧ wx.cell? ⟨b, off + 2, none⟩ = some y2 ∧ wx.cell? ⟨b, off + 3, none⟩ = some y3 ∧ wx.cell? ⟨b, off + 4, none⟩ = some y4 ∧ wx.cell? ⟨b, off + 5, none⟩ = some y5 ∧ Hid (Below w3.heap.size w3 wx) := by
  obtain ⟨g0, g1, g2, g3, g4, g5⟩ := g
  have hc := fun b o (v : Value) (h : w3.cell? ⟨b, o, none⟩ = some v) => ((bcell hb.out).1 b o (cell_lt h)).trans h
  exact ⟨hc _ _ _ g0, hc _ _ _ g1, hc _ _ _ g2, hc _ _ _ g3, hc _ _ _ g4, hc _ _ _ g5, hb⟩
set_option maxRecDepth 100000 in
set_option maxHeartbeats 1600000 in
theorem Shows_calls (A : Option Addr) (c : Nat) (l : List Dd) (w : World) (hl : l.length ≤ 2200000000000) (hA : Dds w A l) (hin : ∀ d ∈ l, d.In) (he : Env w) :
    Calls Tryd.prog 3 #[.slice A l.length c] w fun e w' => e = .returned (.bool true) ∧ Below w.heap.size w w' := by
  have HEN := Lib.hid he
  have HA := Lib.hid hA
  have HIN := Lib.hid hin
  have haw := fun w' (h : Env w') => awake_calls w' h
  have hfew := fun w' (h : Dds w' A l) => FewS_calls A c l w' hl h
  have hrs := fun w' (h : Dds w' A l) => refShow_calls A c l w' hl h
  have HB : Hid (Below w.heap.size w w) := Lib.hid (Below.refl _ _)
  clear he hA hin
  go_enter Tryd.func3, Tryd.ntmps3
  go_wp2_with (first
    | (go_at_call 9; refine (haw _ (HEN.out.below HB.out)).mono ?_; rintro e w2 ⟨rfl, hb⟩; replace HB := Lib.hid (bt HB.out hb); clear hb)
    | (go_at_call 10; refine (hfew _ (HA.out.below HB.out)).mono ?_; rintro e w3 ⟨⟨q, rfl, hq⟩, hb⟩; replace HB := Lib.hid (bt HB.out hb); have HQ := Lib.hid hq; clear hq hb; rcases q with _ | _))
  · go_ret
    exact ⟨rfl, HB.out⟩
  · have hl6 : l.length ≤ 60 := (HQ.out (by trivial)).1
    have HT6 := Lib.hid (HQ.out (by trivial)).2
    have hsh := fun w' (h : Dds w' A l) (h2 : Env w') => Show_calls A c l w' (by omega) h HIN.out h2
    clear HQ hfew
    go_loopg [3] l.length (fun gh v3 wx => ∃ (k : Nat), v3 = .int .i64 k ∧ k + gh = l.length ∧ Hid (Below w.heap.size w wx))
    case atStart => exact ⟨0, rfl, by omega, HB⟩
    case round =>
      obtain ⟨k, rfl, hk, HB⟩ := hrel
      by_cases hlt : k < l.length
      · obtain ⟨b, off, rfl, h0, h1, h2, h3, h4, h5⟩ := HA.out.below HB.out k hlt
        have HF := Lib.hid (And.intro h0 (And.intro h1 (And.intro h2 (And.intro h3 (And.intro h4 h5)))))
        have hck := fun w' => Check_calls l[k] w' (HIN.out _ (List.getElem_mem hlt))
        have hrk := fun w' => refCheck_calls l[k] w'
        generalize checkD l[k].dp = q at hck hrk
        generalize l[k] = d at *
        clear h0 h1 h2 h3 h4 h5 hsh hrs
        go_upto_region 6 with (fail)
        go_region_held3 (fun wx => wx.cell? ⟨b, off + k * 6, none⟩ = some (.string d.k) ∧ wx.cell? ⟨b, off + k * 6 + 1, none⟩ = some (.int .i64 d.i) ∧ wx.cell? ⟨b, off + k * 6 + 2, none⟩ = some (.int .i64 d.s) ∧ wx.cell? ⟨b, off + k * 6 + 3, none⟩ = some (.int .i64 d.n) ∧ wx.cell? ⟨b, off + k * 6 + 4, none⟩ = some (.bool d.o) ∧ wx.cell? ⟨b, off + k * 6 + 5, none⟩ = some (.string d.d) ∧ Hid (Below wr.heap.size wr wx))
          ((refine keepS HF.out ?_; first | assumption | exact Lib.hid (Below.refl _ _) | exact Lib.hid (below_drew1 (Below.refl _ _)) | exact Lib.hid (below_drewN (Hid.out (by assumption)) _)))
          (first
            | (go_at_call 11
               refine (hck _).mono ?_
               rintro e w4 ⟨rfl, hb⟩
               have HB4 : Hid (Below wr.heap.size wr w4) := Lib.hid (bt (by first | exact Hid.out (by assumption) | exact below_drew1 (Below.refl _ _)) hb)
               clear hb)
            | (go_at_call 12
               refine (hrk _).mono ?_
               rintro e w5 ⟨rfl, hb⟩
               have HB5 : Hid (Below wr.heap.size wr w5) := Lib.hid (bt (by first | exact Hid.out (by assumption) | exact below_drew1 (Below.refl _ _)) hb)
               clear hb))
        all_goals
          go_wp2
          go_roundg (l.length - (k + 1))
          case measure => omega
          case rel => exact ⟨k + 1, by go_num, by omega, Lib.hid (bt HB.out (Hid.out (by assumption)))⟩
      · rcases hok : allOk l with _ | _
        · have HV := Lib.hid (refV_no hok)
          have HW := Lib.hid (showV_no hok)
          clear hok
          go_wp2_with (first
            | (go_at_call 13; refine (hsh _ (HA.out.below HB.out) (HEN.out.below HB.out)).mono ?_; rintro e w6 ⟨rfl, hb⟩; rw [HW.out]; replace HB := Lib.hid (bt HB.out hb); clear hb)
            | (go_at_call 14; refine (hrs _ (HA.out.below HB.out)).mono ?_; rintro e w7 ⟨rfl, hb⟩; rw [HV.out]; replace HB := Lib.hid (bt HB.out hb); clear hb))
          go_ret
          exact ⟨rfl, HB.out⟩
        · have HV := Lib.hid (refV_yes hok)
          have HW := Lib.hid (showV_yes hok)
          have hrd := fun w' (h : Env w') => Read_calls (mk (allT (dps l))) w' (Nat.le_trans (few_text hok hl6 HT6.out) (by decide)) h
          have HR : Hid (∀ w1 e w2, RP w1 (bs (mk (allT (dps l)))) e w2 → ∃ A2 c2, e = .returned (.tuple #[.slice A2 l.length c2, .int .i64 0, .int .i64 0]) ∧ Hid (Dds w2 A2 l) ∧ Below w1.heap.size w1 w2) := Lib.hid fun w1 e w2 h => by
            obtain ⟨A2, c2, ds, rfl, hl, hD, _, hb⟩ := rp_ok h (by rw [bs_mk]; exact readD_all _ (all_ok' hok))
            have := dps_inj hl
            subst this
            exact ⟨A2, c2, rfl, Lib.hid hD, hb⟩
          generalize mk (allT (dps l)) = T at *
          have hst : (T.toList == T.toList) = true := by rw [str_beq]; exact decide_eq_true rfl
          clear hok
          go_wp2_with (first
            | (go_at_call 13; refine (hsh _ (HA.out.below HB.out) (HEN.out.below HB.out)).mono ?_; rintro e w6 ⟨rfl, hb⟩; rw [HW.out]; replace HB := Lib.hid (bt HB.out hb); clear hb)
            | (go_at_call 14; refine (hrs _ (HA.out.below HB.out)).mono ?_; rintro e w7 ⟨rfl, hb⟩; rw [HV.out]; replace HB := Lib.hid (bt HB.out hb); clear hb)
            | (go_at_call 15; refine (hrd _ (HEN.out.below HB.out)).mono ?_; intro e w8 hrp; obtain ⟨A2, c2, rfl, HD, hb⟩ := HR.out _ _ _ hrp; replace HB := Lib.hid (bt HB.out hb); clear hrp hb)
            | (go_at_call 16; refine (Same_calls A A2 c c2 l _ (by omega) (HA.out.below HB.out) HD.out).mono ?_; rintro e w9 ⟨rfl, hb⟩; replace HB := Lib.hid (bt HB.out hb); clear hb))
          go_ret
          exact ⟨rfl, HB.out⟩
end Go.Proofs.YtkodepckfdpaiaaDoor
