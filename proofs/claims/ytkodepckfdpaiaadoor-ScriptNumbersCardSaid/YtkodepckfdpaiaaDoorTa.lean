/- A deed of numbers: the law; conditions: the numbers are within the type; the world holds what the library's numbers lean on. -/
import Derived.Test.YtkodepckfdpaiaaDoorSu
import Derived.Deep.RegionLaw
namespace Go.Proofs.YtkodepckfdpaiaaDoor
set_option linter.unusedSimpArgs false
set_option linter.unusedVariables false
open Go.RowKit
@[reducible] def tk (i n : Int) : Dd := ⟨⟨#[116, 97, 107, 101]⟩, i, 1, n, false, ⟨#[]⟩⟩
theorem numB_or (i : Int) : (decide (i = 0) || (numB i && true)) = numB i := by
  unfold numB
  by_cases h : i = 0
  · subst h; rfl
  · rw [decide_eq_false h, Bool.false_or, Bool.and_true]
theorem check_tk (i n : Int) : checkD (tk i n).dp = (numB i && numB n) := by
  rw [check_def]
  have e : whatOf (bs (tk i n).k) = some [105, 115, 110] := rfl
  rw [e]
  have e1 : ((some [105, 115, 110] : Option By).getD []).contains 105 = true := rfl
  have e2 : ((some [105, 115, 110] : Option By).getD []).contains 115 = true := rfl
  have e3 : ((some [105, 115, 110] : Option By).getD []).contains 110 = true := rfl
  rw [e1, e2, e3, numB_or, numB_or]
  simp [tk]
theorem tk_in {i n : Int} (hi : -9223372036854775808 ≤ i ∧ i ≤ 9223372036854775807) (hn : -9223372036854775808 ≤ n ∧ n ≤ 9223372036854775807) : (tk i n).In := ⟨hi, (by decide : -9223372036854775808 ≤ (1 : Int) ∧ (1 : Int) ≤ 9223372036854775807), hn, Nat.zero_le _⟩
theorem show_no {a : Dd} (h : checkD a.dp = false) : showV [a] = .tuple #[.string ⟨#[]⟩, .int .i64 201] := showV_no (by unfold allOk; simp [h])
theorem show_yes {a : Dd} (h : checkD a.dp = true) : showV [a] = .tuple #[.string (mk (textD a.dp)), .int .i64 0] := by
  have e : allT (dps [a]) = textD a.dp ++ [] := rfl
  rw [showV_yes (by unfold allOk; simp [h]), e, List.append_nil]
theorem read_single {a : Dd} (h : checkD a.dp = true) {w' w'' : World} {e : Ending} (hr : RP w' (bs (mk (textD a.dp))) e w'') : ∃ A c, e = .returned (.tuple #[.slice A 1 c, .int .i64 0, .int .i64 0]) ∧ Dds w'' A [a] ∧ Below w'.heap.size w' w'' := by
  have hd : readD (bs (mk (textD a.dp))) = .ok (dps [a]) := by
    rw [bs_mk, show textD a.dp = allT (dps [a]) from (List.append_nil _).symm]
    exact readD_all _ fun d hd => by
      have : d = a.dp := by simpa [dps] using hd
      rw [this]; exact h
  obtain ⟨hb, ⟨v, ds, rfl, hr, ho, _⟩ | ⟨n, _, hr, _⟩⟩ := hr
  · rw [hd] at hr
    have hds : [a] = ds := dps_inj (Except.ok.inj hr)
    subst hds
    obtain ⟨A, c, rfl, _, _, hD⟩ := ho.form
    exact ⟨A, c, rfl, hD, hb⟩
  · rw [hd] at hr; cases hr
theorem keepN {w3 wx : World} {N b off : Nat} {x0 x1 x2 x3 x4 x5 y0 y1 y2 y3 y4 y5 : Value}
    (f : w3.cell? ⟨N, 0, none⟩ = some x0 ∧ w3.cell? ⟨N, 1, none⟩ = some x1 ∧ w3.cell? ⟨N, 2, none⟩ = some x2 ∧ w3.cell? ⟨N, 3, none⟩ = some x3 ∧ w3.cell? ⟨N, 4, none⟩ = some x4 ∧ w3.cell? ⟨N, 5, none⟩ = some x5)
    (g : w3.cell? ⟨b, off, none⟩ = some y0 ∧ w3.cell? ⟨b, off + 1, none⟩ = some y1 ∧ w3.cell? ⟨b, off + 2, none⟩ = some y2 ∧ w3.cell? ⟨b, off + 3, none⟩ = some y3 ∧ w3.cell? ⟨b, off + 4, none⟩ = some y4 ∧ w3.cell? ⟨b, off + 5, none⟩ = some y5)
    (hb : Hid (Below w3.heap.size w3 wx)) :
    wx.cell? ⟨N, 0, none⟩ = some x0 ∧ wx.cell? ⟨N, 1, none⟩ = some x1 ∧ wx.cell? ⟨N, 2, none⟩ = some x2 ∧ wx.cell? ⟨N, 3, none⟩ = some x3 ∧ wx.cell? ⟨N, 4, none⟩ = some x4 ∧ wx.cell? ⟨N, 5, none⟩ = some x5 ∧
    wx.cell? ⟨b, off, none⟩ = some y0 ∧ wx.cell? ⟨b, off + 1, none⟩ = some y1 ∧ wx.cell? ⟨b, off + 2, none⟩ = some y2 ∧ wx.cell? ⟨b, off + 3, none⟩ = some y3 ∧ wx.cell? ⟨b, off + 4, none⟩ = some y4 ∧ wx.cell? ⟨b, off + 5, none⟩ = some y5 ∧ Hid (Below w3.heap.size w3 wx) := by
  obtain ⟨f0, f1, f2, f3, f4, f5⟩ := f
  obtain ⟨g0, g1, g2, g3, g4, g5⟩ := g
  have hc := fun b o (v : Value) (h : w3.cell? ⟨b, o, none⟩ = some v) => ((bcell hb.out).1 b o (cell_lt h)).trans h
  exact ⟨hc _ _ _ f0, hc _ _ _ f1, hc _ _ _ f2, hc _ _ _ f3, hc _ _ _ f4, hc _ _ _ f5, hc _ _ _ g0, hc _ _ _ g1, hc _ _ _ g2, hc _ _ _ g3, hc _ _ _ g4, hc _ _ _ g5, hb⟩
set_option maxRecDepth 100000 in
set_option maxHeartbeats 4000000 in
theorem Numbers_calls (i n : Int) (w : World) (hi : -9223372036854775808 ≤ i ∧ i ≤ 9223372036854775807) (hn : -9223372036854775808 ≤ n ∧ n ≤ 9223372036854775807) (he : Env w) :
    Calls Tryd.prog 8 #[.int .i64 i, .int .i64 n] w fun e w' => e = .returned (.bool true) ∧ Below w.heap.size w w' := by
  have HEN := Lib.hid he
  have haw := fun w' (h : Env w') => awake_calls w' h
  have HIN : Hid (tk i n).In := Lib.hid (tk_in hi hn)
  have hck := fun w' => Check_calls (tk i n) w' HIN.out
  have hsh := fun (w4 : World) (h : Below w.heap.size w w4) => Show_calls (some ⟨w4.heap.size, 0, none⟩) 1 [tk i n] (w4.alloc (.cells (tk i n).cells 27 (0, 0))) (by simp) (dds_one _ (tk i n) (Blk.new' w4 _ _ rfl)) (fun d hd => by rw [List.mem_singleton.1 hd]; exact HIN.out) (HEN.out.below (below_al h _))
  have HCT := Lib.hid (check_tk i n)
  rw [check_tk] at hck
  clear he
  go_enter Tryd.func8, Tryd.ntmps8
  go_upto_region 2 with (fail)
  obtain ⟨W1, hW1⟩ : ∃ W1, W1 = w.alloc (.cells (tk i n).cells 27 (0, 0)) := ⟨_, rfl⟩
  have HB1 : Hid (Below w.heap.size w W1) := Lib.hid (hW1 ▸ below_alloc1 w _)
  have HAT : Hid ((tk i n).At W1 w.heap.size) := Lib.hid (hW1 ▸ (tk i n).box (Blk.new' w _ 27 rfl))
  rw [← hW1]
  clear hW1
  obtain ⟨f0, f1, f2, f3, f4, f5⟩ := HAT.out
  by_cases hq : ((i < 0 ∨ 1000000 < i) ∨ n < 0) ∨ 1000000 < n
  · have hnb : (numB i && numB n) = false := by
      unfold numB
      simp only [Bool.and_eq_false_iff, decide_eq_false_iff_not]
      omega
    rw [show_no (HCT.out.trans hnb)] at hsh
    rw [hnb] at hck
    go_wp2_with (first
      | (go_at_call 13; refine (hsh _ HB1.out).mono ?_; rintro e w2 ⟨rfl, hb⟩; have HB2 := Lib.hid (bt (below_al HB1.out _) hb); have HAT2 := Lib.hid ((HAT.out.below (below_alloc1 _ _)).below hb); clear f0 f1 f2 f3 f4 f5 hb; obtain ⟨f0, f1, f2, f3, f4, f5⟩ := HAT2.out)
      | (go_at_call 9; refine (haw _ (HEN.out.below HB2.out)).mono ?_; rintro e w3 ⟨rfl, hb⟩; have HB3 := Lib.hid (bt HB2.out hb); have HAT3 := Lib.hid (HAT2.out.below hb); clear f0 f1 f2 f3 f4 f5 hb; obtain ⟨f0, f1, f2, f3, f4, f5⟩ := HAT3.out)
      | (go_at_call 11; refine (hck _).mono ?_; rintro e w4 ⟨rfl, hb⟩; have HB4 := Lib.hid (bt HB3.out hb); clear hb))
    all_goals first
      | (go_ret; exact ⟨rfl, HB4.out⟩)
      | (exfalso; omega)
  · have hnb : (numB i && numB n) = true := by
      unfold numB
      simp only [Bool.and_eq_true, decide_eq_true_eq]
      omega
    rw [hnb] at hck
    rw [show_yes (HCT.out.trans hnb)] at hsh
    have hrd := fun w' (h : Env w') => Read_calls (mk (textD (tk i n).dp)) w' (by rw [mk_size]; exact Nat.le_trans (text_len (HCT.out.trans hnb)) (by decide)) h
    have HRP : Hid (∀ (w' : World) (e : Ending) (w'' : World), RP w' (bs (mk (textD (tk i n).dp))) e w'' → ∃ A c, e = .returned (.tuple #[.slice A 1 c, .int .i64 0, .int .i64 0]) ∧ Dds w'' A [tk i n] ∧ Below w'.heap.size w' w'') := Lib.hid fun w' e w'' h => read_single (HCT.out.trans hnb) h
    generalize mk (textD (tk i n).dp) = T at hsh hrd HRP
    have q1 : decide (i < 0) = false := decide_eq_false (by omega)
    have q2 : decide (1000000 < i) = false := decide_eq_false (by omega)
    have q3 : decide (n < 0) = false := decide_eq_false (by omega)
    have q4 : decide (1000000 < n) = false := decide_eq_false (by omega)
    clear hq
    go_upto_region 6 with (first
      | (go_at_call 13; refine (hsh _ HB1.out).mono ?_; rintro e w2 ⟨rfl, hb⟩; have HB2 := Lib.hid (bt (below_al HB1.out _) hb); have HAT2 := Lib.hid ((HAT.out.below (below_alloc1 _ _)).below hb); clear f0 f1 f2 f3 f4 f5 hb; obtain ⟨f0, f1, f2, f3, f4, f5⟩ := HAT2.out)
      | (go_at_call 15; refine (hrd _ (HEN.out.below HB2.out)).mono ?_; intro e w3 hrp; obtain ⟨A, c, rfl, hD, hb⟩ := HRP.out _ _ _ hrp; have HD := Lib.hid hD; have HB3 := Lib.hid (bt HB2.out hb); have HAT3 := Lib.hid (HAT2.out.below hb); clear f0 f1 f2 f3 f4 f5 hrp hD hb; obtain ⟨f0, f1, f2, f3, f4, f5⟩ := HAT3.out))
    obtain ⟨b, off, rfl, h0, h1, h2, h3, h4, h5⟩ := HD.out 0 (by simp)
    have g0 : w3.cell? ⟨b, off, none⟩ = some (.string ⟨#[116, 97, 107, 101]⟩) := h0
    have g1 : w3.cell? ⟨b, off + 1, none⟩ = some (.int .i64 i) := h1
    have g2 : w3.cell? ⟨b, off + 2, none⟩ = some (.int .i64 1) := h2
    have g3 : w3.cell? ⟨b, off + 3, none⟩ = some (.int .i64 n) := h3
    have g4 : w3.cell? ⟨b, off + 4, none⟩ = some (.bool false) := h4
    have g5 : w3.cell? ⟨b, off + 5, none⟩ = some (.string ⟨#[]⟩) := h5
    clear h0 h1 h2 h3 h4 h5
    have HF := Lib.hid (And.intro f0 (And.intro f1 (And.intro f2 (And.intro f3 (And.intro f4 f5)))))
    have HG := Lib.hid (And.intro g0 (And.intro g1 (And.intro g2 (And.intro g3 (And.intro g4 g5)))))
    clear f0 f1 f2 f3 f4 f5 g0 g1 g2 g3 g4 g5 HAT HAT2 HAT3 HD HRP hsh hrd HCT HIN q1 q2 q3 q4 hi hn
    go_region_held3 (fun wx => wx.cell? ⟨w.heap.size, 0, none⟩ = some (.string ⟨#[116, 97, 107, 101]⟩) ∧ wx.cell? ⟨w.heap.size, 1, none⟩ = some (.int .i64 i) ∧ wx.cell? ⟨w.heap.size, 2, none⟩ = some (.int .i64 1) ∧ wx.cell? ⟨w.heap.size, 3, none⟩ = some (.int .i64 n) ∧ wx.cell? ⟨w.heap.size, 4, none⟩ = some (.bool false) ∧ wx.cell? ⟨w.heap.size, 5, none⟩ = some (.string ⟨#[]⟩) ∧ wx.cell? ⟨b, off, none⟩ = some (.string ⟨#[116, 97, 107, 101]⟩) ∧ wx.cell? ⟨b, off + 1, none⟩ = some (.int .i64 i) ∧ wx.cell? ⟨b, off + 2, none⟩ = some (.int .i64 1) ∧ wx.cell? ⟨b, off + 3, none⟩ = some (.int .i64 n) ∧ wx.cell? ⟨b, off + 4, none⟩ = some (.bool false) ∧ wx.cell? ⟨b, off + 5, none⟩ = some (.string ⟨#[]⟩) ∧ Hid (Below w3.heap.size w3 wx))
      ((refine keepN HF.out HG.out ?_; first | assumption | exact Lib.hid (Below.refl _ _) | exact Lib.hid (below_drew1 (Below.refl _ _)) | exact Lib.hid (below_drewN (Hid.out (by assumption)) _)))
      (first
        | (go_at_call 9
           refine (haw _ (HEN.out.below (bt HB3.out (by first | exact Hid.out (by assumption) | exact below_drew1 (Below.refl _ _))))).mono ?_
           rintro e w4 ⟨rfl, hb⟩
           have HB4 : Hid (Below w3.heap.size w3 w4) := Lib.hid (bt (by first | exact Hid.out (by assumption) | exact below_drew1 (Below.refl _ _)) hb)
           clear hb)
        | (go_at_call 11
           refine (hck _).mono ?_
           rintro e w5 ⟨rfl, hb⟩
           have HB5 : Hid (Below w3.heap.size w3 w5) := Lib.hid (bt (by first | exact Hid.out (by assumption) | exact below_drew1 (Below.refl _ _)) hb)
           clear hb))
    all_goals
      go_wp2
      go_ret
      refine ⟨rfl, bt HB3.out (Hid.out (by assumption))⟩
end Go.Proofs.YtkodepckfdpaiaaDoor
