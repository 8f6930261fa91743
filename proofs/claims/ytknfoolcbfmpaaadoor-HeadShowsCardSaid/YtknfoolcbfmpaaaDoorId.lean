/- The document's Text and Check: a head's bytes, and whether it may be; conditions: the fields can be read, texts are not too great. -/
import Derived.Test.YtknfoolcbfmpaaaDoorIc
import Derived.Test.YtknfoolcbfmpaaaDoorHe
namespace Go.Proofs.YtknfoolcbfmpaaaDoor
set_option linter.unusedSimpArgs false
set_option linter.unusedVariables false
open Go.RowKit
/-- What Text leaves. -/
def TP (w : World) (p : Pd) (e : Ending) (w' : World) : Prop := ∃ t : ByteArray, e = .returned (.string t) ∧ t.size ≤ 13000000 ∧ Hid (bs t = textP p) ∧ Below w.heap.size w w'
set_option maxRecDepth 100000 in
set_option maxHeartbeats 4000000 in
theorem Text_calls (h : Hd) (w : World) (hk : h.Ok w) : Calls Tryd.prog 17 #[h.val] w (TP w h.pd) := by
  obtain ⟨W1, hW1⟩ : ∃ W1, W1 = w.alloc (.cells h.cells 25 (0, 0)) := ⟨_, rfl⟩
  have HB0 : Hid (Below w.heap.size w W1) := Lib.hid (hW1 ▸ below_alloc1 w _)
  have HAT : Hid (h.At W1 w.heap.size) := Lib.hid (hW1 ▸ h.box w 25)
  have HFD : Hid (Fds W1 h.A h.fs) := Lib.hid (hk.fd.below HB0.out)
  have HP0 := Lib.hid (preB_zero h)
  have HP1 := Lib.hid (preB_succ h)
  have HP2 := Lib.hid (preB_all h)
  have HPL := Lib.hid (fun i => preB_len h w hk i)
  have HTB : Hid (topB h.pd = (bs h.a ++ ([32] ++ (bs h.b ++ ([32] ++ bs h.c)))) ++ [13, 10]) := Lib.hid rfl
  have HFZ := Lib.hid hk.fz
  obtain ⟨hl, hla, hlb, hlc, _, _⟩ := hk
  unfold TP
  generalize textP h.pd = TX at HP2 ⊢
  obtain ⟨f0, f1, f2, f3⟩ := HAT.out
  obtain ⟨sa, sb, sc, A, kc, fs⟩ := h
  simp only at *
  have hlt0 : (sa ++ ⟨#[32]⟩ ++ sb ++ ⟨#[32]⟩ ++ sc ++ ⟨#[13, 10]⟩ : ByteArray).size ≤ 12600000 := by
    simp only [ByteArray.size_append, crlf_size, show (⟨#[32]⟩ : ByteArray).size = 1 from rfl]; omega
  have HX0 : Hid (bs (sa ++ ⟨#[32]⟩ ++ sb ++ ⟨#[32]⟩ ++ sc ++ ⟨#[13, 10]⟩) = preB ⟨sa, sb, sc, A, kc, fs⟩ 0) := Lib.hid (by
    rw [HP0.out, HTB.out]
    simp only [bs_app, List.append_assoc])
  generalize sa ++ ⟨#[32]⟩ ++ sb ++ ⟨#[32]⟩ ++ sc ++ ⟨#[13, 10]⟩ = t0 at hlt0 HX0
  go_enter Tryd.func17, Tryd.ntmps17
  go_upto_region 1 with (fail)
  rw [← hW1]
  have HW := Lib.hid hW1
  clear hW1 HAT
  go_cut [3] (fun v wx => ∃ t : ByteArray, v = .string t ∧ t.size ≤ 12600000 ∧ Hid (bs t = preB ⟨sa, sb, sc, A, kc, fs⟩ 0) ∧ wx = W1)
  case first =>
    clear hlt0 HX0
    go_wp2
    go_meet
    refine ⟨_, rfl, ?_, Lib.hid ?_, rfl⟩
    · simp only [ByteArray.size_append, crlf_size, show (⟨#[32]⟩ : ByteArray).size = 1 from rfl]; omega
    · rw [HP0.out, HTB.out]
      simp only [bs_app, List.append_assoc]
  case rest =>
    obtain ⟨t, rfl, ht, HT, rfl⟩ := hcut
    clear hlt0 HX0 f0 f1 f2
    go_wp2
    go_loopg [3, 4] fs.length (fun gh v3 v4 wx => ∃ (k : Nat) (t : ByteArray), v4 = .int .i64 k ∧ k + gh = fs.length ∧ v3 = .string t ∧ t.size ≤ 12600000 ∧ Hid (bs t = preB ⟨sa, sb, sc, A, kc, fs⟩ k) ∧ Hid (Drawn wc wx))
    case atStart => exact ⟨0, t, rfl, by omega, rfl, ht, HT, Lib.hid (Drawn.refl _)⟩
    case round =>
      clear ht HT
      obtain ⟨k, t, rfl, hk, rfl, ht, HT, HD⟩ := hrel
      obtain ⟨m, rfl⟩ := HD.out.out
      by_cases hlt : k < fs.length
      · obtain ⟨b, off, rfl, g0, g1⟩ := HFD.out k hlt
        obtain ⟨z1, z2⟩ := HFZ.out _ (List.getElem_mem hlt)
        have HN := Lib.hid (HP1.out k hlt)
        have HL := Lib.hid (HPL.out (k + 1))
        try simp only at g0 g1
        generalize fs[k] = f at g0 g1 z1 z2 HN
        obtain ⟨nm, vl⟩ := f
        simp only at g0 g1 z1 z2
        have HF : Hid (lineB (Fd.pd ⟨nm, vl⟩) = bs nm ++ [58, 32] ++ bs vl ++ [13, 10]) := Lib.hid rfl
        go_upto_region 5 with (fail)
        go_quiet (fail)
        go_wp2
        go_roundg (fs.length - (k + 1))
        case measure => omega
        case rel =>
          have HE : bs (t ++ (nm ++ ⟨#[58, 32]⟩ ++ vl ++ ⟨#[13, 10]⟩)) = preB ⟨sa, sb, sc, some ⟨b, off, none⟩, kc, fs⟩ (k + 1) := by
            rw [HN.out, HF.out, ← HT.out]
            simp only [bs_app]
          refine ⟨k + 1, _, by go_num, by omega, rfl, ?_, Lib.hid HE, Lib.hid (Drawn.mk ⟨_, rfl⟩)⟩
          have := HL.out
          rw [← HE, bs_length] at this
          exact this
      · obtain rfl : k = fs.length := by omega
        go_wp2
        go_ret
        refine ⟨_, rfl, ?_, Lib.hid ?_, below_drewN HB0.out _⟩
        · simp only [ByteArray.size_append, crlf_size]; omega
        · rw [HP2.out, ← HT.out, bs_app]
theorem text_lenP (h : Hd) {t : ByteArray} (e : bs t = textP h.pd) : t.size = sizeP h.pd := by
  rw [← bs_length, e, textP_len]
set_option maxRecDepth 100000 in
set_option maxHeartbeats 4000000 in
theorem refCheck_calls (h : Hd) (w : World) (hk : h.Ok w) :
    Calls Tryd.prog 14 #[h.val] w fun e w' => e = .returned (.int .i64 (checkP h.pd)) ∧ Below w.heap.size w w' := by
  obtain ⟨W1, hW1⟩ : ∃ W1, W1 = w.alloc (.cells h.cells 25 (0, 0)) := ⟨_, rfl⟩
  have HB0 : Hid (Below w.heap.size w W1) := Lib.hid (hW1 ▸ below_alloc1 w _)
  have HAT : Hid (h.At W1 w.heap.size) := Lib.hid (hW1 ▸ h.box w 25)
  have HK : Hid (h.Ok W1) := Lib.hid (hk.below HB0.out)
  have hfl := hk.fl
  have hfo := fun (w' : World) (g : h.Ok w') => Form_calls h w' g.lo
  have htx := fun (w' : World) (g : h.Ok w') => Text_calls h w' g
  have HTL : Hid (∀ t : ByteArray, bs t = textP h.pd → t.size = sizeP h.pd) := Lib.hid fun t e => text_lenP h e
  have HC : Hid (checkP h.pd = if formP h.pd = false then 52 else if 32 < h.fs.length ∨ 2048 < sizeP h.pd then 51 else 0) := Lib.hid (by
    unfold checkP
    rw [any_pd, List.length_map])
  unfold TP at htx
  generalize checkP h.pd = C at HC ⊢
  generalize formP h.pd = qf at hfo HC
  generalize sizeP h.pd = P at HTL HC
  generalize textP h.pd = TX at htx HTL
  obtain ⟨f0, f1, f2, f3⟩ := HAT.out
  clear hk
  obtain ⟨sa, sb, sc, A, kc, fs⟩ := h
  simp only at *
  cases qf with
  | false =>
    obtain rfl : C = 52 := by rw [HC.out]; simp
    go_enter Tryd.func14, Tryd.ntmps14
    go_upto_region 1 with (fail)
    rw [← hW1]
    clear hW1
    go_wp2_with (go_at_call 30; refine (hfo _ HK.out).mono ?_; rintro e w1 ⟨rfl, hb⟩; have HB1 := Lib.hid (bt HB0.out hb); clear hb)
    go_ret
    exact ⟨rfl, HB1.out⟩
  | true =>
    by_cases h32 : 32 < fs.length
    · obtain rfl : C = 51 := by rw [HC.out]; simp [h32]
      have hd : decide ((32 : Int) < (fs.length : Int)) = true := decide_eq_true (by omega)
      go_enter Tryd.func14, Tryd.ntmps14
      go_upto_region 1 with (fail)
      rw [← hW1]
      clear hW1
      go_wp2_with (go_at_call 30; refine (hfo _ HK.out).mono ?_; rintro e w1 ⟨rfl, hb⟩; have HB1 := Lib.hid (bt HB0.out hb); have HAT1 := Lib.hid (HAT.out.below hb); obtain ⟨g0, g1, g2, g3⟩ := HAT1.out; clear hb)
      go_ret
      exact ⟨rfl, HB1.out⟩
    · have hd : decide ((32 : Int) < (fs.length : Int)) = false := decide_eq_false (by omega)
      have HC2 : Hid (C = if 2048 < P then 51 else 0) := Lib.hid (by rw [HC.out]; simp [h32])
      clear HC
      go_enter Tryd.func14, Tryd.ntmps14
      go_upto_region 1 with (fail)
      rw [← hW1]
      clear hW1
      go_upto_region 3 with (go_at_call 30; refine (hfo _ HK.out).mono ?_; rintro e w1 ⟨rfl, hb⟩; have HB1 := Lib.hid (bt HB0.out hb); have HAT1 := Lib.hid (HAT.out.below hb); have HK1 := Lib.hid (HK.out.below hb); obtain ⟨g0, g1, g2, g3⟩ := HAT1.out; clear hb)
      by_cases hP : 2048 < P
      · obtain rfl : C = 51 := by rw [HC2.out]; simp [hP]
        go_wp2_with (go_at_call 17; refine (htx _ HK1.out).mono ?_; rintro e w2 ⟨t, rfl, hts, HT, hb⟩; have HB2 := Lib.hid (bt HB1.out hb); have hsz := HTL.out t HT.out; have hd2 : decide ((2048 : Int) < (t.size : Int)) = true := decide_eq_true (by omega); clear hb hsz)
        go_ret
        exact ⟨rfl, HB2.out⟩
      · obtain rfl : C = 0 := by rw [HC2.out]; simp [hP]
        go_wp2_with (go_at_call 17; refine (htx _ HK1.out).mono ?_; rintro e w2 ⟨t, rfl, hts, HT, hb⟩; have HB2 := Lib.hid (bt HB1.out hb); have hsz := HTL.out t HT.out; have hd2 : decide ((2048 : Int) < (t.size : Int)) = false := decide_eq_false (by omega); clear hb hsz)
        go_ret
        exact ⟨rfl, HB2.out⟩
end Go.Proofs.YtknfoolcbfmpaaaDoor
