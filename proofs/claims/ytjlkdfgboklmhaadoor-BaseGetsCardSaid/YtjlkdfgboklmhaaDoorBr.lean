/- The law BasePuts: of every text, it answers yes. -/
import Derived.Test.YtjlkdfgboklmhaaDoorBq
namespace Go.Proofs.YtjlkdfgboklmhaaDoor
set_option linter.unusedSimpArgs false
set_option linter.unusedVariables false
open Go.RowKit
theorem mk_bs2 (s : ByteArray) : (⟨(bs s).toArray⟩ : ByteArray) = s := bs_inj rfl
set_option maxRecDepth 100000 in
set_option maxHeartbeats 4000000 in
theorem BasePuts_calls (a : ByteArray) (w : World) (ha : a.size ≤ maxLen) :
    Calls Tryd.prog 3 #[.string a] w fun e w' => e = .returned (.bool true) ∧ Below w.heap.size w w' := by
  unfold maxLen at ha
  by_cases h4 : a.size ≤ 300
  · have hd1 : decide (300 < (a.size : Int)) = false := decide_eq_false (by omega)
    have hcv := fun (w : World) (s : ByteArray) => conv_bytes w s
    have hpa := fun w => put_str w a (by omega)
    have hra := fun w => refPut_calls a w (by omega)
    obtain ⟨x, hx⟩ : ∃ x : ByteArray, x = ⟨(putB (bs a)).toArray⟩ := ⟨_, rfl⟩
    rw [← hx] at hpa hra
    have hbx : bs x = putB (bs a) := by rw [hx]
    have hxs : x.size = (putB (bs a)).length := by rw [← bs_length, hbx]
    have hxl : x.size ≤ 1000 := by rw [hxs, put_len, bs_length]; omega
    have hgp : getB (bs x) = some (bs a) := by rw [hbx]; exact get_put _ (by rw [bs_length]; omega)
    have hg := fun w => Get_calls x w hxl
    rw [hgp] at hg
    have hsz := fun w => Size_calls a.size w (by omega) (by omega)
    have hsx : sizeN a.size = x.size := by rw [hxs, ← bs_length]; exact put_size _ (by rw [bs_length]; omega)
    rw [hsx] at hsz
    have h1 := fun w => Has_calls x a.size w hxl
    have h2 := fun w => Has_calls x ((a.size : Int) + 1) w hxl
    have e1 : hasB (bs x) a.size = true := by unfold hasB; rw [hgp]; simp [bs_length]
    have e2 : hasB (bs x) ((a.size : Int) + 1) = false := by unfold hasB; rw [hgp]; simp [bs_length]; omega
    rw [e1] at h1
    rw [e2] at h2
    clear hx hbx hxs hgp hsx e1 e2
    go_enter Tryd.func3, Tryd.ntmps3
    go_wp2_with (first
      | (go_at_call 12; refine (hpa _).mono ?_; rintro e w1 ⟨rfl, hb1⟩; have H1 := Lib.hid hb1; clear hb1)
      | (go_at_call 13; refine (hg _).mono ?_; rintro e w2 ⟨A2, c2, rfl, hby, _, _, hb2⟩
         have H2 := Lib.hid (And.intro hby hb2)
         clear hb2 hby
         simp only [codeG, Option.getD_some])
      | (go_at_call 11; refine (awake_calls _).mono ?_; rintro e w3 ⟨rfl, hb3⟩; have H3 := Lib.hid hb3; clear hb3)
      | (go_at_call 14; refine (hra _).mono ?_; rintro e w4 ⟨rfl, hb4⟩
         have H4 := Lib.hid hb4
         have hcv2 := conv_str (w := w4) c2 (bys_below (bys_below H2.out.1 H3.out) hb4)
         simp only [Option.getD_some] at hcv2
         rw [mk_bs2, bs_length] at hcv2
         clear hb4)
      | (go_at_call 15; refine (hsz _).mono ?_; rintro e w' ⟨rfl, hw⟩; rw [hw]; clear hw w')
      | (go_at_call 16; (with_reducible refine (h1 _).mono ?_); rintro e w5 ⟨rfl, hb5⟩; have H5 := Lib.hid hb5; clear hb5)
      | (go_at_call 16; (with_reducible refine (h2 _).mono ?_); rintro e w6 ⟨rfl, hb6⟩; have H6 := Lib.hid hb6; clear hb6))
    go_ret
    exact ⟨rfl, bt (bt (bt (bt (bt H1.out H2.out.2) H3.out) H4.out) H5.out) H6.out⟩
  · have hd1 : decide (300 < (a.size : Int)) = true := decide_eq_true (by omega)
    go_enter Tryd.func3, Tryd.ntmps3
    go_wp2_with (go_at_call 11; refine (awake_calls _).mono ?_; rintro e w1 ⟨rfl, hb1⟩; have HB1 := Lib.hid hb1; clear hb1)
    go_ret
    exact ⟨rfl, HB1.out⟩
end Go.Proofs.YtjlkdfgboklmhaaDoor
