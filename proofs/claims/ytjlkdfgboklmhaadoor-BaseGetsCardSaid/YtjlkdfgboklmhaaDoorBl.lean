/- The law BaseApart: of every two texts, it answers yes. -/
import Derived.Test.YtjlkdfgboklmhaaDoorBk
namespace Go.Proofs.YtjlkdfgboklmhaaDoor
set_option linter.unusedSimpArgs false
set_option linter.unusedVariables false
open Go.RowKit
theorem bt {w w1 w2 : World} (h : Below w.heap.size w w1) (k : Below w1.heap.size w1 w2) : Below w.heap.size w w2 := h.trans (k.mono h.size)
theorem bs_app (a b : ByteArray) : bs (a ++ b) = bs a ++ bs b := by
  rw [bs, ByteArray.data_append, Array.toList_append]
set_option maxRecDepth 100000 in
set_option maxHeartbeats 2000000 in
theorem BaseApart_calls (a b : ByteArray) (w : World) (ha : a.size ≤ maxLen) (hb : b.size ≤ maxLen) :
    Calls Tryd.prog 5 #[.string a, .string b] w fun e w' => e = .returned (.bool true) ∧ Below w.heap.size w w' := by
  unfold maxLen at ha hb
  by_cases h4 : a.size ≤ 200 ∧ b.size ≤ 200
  · obtain ⟨ha4, hb4⟩ := h4
    have hd1 : decide (200 < (a.size : Int)) = false := decide_eq_false (by omega)
    have hd2 : decide (200 < (b.size : Int)) = false := decide_eq_false (by omega)
    have hcv := fun (w : World) (s : ByteArray) => conv_bytes w s
    have hpa := fun w => put_str w a (by omega)
    have hpb := fun w => put_str w b (by omega)
    have hsz : (a ++ b).size = a.size + b.size := ByteArray.size_append
    have hpab := fun w => put_str w (a ++ b) (by rw [hsz]; omega)
    simp only [hsz] at hpab
    obtain ⟨x, hx⟩ : ∃ x : ByteArray, x = ⟨(putB (bs a)).toArray⟩ := ⟨_, rfl⟩
    obtain ⟨y, hy⟩ : ∃ y : ByteArray, y = ⟨(putB (bs b)).toArray⟩ := ⟨_, rfl⟩
    obtain ⟨z, hz⟩ : ∃ z : ByteArray, z = ⟨(putB (bs (a ++ b))).toArray⟩ := ⟨_, rfl⟩
    rw [← hx] at hpa
    rw [← hy] at hpb
    rw [← hz] at hpab
    have hbx : bs x = putB (bs a) := by rw [hx]
    have hby : bs y = putB (bs b) := by rw [hy]
    have hbz : bs z = putB (bs (a ++ b)) := by rw [hz]
    have hxl : x.size ≤ 1000 := by rw [← bs_length, hbx, put_len, bs_length]; omega
    have hyl : y.size ≤ 1000 := by rw [← bs_length, hby, put_len, bs_length]; omega
    have hxys : (x ++ y).size = x.size + y.size := ByteArray.size_append
    have e1 := str_beq x y
    have e2 := str_beq a b
    have e3 := str_beq z (x ++ y)
    have HXY : Hid (x = y ↔ a = b) := Lib.hid ⟨fun h => bs_inj (put_inj (by rw [bs_length]; omega) (by rw [bs_length]; omega) (by rw [← hbx, ← hby, h])), fun h => bs_inj (by rw [hbx, hby, h])⟩
    have HZ : Hid (a.size % 3 = 0 → z = x ++ y) := Lib.hid fun h => bs_inj (by rw [hbz, bs_app, bs_app, hbx, hby]; exact put_append _ _ (by rw [bs_length]; exact h))
    clear hx hy hz hbx hby hbz
    have e4 : decide (x = y) = decide (a = b) := decide_eq_decide.2 HXY.out
    rw [e4] at e1
    clear e4
    generalize decide (a = b) = ab at e1 e2
    by_cases hm : a.size % 3 = 0
    · have hd3 : ((a.size : Int) % 3 != 0) = false := by simp; omega
      rw [decide_eq_true (HZ.out hm)] at e3
      clear hm
      cases ab
      all_goals
        go_enter Tryd.func5, Tryd.ntmps5
        go_wp2_with (first
          | (go_at_call 12; (with_reducible refine (hpa _).mono ?_); rintro e w1 ⟨rfl, hb1⟩; have H1 := Lib.hid hb1; clear hb1)
          | (go_at_call 12; (with_reducible refine (hpb _).mono ?_); rintro e w2 ⟨rfl, hb2⟩; have H2 := Lib.hid hb2; clear hb2)
          | (go_at_call 12; (with_reducible refine (hpab _).mono ?_); rintro e w4 ⟨rfl, hb4⟩; have H4 := Lib.hid hb4; clear hb4)
          | (go_at_call 11; refine (awake_calls _).mono ?_; rintro e w3 ⟨rfl, hb3⟩; have H3 := Lib.hid hb3; clear hb3))
        go_ret
        exact ⟨rfl, bt (bt (bt H1.out H2.out) H3.out) H4.out⟩
    · have hd3 : ((a.size : Int) % 3 != 0) = true := by simp; omega
      clear e3 hm
      cases ab
      all_goals
        go_enter Tryd.func5, Tryd.ntmps5
        go_wp2_with (first
          | (go_at_call 12; (with_reducible refine (hpa _).mono ?_); rintro e w1 ⟨rfl, hb1⟩; have H1 := Lib.hid hb1; clear hb1)
          | (go_at_call 12; (with_reducible refine (hpb _).mono ?_); rintro e w2 ⟨rfl, hb2⟩; have H2 := Lib.hid hb2; clear hb2)
          | (go_at_call 11; refine (awake_calls _).mono ?_; rintro e w3 ⟨rfl, hb3⟩; have H3 := Lib.hid hb3; clear hb3))
        go_ret
        exact ⟨rfl, bt (bt H1.out H2.out) H3.out⟩
  · go_enter Tryd.func5, Tryd.ntmps5
    go_wp2_with (go_at_call 11; refine (awake_calls _).mono ?_; rintro e w1 ⟨rfl, hb1⟩; have HB1 := Lib.hid hb1; clear hb1)
    all_goals first
      | (exfalso; omega)
      | (go_ret; exact ⟨rfl, HB1.out⟩)
end Go.Proofs.YtjlkdfgboklmhaaDoor
