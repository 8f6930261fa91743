/- The law HeadSame: the walk; condition: the library's bound lies where it is laid. -/
import Derived.Test.YtknfoolcbfmpaaaDoorHo
namespace Go.Proofs.YtknfoolcbfmpaaaDoor
set_option linter.unusedSimpArgs false
set_option linter.unusedVariables false
open Go.RowKit
set_option maxRecDepth 100000 in
set_option maxHeartbeats 4000000 in
theorem headSame_calls (a b c : ByteArray) (w : World) (ha : a.size ≤ maxLen) (hb : b.size ≤ maxLen) (hc : c.size ≤ maxLen) (hm : MaxL w) :
    Calls Tryd.prog 7 #[.string a, .string b, .string c] w fun e w' => e = .returned (.bool true) ∧ Below w.heap.size w w' := by
  unfold maxLen at ha hb hc
  by_cases h1 : 300 < a.size
  · have da : decide ((300 : Int) < (a.size : Int)) = true := decide_eq_true (by omega)
    go_enter Tryd.func7, Tryd.ntmps7
    go_wp2_with (go_at_call 11; first | ((with_reducible refine (awake_calls _ hm).mono ?_); rintro e w1 ⟨rfl, hb⟩; have HB1 := Lib.hid hb; have HM1 := Lib.hid (hm.below hb); clear hb) | ((with_reducible refine (awake_calls _ HM1.out).mono ?_); rintro e w2 ⟨rfl, hb⟩; have HB2 := Lib.hid (bt HB1.out hb); clear hb))
    go_ret
    exact ⟨rfl, HB2.out⟩
  · have da : decide ((300 : Int) < (a.size : Int)) = false := decide_eq_false (by omega)
    by_cases h2 : 300 < b.size
    · have db : decide ((300 : Int) < (b.size : Int)) = true := decide_eq_true (by omega)
      go_enter Tryd.func7, Tryd.ntmps7
      go_wp2_with (go_at_call 11; first | ((with_reducible refine (awake_calls _ hm).mono ?_); rintro e w1 ⟨rfl, hb⟩; have HB1 := Lib.hid hb; have HM1 := Lib.hid (hm.below hb); clear hb) | ((with_reducible refine (awake_calls _ HM1.out).mono ?_); rintro e w2 ⟨rfl, hb⟩; have HB2 := Lib.hid (bt HB1.out hb); clear hb))
      go_ret
      exact ⟨rfl, HB2.out⟩
    · have db : decide ((300 : Int) < (b.size : Int)) = false := decide_eq_false (by omega)
      by_cases h3 : 300 < c.size
      · have dc : decide ((300 : Int) < (c.size : Int)) = true := decide_eq_true (by omega)
        go_enter Tryd.func7, Tryd.ntmps7
        go_wp2_with (go_at_call 11; first | ((with_reducible refine (awake_calls _ hm).mono ?_); rintro e w1 ⟨rfl, hb⟩; have HB1 := Lib.hid hb; have HM1 := Lib.hid (hm.below hb); clear hb) | ((with_reducible refine (awake_calls _ HM1.out).mono ?_); rintro e w2 ⟨rfl, hb⟩; have HB2 := Lib.hid (bt HB1.out hb); clear hb))
        go_ret
        exact ⟨rfl, HB2.out⟩
      · have dc : decide ((300 : Int) < (c.size : Int)) = false := decide_eq_false (by omega)
        have k1 := fun w => Same_calls a b w (by unfold maxLen; omega) (by unfold maxLen; omega)
        have k2 := fun w => Same_calls b c w (by unfold maxLen; omega) (by unfold maxLen; omega)
        have k3 := fun w => refSame_calls a b w (by unfold maxLen; omega) (by unfold maxLen; omega)
        have k4 := fun w => Same_calls a a w (by unfold maxLen; omega) (by unfold maxLen; omega)
        have k5 := fun w => Same_calls b a w (by unfold maxLen; omega) (by unfold maxLen; omega)
        have k6 := fun w => Same_calls a c w (by unfold maxLen; omega) (by unfold maxLen; omega)
        have e4 : sameB (bs a) (bs a) = true := by simp [sameB]
        have e5 : sameB (bs b) (bs a) = sameB (bs a) (bs b) := by unfold sameB; exact decide_eq_decide.2 eq_comm
        have e6 : sameB (bs a) (bs b) = true → sameB (bs b) (bs c) = true → sameB (bs a) (bs c) = true := by
          unfold sameB; simp only [decide_eq_true_eq]; exact fun p q => p.trans q
        rw [e4] at k4
        rw [e5] at k5
        generalize sameB (bs a) (bs b) = q1 at k1 k3 k5 e6
        generalize sameB (bs b) (bs c) = q2 at k2 e6
        have e7 : ∃ q3, (∀ w, Calls Tryd.prog 25 #[.string a, .string c] w fun e w' => e = .returned (.bool q3) ∧ ∃ n, w' = w.drewN n) ∧ (q1 = true → q2 = true → q3 = true) := ⟨_, k6, e6⟩
        obtain ⟨q3, k6, e6⟩ := e7
        clear e4 e5
        cases q1 <;> cases q2
        all_goals
          first
            | (obtain rfl : q3 = true := e6 rfl rfl)
            | skip
          clear e6
          go_enter Tryd.func7, Tryd.ntmps7
          go_wp2_with (first
            | (go_at_call 11; first | ((with_reducible refine (awake_calls _ hm).mono ?_); rintro e w1 ⟨rfl, hb⟩; have HB1 := Lib.hid hb; have HM1 := Lib.hid (hm.below hb); clear hb) | ((with_reducible refine (awake_calls _ HM1.out).mono ?_); rintro e w2 ⟨rfl, hb⟩; have HB2 := Lib.hid (bt HB1.out hb); clear hb))
            | (go_at_call 25; first
                | ((with_reducible refine (k1 _).mono ?_); rintro e w3 ⟨rfl, n1, rfl⟩)
                | ((with_reducible refine (k2 _).mono ?_); rintro e w3 ⟨rfl, n2, rfl⟩)
                | ((with_reducible refine (k4 _).mono ?_); rintro e w3 ⟨rfl, n4, rfl⟩)
                | ((with_reducible refine (k5 _).mono ?_); rintro e w3 ⟨rfl, n5, rfl⟩)
                | ((with_reducible refine (k6 _).mono ?_); rintro e w3 ⟨rfl, n6, rfl⟩))
            | (go_at_call 26; refine (k3 _).mono ?_; rintro e w3 ⟨rfl, n3, rfl⟩))
          go_ret
          exact ⟨rfl, below_drewN HB1.out _⟩
end Go.Proofs.YtknfoolcbfmpaaaDoor
