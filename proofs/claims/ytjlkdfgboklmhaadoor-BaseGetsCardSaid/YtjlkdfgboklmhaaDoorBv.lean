/- The law BaseGets: of every text and every number, it answers yes. -/
import Derived.Test.YtjlkdfgboklmhaaDoorBu
import Derived.Test.YtjlkdfgboklmhaaDoorBh
import Derived.Test.YtjlkdfgboklmhaaDoorBr
namespace Go.Proofs.YtjlkdfgboklmhaaDoor
set_option linter.unusedSimpArgs false
set_option linter.unusedVariables false
open Go.RowKit
set_option maxRecDepth 100000 in
set_option maxHeartbeats 4000000 in
theorem BaseGets_calls (s : ByteArray) (n : Int) (w : World) (hs : s.size ≤ maxLen) (hn0 : -9223372036854775808 ≤ n) (hn1 : n ≤ 9223372036854775807) :
    Calls Tryd.prog 4 #[.string s, .int .i64 n] w fun e w' => e = .returned (.bool true) ∧ Below w.heap.size w w' := by
  unfold maxLen at hs
  by_cases h4 : s.size ≤ 400
  · have hd1 : decide (400 < (s.size : Int)) = false := decide_eq_false (by omega)
    have hg := fun w => Get_calls s w (by omega)
    have hr := fun w => refGet_calls s w (by omega)
    have hh := fun w => Has_calls s n w (by omega)
    cases h : getB (bs s) with
    | none =>
      have hf : hasB (bs s) n = false := by unfold hasB; rw [h]; rfl
      rw [h] at hg hr
      rw [hf] at hh
      simp only [Option.getD_none, Option.isSome_none, List.length_nil, codeG] at hg hr
      clear h hf
      go_enter Tryd.func4, Tryd.ntmps4
      go_wp2_with (first
        | (go_at_call 13; refine (hg _).mono ?_; rintro e w2 ⟨A2, c2, rfl, _, _, _, hb2⟩
           have H2 := Lib.hid hb2
           clear hb2)
        | (go_at_call 11; refine (awake_calls _).mono ?_; rintro e w3 ⟨rfl, hb3⟩; have H3 := Lib.hid hb3; clear hb3)
        | (go_at_call 17; refine (hr _).mono ?_; rintro e w4 ⟨rfl, hb4⟩
           have H4 := Lib.hid hb4
           clear hb4)
        | (go_at_call 16; refine (hh _).mono ?_; rintro e w5 ⟨rfl, hb5⟩; have H5 := Lib.hid hb5; clear hb5))
      go_ret
      exact ⟨rfl, bt (bt (bt H2.out H4.out) H3.out) H5.out⟩
    | some o =>
      obtain ⟨x, rfl⟩ : ∃ x : ByteArray, o = bs x := ⟨⟨o.toArray⟩, rfl⟩
      have hol := getB_len h
      rw [bs_length, bs_length] at hol
      have hx1 : x.size ≤ 400 := by omega
      obtain ⟨q, hq⟩ : ∃ q : Bool, hasB (bs s) n = q := ⟨_, rfl⟩
      rw [hq] at hh
      have hq2 : (n == (x.size : Int)) = q := by
        rw [← hq, hasB, h]
        show _ = decide (((bs x).length : Int) = n)
        rw [bs_length, Bool.eq_iff_iff, beq_iff_eq, decide_eq_true_eq]
        exact ⟨fun h => h.symm, fun h => h.symm⟩
      rw [h] at hg hr
      simp only [Option.getD_some, Option.isSome_some, codeG] at hg hr
      rw [mk_bs2] at hr
      rw [bs_length] at hg
      clear h hol hq
      go_enter Tryd.func4, Tryd.ntmps4
      cases q
      all_goals
        go_wp2_with (first
          | (go_at_call 13; refine (hg _).mono ?_; rintro e w2 ⟨A2, c2, rfl, hby, _, _, hb2⟩
             have H2 := Lib.hid (And.intro hby hb2)
             clear hb2 hby)
          | (go_at_call 11; refine (awake_calls _).mono ?_; rintro e w3 ⟨rfl, hb3⟩
             have H3 := Lib.hid hb3
             have hcv2 := conv_str (w := w3) c2 (bys_below (bys_below H2.out.1 H4.out) hb3)
             rw [mk_bs2, bs_length] at hcv2
             clear hb3)
          | (go_at_call 17; refine (hr _).mono ?_; rintro e w4 ⟨rfl, hb4⟩
             have H4 := Lib.hid hb4
             clear hb4)
          | (go_at_call 16; refine (hh _).mono ?_; rintro e w5 ⟨rfl, hb5⟩; have H5 := Lib.hid hb5; clear hb5))
        go_ret
        exact ⟨rfl, bt (bt (bt H2.out.2 H4.out) H3.out) H5.out⟩
  · have hd1 : decide (400 < (s.size : Int)) = true := decide_eq_true (by omega)
    go_enter Tryd.func4, Tryd.ntmps4
    go_wp2_with (go_at_call 11; refine (awake_calls _).mono ?_; rintro e w1 ⟨rfl, hb1⟩; have HB1 := Lib.hid hb1; clear hb1)
    go_ret
    exact ⟨rfl, HB1.out⟩
end Go.Proofs.YtjlkdfgboklmhaaDoor
