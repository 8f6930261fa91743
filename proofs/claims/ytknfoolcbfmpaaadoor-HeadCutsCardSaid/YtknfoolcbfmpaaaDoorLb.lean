/- The law HeadCuts: the walk; conditions: the library's bound lies where it is laid. -/
import Derived.Test.YtknfoolcbfmpaaaDoorLa
namespace Go.Proofs.YtknfoolcbfmpaaaDoor
set_option linter.unusedSimpArgs false
set_option linter.unusedVariables false
open Go.RowKit
theorem slice_to' (s : ByteArray) (i : Nat) (h : i ≤ s.size) (w : World) : (Instr.slice 9 (.string s) none (some (.int .i64 (i : Int))) none).run Tryd.prog w = .ok (.string (s.extract 0 i)) w := slice_to s i h w
set_option maxRecDepth 100000 in
set_option maxHeartbeats 4000000 in
theorem headCuts_calls (s : ByteArray) (m : Nat) (w : World) (hs : s.size ≤ maxLen) (hmm : m ≤ 65535) (hm : MaxL w) :
    Calls Tryd.prog 5 #[.string s, .int .u16 (m : Int)] w fun e w' => e = .returned (.bool true) ∧ Below w.heap.size w w' := by
  unfold maxLen at hs
  by_cases h1 : 2000 < s.size
  · have da : decide ((2000 : Int) < (s.size : Int)) = true := decide_eq_true (by omega)
    go_enter Tryd.func5, Tryd.ntmps5
    go_wp2_with (go_at_call 11; first | ((with_reducible refine (awake_calls _ hm).mono ?_); rintro e w1 ⟨rfl, hb⟩; have HB1 := Lib.hid hb; have HM1 := Lib.hid (hm.below hb); clear hb) | ((with_reducible refine (awake_calls _ HM1.out).mono ?_); rintro e w2 ⟨rfl, hb⟩; have HB2 := Lib.hid (bt HB1.out hb); clear hb))
    go_ret
    exact ⟨rfl, HB2.out⟩
  · have da : decide ((2000 : Int) < (s.size : Int)) = false := decide_eq_false (by omega)
    by_cases h0 : s.size = 0
    · have d0 : ((s.size : Int) == 0) = true := beq_iff_eq.2 (by omega)
      clear h0
      go_enter Tryd.func5, Tryd.ntmps5
      go_wp2_with (go_at_call 11; first | ((with_reducible refine (awake_calls _ hm).mono ?_); rintro e w1 ⟨rfl, hb⟩; have HB1 := Lib.hid hb; have HM1 := Lib.hid (hm.below hb); clear hb) | ((with_reducible refine (awake_calls _ HM1.out).mono ?_); rintro e w2 ⟨rfl, hb⟩; have HB2 := Lib.hid (bt HB1.out hb); clear hb))
      go_ret
      exact ⟨rfl, HB2.out⟩
    · have d0 : ((s.size : Int) == 0) = false := beq_eq_false_iff_ne.2 (by omega)
      have hne : (s.size : Int) ≠ 0 := by omega
      have hcv := fun w => conv_bytes w s
      obtain ⟨k, hk⟩ : ∃ k, k = m % s.size := ⟨_, rfl⟩
      have hks : k < s.size := by rw [hk]; exact Nat.mod_lt _ (by omega)
      have HKM : Hid ((k : Int) = (m : Int) % (s.size : Int)) := Lib.hid (by rw [hk]; simp)
      have hsl := fun w => slice_to s k (by omega) w
      have hbe : bs (s.extract 0 k) = (bs s).take k := by rw [bs_ext]; simp
      have hcut := read_cut (bs s) k (by rw [bs_length]; exact hks)
      rw [← hbe] at hcut
      have hze : (s.extract 0 k).size ≤ 100000 := by rw [ByteArray.size_extract]; omega
      generalize s.extract 0 k = u at hsl hcut hze
      have HCUT := Lib.hid hcut
      have hcu := fun w => conv_bytes w u
      clear hcut hbe hk h0
      go_enter Tryd.func5, Tryd.ntmps5
      go_upto_region 3 with (go_at_call 11; ((with_reducible refine (awake_calls _ hm).mono ?_); rintro e w1 ⟨rfl, hb⟩; have HB1 := Lib.hid hb; have HM1 := Lib.hid (hm.below hb); clear hb))
      go_cut [5] (fun v5 wx => v5 = .int .i64 (k : Int) ∧ wx = w1)
      case first =>
        go_wp2
        go_meet
        refine ⟨?_, rfl⟩
        rw [HKM.out]
      case rest =>
        obtain ⟨rfl, hw⟩ := hcut
        obtain rfl := hw.symm
        go_upto_region 4 with (fail)
        have hrd := ReadConv s w1 (by omega) HM1.out
        go_cut [6, 7, 8] (fun v6 v7 v8 wx => ∃ (n er : Int), v7 = .int .i64 n ∧ v8 = .int .i64 er ∧ Hid ((readB (bs s)).n = n ∧ (readB (bs s)).e = er) ∧ Hid (Below w.heap.size w wx))
        case first =>
          unfold RP at hrd
          go_wp2_with (go_at_call 16; refine hrd.mono ?_; clear hrd; rintro e w2 ⟨⟨ha, hb, hc, A, k, fs⟩, n, er, rfl, hr, hk, hb2⟩; have HR := Lib.hid hr; have HB2 := Lib.hid (bt (bt HB1.out (cv_below _ s)) hb2); clear hr hk hb2)
          go_meet
          exact ⟨n, er, rfl, rfl, Lib.hid (by rw [HR.out]; exact ⟨rfl, rfl⟩), Lib.hid (below_al HB2.out _)⟩
        case rest =>
          obtain ⟨n, er, rfl, rfl, HR, HB3⟩ := hcut
          clear hrd hcv
          go_upto_region 5 with (fail)
          have hrd := ReadConv u wc hze (hm.below HB3.out)
          go_cut [9, 10, 11] (fun v9 v10 v11 wx => ∃ (n2 er2 : Int), v10 = .int .i64 n2 ∧ v11 = .int .i64 er2 ∧ Hid ((readB (bs u)).n = n2 ∧ (readB (bs u)).e = er2) ∧ Hid (Below w.heap.size w wx))
          case first =>
            unfold RP at hrd
            go_wp2_with (go_at_call 16; refine hrd.mono ?_; clear hrd; rintro e w2 ⟨⟨ha, hb, hc, A, k, fs⟩, n, er, rfl, hr, hk, hb2⟩; have HR2 := Lib.hid hr; have HB4 := Lib.hid (bt (bt HB3.out (cv_below _ u)) hb2); clear hr hk hb2)
            go_meet
            exact ⟨_, _, rfl, rfl, Lib.hid (by rw [HR2.out]; exact ⟨rfl, rfl⟩), Lib.hid (below_al HB4.out _)⟩
          case rest =>
            obtain ⟨n2, er2, rfl, rfl, HR2, HB4⟩ := hcut
            have hcut := HCUT.out
            rw [HR2.out.1, HR2.out.2, HR.out.1, HR.out.2] at hcut
            clear HR HR2 HCUT hrd hcu hsl HB1 HB3 HKM
            obtain ⟨hc1, hc2⟩ := hcut
            by_cases h50 : er2 = 50
            · obtain ⟨rfl, hc3⟩ := hc1 h50
              subst h50
              clear hc1 hc2
              rcases Decidable.em (er = 0) with he | he
              · subst he
                have hkn : (k : Int) < n := hc3.resolve_left (by simp)
                clear hc3
                go_wp2
                go_ret
                exact ⟨rfl, HB4.out⟩
              · have hb0 : ((er : Int) != 0) = true := bne_iff_ne.2 he
                clear hc3 he
                go_wp2
                go_ret
                exact ⟨rfl, HB4.out⟩
            · obtain ⟨rfl, rfl⟩ := hc2 h50
              have hb5 : ((er : Int) == 50) = false := beq_eq_false_iff_ne.2 h50
              clear hc1 hc2 h50
              go_wp2
              go_ret
              exact ⟨rfl, HB4.out⟩
end Go.Proofs.YtknfoolcbfmpaaaDoor
