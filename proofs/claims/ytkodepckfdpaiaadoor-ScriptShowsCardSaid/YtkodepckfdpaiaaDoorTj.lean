/- A text that is read is its deeds' text; else the lines ahead of the wrong one are right: the law; conditions: the string is of a length that a world can hold; the world holds what the library's numbers lean on. -/
import Derived.Test.YtkodepckfdpaiaaDoorSs
import Derived.Test.YtkodepckfdpaiaaDoorTd
namespace Go.Proofs.YtkodepckfdpaiaaDoor
set_option linter.unusedSimpArgs false
set_option linter.unusedVariables false
open Go.RowKit
theorem of_dps {ds : List Dd} {l : List Dp} (h : l = dps ds) (hc : ∀ d ∈ l, checkD d = true) : allOk ds = true := by
  unfold allOk
  rw [List.all_eq_true]
  intro d hd
  exact hc d.dp (by rw [h]; exact List.mem_map_of_mem hd)
theorem bs_take (s : ByteArray) (k : Nat) : bs (s.extract 0 k) = (bs s).take k := by
  simp [bs]
theorem bs_at (s : ByteArray) (k : Nat) (h : k < s.size) : (bs s)[k]'(by rw [bs_length]; exact h) = s[k] := rfl
/-- While the lines ahead are counted. -/
structure CN (s : By) (k : Nat) (ln : Int) (w wx : World) : Prop where
  be : Below w.heap.size w wx
  ct : ln = 1 + ((s.take k).count 10 : Nat)
theorem cn_step {s : ByteArray} {k : Nat} {ln : Int} {w wx : World} (h : CN (bs s) k ln w wx) (hk : k < s.size) : (s[k] = 10 → CN (bs s) (k + 1) (ln + 1) w wx) ∧ (¬ s[k] = 10 → CN (bs s) (k + 1) ln w wx) := by
  have hc := count_take (bs s) k (by rw [bs_length]; exact hk)
  rw [bs_at s k hk] at hc
  refine ⟨fun e => ⟨h.be, ?_⟩, fun e => ⟨h.be, ?_⟩⟩
  · rw [hc, if_pos e, h.ct]; omega
  · rw [hc, if_neg e, h.ct]; rfl
/-- What the text's first lines are. -/
structure AH (s : ByteArray) (l : List Dp) (P : Nat) : Prop where
  ok : ∀ d ∈ l, checkD d = true
  le : P < s.size
  tk : (bs s).take P = allT l
  lt : ∀ k, k < P → ((bs s).take k).count 10 < l.length
  ce : ((bs s).take P).count 10 = l.length
theorem ah_of {s : ByteArray} {l : List Dp} {r : By} (h : ∀ d ∈ l, checkD d = true) (hs : bs s = allT l ++ r) (hr : r ≠ []) : AH s l (allT l).length := by
  have hc := count_at l h r
  refine ⟨h, ?_, by rw [hs, List.take_left], fun k hk => ?_, ?_⟩
  · have := congrArg List.length hs
    rw [bs_length, List.length_append] at this
    have := List.length_pos_iff.2 hr
    omega
  · rw [hs]; exact (hc k).1 hk
  · rw [hs]; exact (hc 0).2
theorem rp_ok {w w' : World} {s : By} {e : Ending} {l : List Dp} (h : RP w s e w') (hl : readD s = .ok l) : ∃ A c ds, e = .returned (.tuple #[.slice A (List.length ds) c, .int .i64 0, .int .i64 0]) ∧ l = dps ds ∧ Dds w' A ds ∧ ds.length ≤ s.length ∧ Below w.heap.size w w' := by
  obtain ⟨hb, ⟨v, ds, rfl, hr, ho, _, hn⟩ | ⟨n, _, hr, _⟩⟩ := h
  · rw [hl] at hr
    obtain ⟨A, c, rfl, _, _, hD⟩ := ho.form
    exact ⟨A, c, ds, rfl, Except.ok.inj hr, hD, hn, hb⟩
  · rw [hl] at hr; cases hr
theorem rp_bad {w w' : World} {s : By} {e : Ending} {n : Nat} (h : RP w s e w') (hl : readD s = .error n) : e = .returned (.tuple #[.slice none 0 0, .int .i64 n, .int .i64 200]) ∧ 1 ≤ n ∧ n ≤ s.length ∧ Below w.heap.size w w' := by
  obtain ⟨hb, ⟨v, ds, rfl, hr, _⟩ | ⟨m, rfl, hr, h1, h2⟩⟩ := h
  · rw [hl] at hr; cases hr
  · rw [hl] at hr
    obtain rfl := Except.error.inj hr
    exact ⟨rfl, h1, h2, hb⟩
set_option maxRecDepth 100000 in
set_option maxHeartbeats 1600000 in
theorem Reads_bad (s : ByteArray) (w : World) (he : Env w) (h3 : s.size ≤ 3000) (l : List Dp) (P : Nat) (ha : AH s l P) (hr : readD (bs s) = .error (1 + l.length)) :
    Calls Tryd.prog 4 #[.string s] w fun r w' => r = .returned (.bool true) ∧ Below w.heap.size w w' := by
  have HEN := Lib.hid he
  have haw := fun w' (h : Env w') => awake_calls w' h
  have hrd := fun w' (h : Env w') => Read_calls s w' (by omega) h
  have hrd2 := fun w' (h : Env w') => Read_calls (s.extract 0 P) w' (by rw [← bs_length, bs_take, List.length_take, bs_length]; omega) h
  have HR : Hid (∀ w1 e w2, RP w1 (bs s) e w2 → e = .returned (.tuple #[.slice none 0 0, .int .i64 ((1 + l.length : Nat) : Int), .int .i64 200]) ∧ Below w1.heap.size w1 w2) := Lib.hid fun w1 e w2 h => ⟨(rp_bad h hr).1, (rp_bad h hr).2.2.2⟩
  have HN : Hid (1 + l.length ≤ 3000) := Lib.hid (by
    have h1 := ha.ce
    have h2 : ((bs s).take P).count 10 ≤ ((bs s).take P).length := List.count_le_length
    rw [List.length_take, bs_length] at h2
    have := ha.le
    omega)
  have HR2 : Hid (∀ w1 e w2, RP w1 (bs (s.extract 0 P)) e w2 → ∃ A c, e = .returned (.tuple #[.slice A l.length c, .int .i64 0, .int .i64 0]) ∧ Below w1.heap.size w1 w2) := Lib.hid fun w1 e w2 h => by
    obtain ⟨A, c, ds, rfl, hl, _, _, hb⟩ := rp_ok (l := l) h (by rw [bs_take, ha.tk]; exact readD_all l ha.ok)
    refine ⟨A, c, ?_, hb⟩
    rw [hl, dps, List.length_map]
  have HA := Lib.hid ha
  obtain ⟨nn, hnn⟩ : ∃ nn : Int, nn = ((1 + l.length : Nat) : Int) := ⟨_, rfl⟩
  obtain ⟨mm, hmm⟩ : ∃ mm : Nat, mm = l.length := ⟨_, rfl⟩
  rw [← hnn] at HR
  rw [← hmm] at HR2 HN hnn
  have HML := Lib.hid hmm
  have HNN := Lib.hid hnn
  have b1 : 1 ≤ nn := by omega
  have b2 : nn ≤ 3000 := by have := HN.out; omega
  have hP : P ≤ 3000 := by have := ha.le; omega
  clear he ha hr hnn hmm
  have q1 : decide ((3000 : Int) < s.size) = false := decide_eq_false (by omega)
  go_enter Tryd.func4, Tryd.ntmps4
  go_wp2_with (first
    | (go_at_call 9; refine (haw _ HEN.out).mono ?_; rintro r w1 ⟨rfl, hb⟩; have HB1 := Lib.hid hb; clear hb)
    | (go_at_call 15; refine (hrd _ (HEN.out.below HB1.out)).mono ?_; intro e w2 hrp; obtain ⟨rfl, hb⟩ := HR.out _ _ _ hrp; have HB2 := Lib.hid (bt HB1.out hb); clear hrp hb))
  go_loopg [8, 9] P (fun gh v8 v9 wx => ∃ (k : Nat) (ln : Int), v8 = .int .i64 k ∧ v9 = .int .i64 ln ∧ k + gh = P ∧ 1 ≤ ln ∧ ln ≤ 3001 ∧ Hid (CN (bs s) k ln w wx))
  case atStart => exact ⟨0, 1, rfl, rfl, by omega, by omega, by omega, Lib.hid ⟨HB2.out, rfl⟩⟩
  case round =>
    obtain ⟨k, ln, rfl, rfl, hk, hl1, hl2, HX⟩ := hrel
    have hks : k < s.size := by have := HA.out.le; omega
    by_cases hlt : k < P
    · have hln : ln < nn := by
        have h1 := HX.out.ct
        have h2 := HA.out.lt k hlt
        have h3 := HNN.out
        have h4 := HML.out
        omega
      have HS := Lib.hid (cn_step HX.out hks)
      have hz : ((s[k].toNat : Int) == 10) = decide (s[k] = 10) := by
        by_cases e : s[k] = 10
        · rw [e]; rfl
        · rw [decide_eq_false e, beq_eq_false_iff_ne]
          intro h
          exact e (UInt8.toNat_inj.1 (by show s[k].toNat = 10; omega))
      cases hq : decide (s[k] = 10)
      all_goals
        have HQ := Lib.hid hq
        rw [hq] at hz
        clear hq
        go_wp2
        go_roundg (P - (k + 1))
        case measure => omega
        case rel =>
          first
            | exact ⟨k + 1, ln, by go_num, rfl, by omega, by omega, by omega, Lib.hid (HS.out.2 (of_decide_eq_false HQ.out))⟩
            | exact ⟨k + 1, ln + 1, by go_num, by go_num, by omega, by omega, by omega, Lib.hid (HS.out.1 (of_decide_eq_true HQ.out))⟩
    · obtain rfl : k = P := by omega
      obtain rfl : ln = nn := by
        have h1 := HX.out.ct
        have h2 := HA.out.ce
        have h3 := HNN.out
        have h4 := HML.out
        omega
      have HB3 := Lib.hid HX.out.be
      have hlm : ln - 1 = (mm : Int) := by have := HNN.out; omega
      have HLM := Lib.hid hlm
      clear hlm HX HA HML HNN
      go_wp2_with (go_at_call 15; refine (hrd2 _ (HEN.out.below HB3.out)).mono ?_; intro e w4 hrp; obtain ⟨A, c, rfl, hb⟩ := HR2.out _ _ _ hrp; have HB4 := Lib.hid (bt HB3.out hb); clear hrp hb)
      go_ret
      exact ⟨ret_bool (by rw [HLM.out]; exact beq_self_eq_true _), HB4.out⟩
set_option maxRecDepth 100000 in
set_option maxHeartbeats 1600000 in
theorem Reads_ok (s : ByteArray) (w : World) (he : Env w) (h3 : s.size ≤ 3000) (l : List Dp) (hc : ∀ d ∈ l, checkD d = true) (hs : bs s = allT l) (hr : readD (bs s) = .ok l) :
    Calls Tryd.prog 4 #[.string s] w fun r w' => r = .returned (.bool true) ∧ Below w.heap.size w w' := by
  have HEN := Lib.hid he
  have haw := fun w' (h : Env w') => awake_calls w' h
  have hrd := fun w' (h : Env w') => Read_calls s w' (by omega) h
  have HR : Hid (∀ w1 e w2, RP w1 (bs s) e w2 → ∃ A c ds, e = .returned (.tuple #[.slice A (List.length ds) c, .int .i64 0, .int .i64 0]) ∧ Hid (Dds w2 A ds) ∧ ds.length ≤ 2200000000000 ∧ Hid (refV ds = .tuple #[.string s, .bool true]) ∧ Below w1.heap.size w1 w2) := Lib.hid fun w1 e w2 h => by
    obtain ⟨A, c, ds, rfl, hl, hD, hn, hb⟩ := rp_ok h hr
    refine ⟨A, c, ds, rfl, Lib.hid hD, by rw [bs_length] at hn; omega, Lib.hid ?_, hb⟩
    rw [refV_yes (of_dps hl hc), ← hl, ← hs, mk_bs]
  have q1 : decide ((3000 : Int) < s.size) = false := decide_eq_false (by omega)
  have hst : (s.toList == s.toList) = true := by rw [str_beq]; exact decide_eq_true rfl
  clear he hr hs hc
  go_enter Tryd.func4, Tryd.ntmps4
  go_wp2_with (first
    | (go_at_call 9; refine (haw _ HEN.out).mono ?_; rintro r w1 ⟨rfl, hb⟩; have HB1 := Lib.hid hb; clear hb)
    | (go_at_call 15; refine (hrd _ (HEN.out.below HB1.out)).mono ?_; intro e w2 hrp; obtain ⟨A, c, ds, rfl, HD, hn, HV, hb⟩ := HR.out _ _ _ hrp; have HB2 := Lib.hid (bt HB1.out hb); clear hrp hb)
    | (go_at_call 14; refine (refShow_calls _ _ _ _ hn HD.out).mono ?_; rintro e w3 ⟨rfl, hb⟩; rw [HV.out]; have HB3 := Lib.hid (bt HB2.out hb); clear hb))
  go_ret
  exact ⟨rfl, HB3.out⟩
set_option maxRecDepth 100000 in
set_option maxHeartbeats 1600000 in
theorem Reads_calls (s : ByteArray) (w : World) (he : Env w) :
    Calls Tryd.prog 4 #[.string s] w fun r w' => r = .returned (.bool true) ∧ Below w.heap.size w w' := by
  by_cases h3 : s.size ≤ 3000
  · rcases read_spec (bs s).length 1 (bs s) (Nat.le_refl _) with ⟨l, h1, h2, h4⟩ | ⟨l, r, h1, h2, h4, h5, _⟩
    · exact Reads_ok s w he h3 l h2 h4 h1
    · exact Reads_bad s w he h3 l _ (ah_of h2 h4 h5) h1
  · have HEN := Lib.hid he
    have haw := fun w' (h : Env w') => awake_calls w' h
    have q1 : decide ((3000 : Int) < s.size) = true := decide_eq_true (by omega)
    clear he
    go_enter Tryd.func4, Tryd.ntmps4
    go_upto_region 2 with (go_at_call 9; refine (haw _ HEN.out).mono ?_; rintro r w1 ⟨rfl, hb⟩; have HB1 := Lib.hid hb; clear hb)
    go_wp2_with (go_at_call 9; refine (haw _ (HEN.out.below HB1.out)).mono ?_; rintro r w2 ⟨rfl, hb⟩; have HB2 := Lib.hid (bt HB1.out hb); clear hb)
    go_ret
    exact ⟨rfl, HB2.out⟩
end Go.Proofs.YtkodepckfdpaiaaDoor
