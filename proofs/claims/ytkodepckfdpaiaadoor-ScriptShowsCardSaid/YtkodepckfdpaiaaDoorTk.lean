/- Among lines that are right the one that is wrong is told: the law; conditions: the deeds lie in memory, as many as a machine can hold; the world holds what the library's numbers lean on. -/
import Derived.Test.YtkodepckfdpaiaaDoorTg
import Derived.Test.YtkodepckfdpaiaaDoorTj
namespace Go.Proofs.YtkodepckfdpaiaaDoor
set_option linter.unusedSimpArgs false
set_option linter.unusedVariables false
open Go.RowKit
theorem all_ok {l : List Dd} (h : allOk l = true) : ∀ d ∈ l, checkD d.dp = true := fun d hd => List.all_eq_true.1 h d hd
theorem all_ok' {l : List Dd} (h : allOk l = true) : ∀ d ∈ dps l, checkD d = true := fun d hd => by
  obtain ⟨x, hx, rfl⟩ := List.mem_map.1 hd
  exact all_ok h x hx
/-- How long few deeds' text is. -/
theorem few_text {l : List Dd} (h : allOk l = true) (h1 : l.length ≤ 60) (h2 : totD l ≤ 10000) : (mk (allT (dps l))).size ≤ 24500 := by
  have := allT_le l (all_ok h)
  rw [mk_size]
  omega
set_option maxRecDepth 100000 in
set_option maxHeartbeats 1600000 in
theorem Wrong_no (A : Option Addr) (c : Nat) (l : List Dd) (bad : ByteArray) (w : World) (hl : l.length ≤ 2200000000000) (hA : Dds w A l) (he : Env w) (hok : allOk l = false) :
    Calls Tryd.prog 6 #[.slice A l.length c, .string bad] w fun e w' => e = .returned (.bool true) ∧ Below w.heap.size w w' := by
  have HEN := Lib.hid he
  have HA := Lib.hid hA
  have haw := fun w' (h : Env w') => awake_calls w' h
  have hfew := fun w' (h : Dds w' A l) => FewS_calls A c l w' hl h
  have hsh := fun w' (h : Dds w' A l) => refShow_calls A c l w' hl h
  have HV := Lib.hid (refV_no hok)
  have HB : Hid (Below w.heap.size w w) := Lib.hid (Below.refl _ _)
  clear he hA hok
  go_enter Tryd.func6, Tryd.ntmps6
  go_wp2_with (first
    | (go_at_call 14; refine (hsh _ (HA.out.below HB.out)).mono ?_; rintro e w1 ⟨rfl, hb⟩; rw [HV.out]; replace HB := Lib.hid (bt HB.out hb); clear hb)
    | (go_at_call 9; refine (haw _ (HEN.out.below HB.out)).mono ?_; rintro e w2 ⟨rfl, hb⟩; replace HB := Lib.hid (bt HB.out hb); clear hb)
    | (go_at_call 10; refine (hfew _ (HA.out.below HB.out)).mono ?_; rintro e w3 ⟨⟨q, rfl, hq⟩, hb⟩; replace HB := Lib.hid (bt HB.out hb); clear hq hb; rcases q with _ | _))
  all_goals
    go_wp2_with (go_at_call 9; refine (haw _ (HEN.out.below HB.out)).mono ?_; rintro e w2 ⟨rfl, hb⟩; replace HB := Lib.hid (bt HB.out hb); clear hb)
    go_ret
    exact ⟨rfl, HB.out⟩
set_option maxRecDepth 100000 in
set_option maxHeartbeats 1600000 in
theorem Wrong_yes (A : Option Addr) (c : Nat) (l : List Dd) (bad : ByteArray) (w : World) (hl : l.length ≤ 2200000000000) (hA : Dds w A l) (he : Env w) (hok : allOk l = true) :
    Calls Tryd.prog 6 #[.slice A l.length c, .string bad] w fun e w' => e = .returned (.bool true) ∧ Below w.heap.size w w' := by
  have HEN := Lib.hid he
  have HA := Lib.hid hA
  have haw := fun w' (h : Env w') => awake_calls w' h
  have hfew := fun w' (h : Dds w' A l) => FewS_calls A c l w' hl h
  have hsh := fun w' (h : Dds w' A l) => refShow_calls A c l w' hl h
  have HV := Lib.hid (refV_yes hok)
  have HB : Hid (Below w.heap.size w w) := Lib.hid (Below.refl _ _)
  have HTZ : Hid (l.length ≤ 60 ∧ totD l ≤ 10000 → (mk (allT (dps l))).size ≤ 24500) := Lib.hid fun h => few_text hok h.1 h.2
  have HRD : Hid (∀ w', Env w' → bad.size ≤ 300 → Calls Tryd.prog 15 #[.string (bad ++ ⟨#[10]⟩)] w' (RP w' (bs bad ++ [10]))) := Lib.hid fun w' h hz => by
    have := Read_calls (bad ++ ⟨#[10]⟩) w' (by rw [ByteArray.size_append]; show bad.size + 1 ≤ _; omega) h
    rw [bs_app] at this
    exact this
  have HRE : Hid (∀ w', Env w' → bad.size ≤ 300 → (mk (allT (dps l))).size ≤ 24500 → (∀ m, readD (bs bad ++ [10]) ≠ .ok m) → 10 ∉ bs bad → Calls Tryd.prog 15 #[.string (((mk (allT (dps l)) ++ bad) ++ ⟨#[10]⟩) ++ mk (allT (dps l)))] w' fun e w'' => e = .returned (.tuple #[.slice none 0 0, .int .i64 ((l.length : Int) + 1), .int .i64 200]) ∧ Below w'.heap.size w' w'') := Lib.hid fun w' h hz hz2 hno hnl => by
    have := Read_calls (((mk (allT (dps l)) ++ bad) ++ ⟨#[10]⟩) ++ mk (allT (dps l))) w' (by
      rw [ByteArray.size_append, ByteArray.size_append, ByteArray.size_append]
      show (mk (allT (dps l))).size + bad.size + 1 + (mk (allT (dps l))).size ≤ _
      omega) h
    refine this.mono fun e w'' hrp => ?_
    have hr : readD (bs (((mk (allT (dps l)) ++ bad) ++ ⟨#[10]⟩) ++ mk (allT (dps l)))) = .error ((dps l).length + 1) := by
      have e1 : bs (((mk (allT (dps l)) ++ bad) ++ ⟨#[10]⟩) ++ mk (allT (dps l))) = allT (dps l) ++ (bs bad ++ (10 :: allT (dps l))) := by
        rw [bs_app, bs_app, bs_app, bs_mk, List.append_assoc, List.append_assoc]; rfl
      rw [e1]
      exact read_bad _ (all_ok' hok) _ _ hnl hno
    obtain ⟨h1, _, _, h4⟩ := rp_bad hrp hr
    refine ⟨?_, h4⟩
    rw [h1, dps, List.length_map]; rfl
  generalize mk (allT (dps l)) = T at HV HTZ HRE
  clear he hA hok
  go_enter Tryd.func6, Tryd.ntmps6
  by_cases hz : bad.size ≤ 300
  · have q1 : decide ((300 : Int) < bad.size) = false := decide_eq_false (by omega)
    go_wp2_with (first
      | (go_at_call 14; refine (hsh _ (HA.out.below HB.out)).mono ?_; rintro e w1 ⟨rfl, hb⟩; rw [HV.out]; replace HB := Lib.hid (bt HB.out hb); clear hb)
      | (go_at_call 9; refine (haw _ (HEN.out.below HB.out)).mono ?_; rintro e w2 ⟨rfl, hb⟩; replace HB := Lib.hid (bt HB.out hb); clear hb)
      | (go_at_call 10; refine (hfew _ (HA.out.below HB.out)).mono ?_; rintro e w3 ⟨⟨q, rfl, hq⟩, hb⟩; replace HB := Lib.hid (bt HB.out hb); have HQ := Lib.hid hq; clear hq hb; rcases q with _ | _))
    · go_ret
      exact ⟨rfl, HB.out⟩
    · have hTz := HTZ.out (HQ.out (by trivial))
      have hl6 : l.length ≤ 60 := (HQ.out (by trivial)).1
      have hz2 : bad.size + 1 ≤ 9000 := by omega
      clear HTZ HQ hfew hsh HV HA q1
      go_loopg [7] bad.size (fun gh v7 wx => ∃ (k : Nat), v7 = .int .i64 k ∧ k + gh = bad.size ∧ Hid (10 ∉ (bs bad).take k) ∧ Hid (Below w.heap.size w wx))
      case atStart => exact ⟨0, rfl, by omega, Lib.hid (by simp), HB⟩
      case round =>
        obtain ⟨k, rfl, hk, HK, HB⟩ := hrel
        by_cases hlt : k < bad.size
        · have hz : ((bad[k].toNat : Int) == 10) = decide (bad[k] = 10) := by
            by_cases e : bad[k] = 10
            · rw [e]; rfl
            · rw [decide_eq_false e, beq_eq_false_iff_ne]
              intro h
              exact e (UInt8.toNat_inj.1 (by show bad[k].toNat = 10; omega))
          have HS : Hid (¬ bad[k] = 10 → 10 ∉ (bs bad).take (k + 1)) := Lib.hid fun e h => by
            rw [List.take_succ_eq_append_getElem (by rw [bs_length]; exact hlt), List.mem_append, List.mem_singleton] at h
            rcases h with h | h
            · exact HK.out h
            · exact e h.symm
          cases hq : decide (bad[k] = 10)
          · have HS2 := Lib.hid (HS.out (of_decide_eq_false hq))
            rw [hq] at hz
            clear hq HS
            go_wp2
            go_roundg (bad.size - (k + 1))
            case measure => omega
            case rel => exact ⟨k + 1, by go_num, by omega, HS2, HB⟩
          · rw [hq] at hz
            clear hq HS
            go_wp2
            go_ret
            exact ⟨rfl, HB.out⟩
        · have HNL : Hid (10 ∉ bs bad) := Lib.hid (by
            have := HK.out
            rw [show k = bad.size by omega, take_size] at this
            exact this)
          have hrd := fun w' (h : Env w') => HRD.out w' h hz
          clear HRD HK
          rcases hr : readD (bs bad ++ [10]) with m | m
          · have HR : Hid (∀ w1 e w2, RP w1 (bs bad ++ [10]) e w2 → e = .returned (.tuple #[.slice none 0 0, .int .i64 (m : Int), .int .i64 200]) ∧ Below w1.heap.size w1 w2) := Lib.hid fun w1 e w2 h => ⟨(rp_bad h hr).1, (rp_bad h hr).2.2.2⟩
            have hre := fun w' (h : Env w') => HRE.out w' h hz hTz (fun m h => by rw [hr] at h; cases h) HNL.out
            clear HRE hr
            go_wp2_with (go_at_call 15; first
              | (with_reducible refine (hrd _ (HEN.out.below HB.out)).mono ?_; intro e w4 hrp; obtain ⟨rfl, hb⟩ := HR.out _ _ _ hrp; replace HB := Lib.hid (bt HB.out hb); clear hrp hb)
              | (with_reducible refine (hre _ (HEN.out.below HB.out)).mono ?_; rintro e w5 ⟨rfl, hb⟩; replace HB := Lib.hid (bt HB.out hb); clear hb))
            go_ret
            exact ⟨rfl, HB.out⟩
          · have HR : Hid (∀ w1 e w2, RP w1 (bs bad ++ [10]) e w2 → ∃ A n c, e = .returned (.tuple #[.slice A n c, .int .i64 0, .int .i64 0]) ∧ Below w1.heap.size w1 w2) := Lib.hid fun w1 e w2 h => by
              obtain ⟨A, c, ds, rfl, _, _, _, hb⟩ := rp_ok h hr
              exact ⟨A, _, c, rfl, hb⟩
            clear HRE hr
            go_wp2_with (go_at_call 15; refine (hrd _ (HEN.out.below HB.out)).mono ?_; intro e w4 hrp; obtain ⟨A2, n2, c2, rfl, hb⟩ := HR.out _ _ _ hrp; replace HB := Lib.hid (bt HB.out hb); clear hrp hb)
            go_ret
            exact ⟨rfl, HB.out⟩
  · have q1 : decide ((300 : Int) < bad.size) = true := decide_eq_true (by omega)
    go_wp2_with (first
      | (go_at_call 14; refine (hsh _ (HA.out.below HB.out)).mono ?_; rintro e w1 ⟨rfl, hb⟩; rw [HV.out]; replace HB := Lib.hid (bt HB.out hb); clear hb)
      | (go_at_call 9; refine (haw _ (HEN.out.below HB.out)).mono ?_; rintro e w2 ⟨rfl, hb⟩; replace HB := Lib.hid (bt HB.out hb); clear hb)
      | (go_at_call 10; refine (hfew _ (HA.out.below HB.out)).mono ?_; rintro e w3 ⟨⟨q, rfl, hq⟩, hb⟩; replace HB := Lib.hid (bt HB.out hb); have HQ := Lib.hid hq; clear hq hb; rcases q with _ | _))
    all_goals
      go_ret
      exact ⟨rfl, HB.out⟩
theorem Wrong_calls (A : Option Addr) (c : Nat) (l : List Dd) (bad : ByteArray) (w : World) (hl : l.length ≤ 2200000000000) (hA : Dds w A l) (he : Env w) :
    Calls Tryd.prog 6 #[.slice A l.length c, .string bad] w fun e w' => e = .returned (.bool true) ∧ Below w.heap.size w w' := by
  rcases hok : allOk l with _ | _
  · exact Wrong_no A c l bad w hl hA he hok
  · exact Wrong_yes A c l bad w hl hA he hok
end Go.Proofs.YtkodepckfdpaiaaDoor
