/- The law HeadTokens: the walk; condition: the library's bound lies where it is laid. -/
import Derived.Test.YtknfoolcbfmpaaaDoorHo
namespace Go.Proofs.YtknfoolcbfmpaaaDoor
set_option linter.unusedSimpArgs false
set_option linter.unusedVariables false
open Go.RowKit
theorem bs_one (s : ByteArray) (i : Nat) (h : i < s.size) : bs (s.extract i (i + 1)) = [s[i]] := by
  have h1 := bs_get? s i h
  have h2 : (bs s).length = s.size := bs_length s
  simp only [bs, ByteArray.data_extract, Array.toList_extract, List.extract_eq_take_drop] at h1 ⊢
  rw [show i + 1 - i = 1 by omega, List.take_one, List.head?_drop, h1]; rfl
theorem slice_one (s : ByteArray) (i : Nat) (h : i < s.size) (w : World) : (Instr.slice 9 (.string s) (some (.int .i64 (i : Int))) (some (.int .i64 ((i : Int) + 1))) none).run Tryd.prog w = .ok (.string (s.extract i (i + 1))) w := by
  have e := run_slice_string (P := Tryd.prog) w 9 s .i64 .i64 (i : Int) ((i : Int) + 1) Tryd.underlying9 (by omega) (by omega) (by omega)
  rw [e, Int.toNat_natCast, show ((i : Int) + 1).toNat = i + 1 by omega]
theorem tokB_one (c : UInt8) : tokB [c] = tokC c := by simp [tokB]
theorem tokB_blank (a b : List UInt8) : tokB (a ++ [32] ++ b) = false := by
  have h : tokC 32 = false := by decide
  simp [tokB, h]
theorem tokB_both {a b : List UInt8} (ha : tokB a = true) (hb : tokB b = true) : tokB (a ++ b) = true := by
  simp only [tokB, Bool.and_eq_true, Bool.not_eq_true', List.all_append] at ha hb ⊢
  refine ⟨?_, ha.2, hb.2⟩
  cases a with
  | nil => cases ha.1
  | cons x a => rfl
theorem tokB_nil : tokB (bs ⟨#[]⟩) = false := rfl
theorem nil_size : (⟨#[]⟩ : ByteArray).size = 0 := rfl
theorem blank_size : (⟨#[32]⟩ : ByteArray).size = 1 := rfl
set_option maxRecDepth 100000 in
set_option maxHeartbeats 4000000 in
theorem headTokens_calls (a b : ByteArray) (w : World) (ha : a.size ≤ maxLen) (hb : b.size ≤ maxLen) (hm : MaxL w) :
    Calls Tryd.prog 10 #[.string a, .string b] w fun e w' => e = .returned (.bool true) ∧ Below w.heap.size w w' := by
  unfold maxLen at ha hb
  by_cases h1 : 200 < a.size
  · have da : decide ((200 : Int) < (a.size : Int)) = true := decide_eq_true (by omega)
    go_enter Tryd.func10, Tryd.ntmps10
    go_wp2_with (go_at_call 11; first | ((with_reducible refine (awake_calls _ hm).mono ?_); rintro e w1 ⟨rfl, hb⟩; have HB1 := Lib.hid hb; have HM1 := Lib.hid (hm.below hb); clear hb) | ((with_reducible refine (awake_calls _ HM1.out).mono ?_); rintro e w2 ⟨rfl, hb⟩; have HB2 := Lib.hid (bt HB1.out hb); clear hb))
    go_ret
    exact ⟨rfl, HB2.out⟩
  · have da : decide ((200 : Int) < (a.size : Int)) = false := decide_eq_false (by omega)
    by_cases h2 : 200 < b.size
    · have db : decide ((200 : Int) < (b.size : Int)) = true := decide_eq_true (by omega)
      go_enter Tryd.func10, Tryd.ntmps10
      go_wp2_with (go_at_call 11; first | ((with_reducible refine (awake_calls _ hm).mono ?_); rintro e w1 ⟨rfl, hb⟩; have HB1 := Lib.hid hb; have HM1 := Lib.hid (hm.below hb); clear hb) | ((with_reducible refine (awake_calls _ HM1.out).mono ?_); rintro e w2 ⟨rfl, hb⟩; have HB2 := Lib.hid (bt HB1.out hb); clear hb))
      go_ret
      exact ⟨rfl, HB2.out⟩
    · have db : decide ((200 : Int) < (b.size : Int)) = false := decide_eq_false (by omega)
      have k1 := fun w => Token_calls a w (by unfold maxLen; omega)
      have k2 := fun w => Token_calls b w (by unfold maxLen; omega)
      have k3 := fun w => Token_calls (a ++ b) w (by rw [ByteArray.size_append]; unfold maxLen; omega)
      have k4 := fun w => Token_calls (a ++ ⟨#[32]⟩ ++ b) w (by rw [ByteArray.size_append, ByteArray.size_append, blank_size]; unfold maxLen; omega)
      have k5 := fun w => Token_calls ⟨#[]⟩ w (by rw [nil_size]; unfold maxLen; omega)
      have k6 := fun (i : Nat) (hi : i < a.size) w => Token_calls (a.extract i (i + 1)) w (by rw [ByteArray.size_extract]; unfold maxLen; omega)
      rw [bs_app] at k3
      rw [bs_app, bs_app, show bs ⟨#[32]⟩ = [32] from rfl, tokB_blank] at k4
      rw [tokB_nil] at k5
      have e3 : tokB (bs a) = true → tokB (bs b) = true → tokB (bs a ++ bs b) = true := tokB_both
      have HT : Hid (tokB (bs a) = (!(bs a).isEmpty && (bs a).all tokC)) := Lib.hid rfl
      generalize tokB (bs a) = q1 at k1 e3 HT
      generalize tokB (bs b) = q2 at k2 e3
      generalize tokB (bs a ++ bs b) = q3 at k3 e3
      have HE3 := Lib.hid e3
      clear e3
      obtain ⟨z, hz⟩ : ∃ z, z = (bs a).isEmpty := ⟨_, rfl⟩
      have he : a.toList.isEmpty = z := by rw [ByteArray.toList_eq, hz]
      rw [← hz] at HT
      clear hz
      obtain ⟨zz, hzz'⟩ : ∃ zz, zz = z := ⟨_, rfl⟩
      rw [← hzz'] at HT
      have hzz := Lib.hid hzz'
      clear hzz'
      go_enter Tryd.func10, Tryd.ntmps10
      cases z
      all_goals
        go_wp2_with (first
          | (go_at_call 11; first | ((with_reducible refine (awake_calls _ hm).mono ?_); rintro e w1 ⟨rfl, hb⟩; have HB1 := Lib.hid hb; have HM1 := Lib.hid (hm.below hb); clear hb) | ((with_reducible refine (awake_calls _ HM1.out).mono ?_); rintro e w2 ⟨rfl, hb⟩; have HB2 := Lib.hid (bt HB1.out hb); clear hb))
          | (go_at_call 23; (with_reducible refine (k1 _).mono ?_); rintro e w3 ⟨rfl, rfl⟩))
        go_loopg [6, 7] a.size (fun gh v6 v7 wx => ∃ (k : Nat) (q : Bool), v7 = .int .i64 k ∧ k + gh = a.size ∧ v6 = .bool q ∧ Hid (q = (!zz && ((bs a).take k).all tokC)) ∧ Hid (Below w.heap.size w wx))
        case atStart => exact ⟨0, _, rfl, by omega, rfl, Lib.hid (by rw [hzz.out]; simp), HB1⟩
        case round =>
          obtain ⟨k, q, rfl, hk, rfl, HQ, HB⟩ := hrel
          by_cases hlt : k < a.size
          · have HN := Lib.hid (take_all (p := tokC) a k hlt)
            have k7 := k6 k hlt
            rw [bs_one a k hlt, tokB_one] at k7
            have hsl := fun w => slice_one a k hlt w
            generalize tokC a[k] = t at k7 HN
            cases q
            · go_wp2
              go_roundg (a.size - (k + 1))
              case measure => omega
              case rel => exact ⟨k + 1, false, by go_num, by omega, rfl, Lib.hid (by rw [HN.out, ← Bool.and_assoc, ← HQ.out]; rfl), HB⟩
            · go_wp2_with (go_at_call 23; (with_reducible refine (k7 _).mono ?_); rintro e w3 ⟨rfl, rfl⟩)
              go_roundg (a.size - (k + 1))
              case measure => omega
              case rel => exact ⟨k + 1, t, by go_num, by omega, rfl, Lib.hid (by rw [HN.out, ← Bool.and_assoc, ← HQ.out]; rfl), HB⟩
          · obtain rfl : q = q1 := by
              rw [HQ.out, HT.out, show k = a.size by omega, take_size]
            clear HQ HT
            have e3 := HE3.out
            cases q
            · go_wp2_with (go_at_call 23; first
                | ((with_reducible refine (k4 _).mono ?_); rintro e w3 ⟨rfl, rfl⟩)
                | ((with_reducible refine (k5 _).mono ?_); rintro e w3 ⟨rfl, rfl⟩))
              go_ret
              exact ⟨rfl, HB.out⟩
            · cases q2
              · go_wp2_with (go_at_call 23; first
                  | ((with_reducible refine (k2 _).mono ?_); rintro e w3 ⟨rfl, rfl⟩)
                  | ((with_reducible refine (k4 _).mono ?_); rintro e w3 ⟨rfl, rfl⟩)
                  | ((with_reducible refine (k5 _).mono ?_); rintro e w3 ⟨rfl, rfl⟩))
                go_ret
                exact ⟨rfl, HB.out⟩
              · obtain rfl : q3 = true := e3 rfl rfl
                clear e3
                go_wp2_with (go_at_call 23; first
                  | ((with_reducible refine (k2 _).mono ?_); rintro e w3 ⟨rfl, rfl⟩)
                  | ((with_reducible refine (k3 _).mono ?_); rintro e w3 ⟨rfl, rfl⟩)
                  | ((with_reducible refine (k4 _).mono ?_); rintro e w3 ⟨rfl, rfl⟩)
                  | ((with_reducible refine (k5 _).mono ?_); rintro e w3 ⟨rfl, rfl⟩))
                go_ret
                exact ⟨rfl, HB.out⟩
end Go.Proofs.YtknfoolcbfmpaaaDoor
