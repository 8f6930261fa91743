/- pendentiveref05.Token tells whether a string is a token, mark by mark: every string that a world can hold. -/
import Derived.Test.YtknfoolcbfmpaaaDoorGs
import Derived.Deep.DeepCutAuto
import Derived.Deep.CutBlock
namespace Go.Proofs.YtknfoolcbfmpaaaDoor
open Go.RowKit
theorem pos_empty (s : ByteArray) : decide (0 < s.size) = !(bs s).isEmpty := by
  rw [← bs_length]
  cases bs s with
  | nil => rfl
  | cons a l => simp
theorem indexByte_any (l : List UInt8) (c : UInt8) : -1 ≤ Lib.indexByte l c ∧ decide (0 ≤ Lib.indexByte l c) = l.any (fun x => decide (x = c)) := by
  induction l with
  | nil => exact ⟨Int.le_refl _, rfl⟩
  | cons b l ih =>
    obtain ⟨h1, h2⟩ := ih
    rw [List.any_cons, ← h2]
    by_cases e : b = c
    · subst e; simp [Lib.indexByte]
    · by_cases z : Lib.indexByte l c = -1
      · simp [Lib.indexByte, e, z]
      · have : 0 ≤ Lib.indexByte l c := by omega
        simp [Lib.indexByte, e, z, this]; omega
theorem tok_split (c : UInt8) : tokC c = (letterB c || marks.any (fun x => decide (x = c))) := by rw [tokC, (indexByte_any marks c).2]
theorem letter_iff (c : UInt8) : letterB c = true ↔ (97 ≤ (c.toNat : Int) ∧ (c.toNat : Int) ≤ 122) ∨ (65 ≤ (c.toNat : Int) ∧ (c.toNat : Int) ≤ 90) ∨ (48 ≤ (c.toNat : Int) ∧ (c.toNat : Int) ≤ 57) := by
  simp only [letterB, Bool.or_eq_true, Bool.and_eq_true, decide_eq_true_eq, UInt8.le_iff_toNat_le]
  have h : (97 : UInt8).toNat = 97 ∧ (122 : UInt8).toNat = 122 ∧ (65 : UInt8).toNat = 65 ∧ (90 : UInt8).toNat = 90 ∧ (48 : UInt8).toNat = 48 ∧ (57 : UInt8).toNat = 57 := by decide
  omega
theorem marks_at (m : Nat) (h : m < 15) : (⟨#[33, 35, 36, 37, 38, 39, 42, 43, 45, 46, 94, 95, 96, 124, 126]⟩ : ByteArray)[m]'h = marks[m]'h := by
  simp only [marks]
  rfl
set_option maxHeartbeats 1000000 in
theorem reftoken_calls (s : ByteArray) (w : World) (hs : s.size ≤ maxLen) :
    Calls Tryd.prog 24 #[.string s] w fun e w' => e = .returned (.bool (tokB (bs s))) ∧ w' = w := by
  unfold maxLen at hs
  go_enter Tryd.func24, Tryd.ntmps24
  go_wp2
  go_loopg [3] s.size (fun g i wr => ∃ k : Nat, i = .int .i64 k ∧ k + g = s.size ∧ Hid (((bs s).take k).all tokC = true) ∧ wr = w)
  case atStart => exact ⟨0, rfl, by omega, Lib.hid rfl, rfl⟩
  case round =>
    obtain ⟨k, rfl, hk, hall, rfl⟩ := hrel
    by_cases hlt : k < s.size
    · go_upto_region 5 with (fail)
      go_cut [5] (fun v wx => ∃ q : Bool, v = .bool q ∧ Hid (q = letterB s[k]) ∧ wx = wr)
      case first =>
        go_wp2
        all_goals
          go_meet
          refine ⟨_, rfl, Lib.hid ?_, rfl⟩
          rw [Bool.eq_iff_iff, letter_iff]
          simp only [Bool.or_eq_true, decide_eq_true_eq, Bool.false_eq_true, false_iff, true_iff]
          omega
      case rest =>
        obtain ⟨q, rfl, hq, rfl⟩ := hcut
        go_wp2
        go_loopg [5, 6] 15 (fun g v i wr' => ∃ (m : Nat) (q : Bool), i = .int .i64 m ∧ m + g = 15 ∧ v = .bool q ∧ Hid (q = (letterB s[k] || (marks.take m).any (fun x => decide (x = s[k])))) ∧ wr' = wc)
        case atStart => exact ⟨0, q, rfl, rfl, rfl, Lib.hid (by rw [hq.out]; simp), rfl⟩
        case round =>
          obtain ⟨m, q, rfl, hm, rfl, hq, rfl⟩ := hrel
          by_cases hmt : m < 15
          · cases q
            · go_wp2
              go_roundg (15 - (m + 1))
              case measure => omega
              case rel =>
                refine ⟨m + 1, _, by go_num, by omega, rfl, Lib.hid ?_, rfl⟩
                rw [any_take marks m hmt, ← Bool.or_assoc, ← hq.out, Bool.false_or, ← marks_at m hmt]
                rw [Bool.eq_iff_iff, beq_iff_eq, decide_eq_true_eq]
                exact ⟨fun h => UInt8.toNat_inj.1 (by omega), fun h => by rw [h]⟩
            · go_wp2
              go_roundg (15 - (m + 1))
              case measure => omega
              case rel => exact ⟨m + 1, _, by go_num, by omega, rfl, Lib.hid (by rw [any_take marks m hmt, ← Bool.or_assoc, ← hq.out]; rfl), rfl⟩
          · have hq' := hq.out
            rw [List.take_of_length_le (by show 15 ≤ m; omega), ← tok_split] at hq'
            have HQ := Lib.hid hq'; clear hq' hq
            cases q
            · go_wp2
              go_ret
              exact ⟨ret_bool (by rw [tokB, all_not s k hlt HQ.out.symm]; simp), rfl⟩
            · go_wp2
              go_roundg (s.size - (k + 1))
              case measure => omega
              case rel => exact ⟨k + 1, by go_num, by omega, Lib.hid (by rw [take_all s k hlt, hall.out, ← HQ.out]; rfl), rfl⟩
    · go_wp2
      have hk' : k = s.size := by omega
      have hall := hall.out
      rw [hk', take_size] at hall
      go_ret
      exact ⟨ret_bool (by rw [tokB, hall, Bool.and_true]; exact pos_empty s), rfl⟩
end Go.Proofs.YtknfoolcbfmpaaaDoor
