/- pendentiveref06.In and Few: whether a text is one of some, and whether some texts are few and short; of slices that can be read. -/
import Derived.Test.YtkhepfmllolokaaDoorA
namespace Go.Proofs.YtkhepfmllolokaaDoor
open Go.RowKit
def inB (s : ByteArray) (l : List ByteArray) : Bool := l.any fun x => decide (x = s)
set_option maxHeartbeats 400000 in
theorem In_calls (s : ByteArray) (A : Option Addr) (l : List ByteArray) (c : Nat) (w : World) (hl : l.length ≤ maxLen) (hA : Strs w A l) :
    Calls Tryd.prog 17 #[.string s, .slice A l.length c] w fun e w' => e = .returned (.bool (inB s l)) ∧ w' = w := by
  unfold maxLen at hl
  go_enter Tryd.func17, Tryd.ntmps17
  go_wp2
  have HA := Lib.hid hA; clear hA
  go_loop [5] (fun i => ∃ k : Nat, k ≤ l.length ∧ i = .int .i64 k ∧ (l.take k).any (fun x => decide (x = s)) = false) (fun i => l.length - (intOf i).toNat)
  case atStart => exact ⟨0, Nat.zero_le _, rfl, rfl⟩
  case round =>
    obtain ⟨k, hk, rfl, hall⟩ := hrel
    by_cases hlt : k < l.length
    · obtain ⟨b, off, rfl, hc⟩ := HA.out k hlt
      go_wp2
      · have e : (l[k].toList == s.toList) = true := by assumption
        rw [str_beq] at e
        go_ret
        exact ⟨ret_bool (any_yes l k hlt e).symm, rfl⟩
      · have e : (l[k].toList == s.toList) = false := by assumption
        rw [str_beq] at e
        go_round
        case rel => exact ⟨k + 1, hlt, by go_num, by rw [any_take l k hlt, hall, e]; rfl⟩
        case measure => simp [intOf]; omega
    · go_wp2
      rw [List.take_of_length_le (by omega)] at hall
      go_ret
      exact ⟨ret_bool hall.symm, rfl⟩
def fewB (l : List ByteArray) : Bool := l.all (fun x => decide (x.size ≤ 300)) && decide (l.length ≤ 30)
set_option maxHeartbeats 400000 in
theorem Few_calls (A : Option Addr) (l : List ByteArray) (c : Nat) (w : World) (hl : l.length ≤ maxLen) (hA : Strs w A l) :
    Calls Tryd.prog 10 #[.slice A l.length c] w fun e w' => e = .returned (.bool (fewB l)) ∧ w' = w := by
  unfold maxLen at hl
  go_enter Tryd.func10, Tryd.ntmps10
  go_wp2
  have HA := Lib.hid hA; clear hA
  go_loop [3] (fun i => ∃ k : Nat, k ≤ l.length ∧ i = .int .i64 k ∧ (l.take k).all (fun x => decide (x.size ≤ 300)) = true) (fun i => l.length - (intOf i).toNat)
  case atStart => exact ⟨0, Nat.zero_le _, rfl, rfl⟩
  case round =>
    obtain ⟨k, hk, rfl, hall⟩ := hrel
    by_cases hlt : k < l.length
    · obtain ⟨b, off, rfl, hc⟩ := HA.out k hlt
      go_wp2
      · have e : decide (l[k].size ≤ 300) = false := by rw [decide_eq_false_iff_not]; omega
        go_ret
        exact ⟨ret_bool (by rw [fewB, all_no l k hlt e]; rfl), rfl⟩
      · have e : decide (l[k].size ≤ 300) = true := by rw [decide_eq_true_eq]; omega
        go_round
        case rel => exact ⟨k + 1, hlt, by go_num, by rw [all_take l k hlt, hall, e]; rfl⟩
        case measure => simp [intOf]; omega
    · go_wp2
      rw [List.take_of_length_le (by omega)] at hall
      go_ret
      exact ⟨ret_bool (by rw [fewB, hall, Bool.true_and]; exact decide_eq_decide.2 (by omega)), rfl⟩
end Go.Proofs.YtkhepfmllolokaaDoor
