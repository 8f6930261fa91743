/- The document's plain and at; conditions: strings of lengths that a world can hold. -/
import Derived.Test.YtknfoolcbfmpaaaDoorHa
namespace Go.Proofs.YtknfoolcbfmpaaaDoor
set_option linter.unusedSimpArgs false
set_option linter.unusedVariables false
open Go.RowKit
theorem c126 : (126 : UInt8).toNat = 126 := rfl
set_option maxHeartbeats 1000000 in
theorem plain_calls (s : ByteArray) (a : UInt8) (w : World) (hs : s.size ≤ maxLen) :
    Calls Tryd.prog 50 #[.string s, .int .u8 a.toNat] w fun e w' => e = .returned (.bool (within a 126 (bs s))) ∧ w' = w := by
  unfold maxLen at hs
  go_enter Tryd.func50, Tryd.ntmps50
  go_wp2
  go_loop [5] (fun i => ∃ k : Nat, k ≤ s.size ∧ i = .int .i64 k ∧ Hid (((bs s).take k).all (inC a 126) = true)) (fun i => s.size - (intOf i).toNat)
  case atStart => exact ⟨0, Nat.zero_le _, rfl, Lib.hid rfl⟩
  case round =>
    obtain ⟨k, hk, rfl, hall⟩ := hrel
    by_cases hlt : k < s.size
    · by_cases h1 : (s[k].toNat : Int) < (a.toNat : Int)
      · have e : inC a 126 s[k] = false := by rw [Bool.eq_false_iff, Ne, inC_iff]; omega
        have HE := Lib.hid (all_not s k hlt e)
        clear e
        go_wp2
        go_ret
        exact ⟨ret_bool HE.out.symm, rfl⟩
      · by_cases h2 : (126 : Int) < (s[k].toNat : Int)
        · have e : inC a 126 s[k] = false := by rw [Bool.eq_false_iff, Ne, inC_iff, c126]; omega
          have HE := Lib.hid (all_not s k hlt e)
          clear e
          go_wp2
          go_ret
          exact ⟨ret_bool HE.out.symm, rfl⟩
        · have e : inC a 126 s[k] = true := by rw [inC_iff, c126]; omega
          have HE : Hid (((bs s).take (k + 1)).all (inC a 126) = true) := Lib.hid (by rw [take_all s k hlt, hall.out, e]; rfl)
          clear e
          go_wp2
          go_round
          case rel => exact ⟨k + 1, hlt, by go_num, HE⟩
          case measure => simp [intOf]; omega
    · have hall' := hall.out
      rw [show k = s.size by omega, take_size] at hall'
      have HE := Lib.hid hall'
      clear hall' hall
      go_wp2
      go_ret
      exact ⟨ret_bool HE.out.symm, rfl⟩
/-- Where a byte is first; the length, if it isn't there. -/
def atB (l : List UInt8) (c : UInt8) : Nat := (l.takeWhile (fun x => !decide (x = c))).length
theorem atB_hit (s : ByteArray) (c : UInt8) (k : Nat) (hk : k < s.size) (ha : ((bs s).take k).all (fun x => !decide (x = c)) = true) (he : s[k] = c) : atB (bs s) c = k := by
  have hd : bs s = (bs s).take k ++ s[k] :: (bs s).drop (k + 1) := by
    have hl : k < (bs s).length := by rw [bs_length]; exact hk
    have hg : (bs s)[k] = s[k] := by
      have := bs_get? s k hk
      rw [List.getElem?_eq_getElem hl] at this
      exact Option.some.inj this
    rw [← hg, List.getElem_cons_drop, List.take_append_drop]
  unfold atB
  rw [hd, List.takeWhile_append_of_pos (List.all_eq_true.1 ha), List.takeWhile_cons, if_neg (by simp [he]), List.append_nil, List.length_take, bs_length]
  omega
theorem atB_no (s : ByteArray) (c : UInt8) (ha : (bs s).all (fun x => !decide (x = c)) = true) : atB (bs s) c = s.size := by
  unfold atB
  have h := List.takeWhile_append_of_pos (l₂ := []) (List.all_eq_true.1 ha)
  rw [List.append_nil, List.takeWhile_nil, List.append_nil] at h
  rw [h, bs_length]
set_option maxHeartbeats 1000000 in
theorem at_calls (s : ByteArray) (c : UInt8) (w : World) (hs : s.size ≤ maxLen) :
    Calls Tryd.prog 40 #[.string s, .int .u8 c.toNat] w fun e w' => e = .returned (.int .i64 (atB (bs s) c)) ∧ w' = w := by
  unfold maxLen at hs
  go_enter Tryd.func40, Tryd.ntmps40
  go_wp2
  go_loop [5] (fun i => ∃ k : Nat, k ≤ s.size ∧ i = .int .i64 k ∧ Hid (((bs s).take k).all (fun x => !decide (x = c)) = true)) (fun i => s.size - (intOf i).toNat)
  case atStart => exact ⟨0, Nat.zero_le _, rfl, Lib.hid rfl⟩
  case round =>
    obtain ⟨k, hk, rfl, hall⟩ := hrel
    by_cases hlt : k < s.size
    · by_cases h1 : s[k] = c
      · have HE := Lib.hid (atB_hit s c k hlt hall.out h1)
        have h2 : ((s[k].toNat : Int) == (c.toNat : Int)) = true := by rw [h1]; simp
        clear h1
        go_wp2
        go_ret
        exact ⟨by rw [HE.out]; rfl, rfl⟩
      · have h2 : ((s[k].toNat : Int) == (c.toNat : Int)) = false := by
          rw [beq_eq_false_iff_ne]
          exact fun e => h1 (UInt8.toNat_inj.1 (by omega))
        have HE : Hid (((bs s).take (k + 1)).all (fun x => !decide (x = c)) = true) := Lib.hid (by rw [take_all s k hlt, hall.out]; simp [h1])
        clear h1
        go_wp2
        go_round
        case rel => exact ⟨k + 1, hlt, by go_num, HE⟩
        case measure => simp [intOf]; omega
    · have hall' := hall.out
      rw [show k = s.size by omega, take_size] at hall'
      have HE := Lib.hid (atB_no s c hall')
      clear hall' hall
      go_wp2
      go_ret
      exact ⟨by rw [HE.out]; rfl, rfl⟩
end Go.Proofs.YtknfoolcbfmpaaaDoor
