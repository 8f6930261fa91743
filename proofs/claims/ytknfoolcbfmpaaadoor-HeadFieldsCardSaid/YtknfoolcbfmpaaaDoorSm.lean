/- The same but for case, by the program and by the document; conditions: strings of lengths that a world can hold. -/
import Derived.Test.YtknfoolcbfmpaaaDoorGs

import Derived.Test.YtknfoolcbfmpaaaDoorShelf
namespace Go.Proofs.YtknfoolcbfmpaaaDoor
set_option linter.unusedSimpArgs false
set_option linter.unusedVariables false
open Go.RowKit
def upC (c : UInt8) : UInt8 := if 97 ≤ c && c ≤ 122 then c - 32 else c
theorem upC_nat (c : UInt8) : (upC c).toNat = if 97 ≤ c.toNat ∧ c.toNat ≤ 122 then c.toNat - 32 else c.toNat := by
  unfold upC
  have h97 : (97 : UInt8).toNat = 97 := rfl
  have h122 : (122 : UInt8).toNat = 122 := rfl
  have h32 : (32 : UInt8).toNat = 32 := rfl
  by_cases h : 97 ≤ c.toNat ∧ c.toNat ≤ 122
  · rw [if_pos h, if_pos (by simp [UInt8.le_iff_toNat_le, h97, h122, h]), UInt8.toNat_sub_of_le _ _ (by rw [UInt8.le_iff_toNat_le, h32]; omega), h32]
  · rw [if_neg h, if_neg (by simp [UInt8.le_iff_toNat_le, h97, h122]; omega)]
/-- The same, but for case. -/
def sameB (a b : List UInt8) : Bool := decide (a.map upC = b.map upC)
theorem up_calls (c : UInt8) (w : World) : Calls Tryd.prog 44 #[.int .u8 c.toNat] w fun e w' => e = .returned (.int .u8 (upC c).toNat) ∧ w' = w := by
  have hc := c.toNat_lt
  have hu := upC_nat c
  by_cases h : 97 ≤ c.toNat ∧ c.toNat ≤ 122
  · rw [if_pos h] at hu
    obtain ⟨h1, h2⟩ := h
    have HU := Lib.hid hu; clear hu
    go_enter Tryd.func44, Tryd.ntmps44
    go_wp2
    go_ret
    exact ⟨ret_int (by rw [HU.out]; omega), rfl⟩
  · rw [if_neg h] at hu
    have HU := Lib.hid hu; clear hu
    by_cases h1 : 97 ≤ c.toNat
    · have h2 : 122 < c.toNat := by omega
      clear h
      go_enter Tryd.func44, Tryd.ntmps44
      go_wp2
      go_ret
      exact ⟨ret_int (by rw [HU.out]), rfl⟩
    · clear h
      go_enter Tryd.func44, Tryd.ntmps44
      go_wp2
      go_ret
      exact ⟨ret_int (by rw [HU.out]), rfl⟩
theorem fold_calls (c : UInt8) (w : World) : Calls Tryd.prog 43 #[.int .u8 c.toNat] w fun e w' => e = .returned (.int .u8 (upC c).toNat) ∧ w' = w := by
  have hc := c.toNat_lt
  have hu := upC_nat c
  by_cases h : 97 ≤ c.toNat ∧ c.toNat ≤ 122
  · rw [if_pos h] at hu
    obtain ⟨h1, h2⟩ := h
    have HU := Lib.hid hu; clear hu
    go_enter Tryd.func43, Tryd.ntmps43
    go_wp2
    go_ret
    exact ⟨ret_int (by rw [HU.out]; omega), rfl⟩
  · rw [if_neg h] at hu
    have HU := Lib.hid hu; clear hu
    by_cases h1 : 97 ≤ c.toNat
    · have h2 : 122 < c.toNat := by omega
      clear h
      go_enter Tryd.func43, Tryd.ntmps43
      go_wp2
      go_ret
      exact ⟨ret_int (by rw [HU.out]), rfl⟩
    · clear h
      go_enter Tryd.func43, Tryd.ntmps43
      go_wp2
      go_ret
      exact ⟨ret_int (by rw [HU.out]), rfl⟩
theorem Drawn.more {w w' : World} (h : Drawn w w') (n : Nat) : Drawn w (w'.drewN n) := by
  obtain ⟨m, rfl⟩ := h.out
  exact ⟨⟨m + n, World.drewN_drewN _ _ _⟩⟩
theorem map_take_up (a b : ByteArray) (k : Nat) (ha : k < a.size) (hb : k < b.size) (h : ((bs a).take k).map upC = ((bs b).take k).map upC) (he : upC a[k] = upC b[k]) : ((bs a).take (k + 1)).map upC = ((bs b).take (k + 1)).map upC := by
  rw [List.take_succ_eq_append_getElem (by rw [bs_length]; exact ha), List.take_succ_eq_append_getElem (by rw [bs_length]; exact hb), List.map_append, List.map_append, h]
  show _ ++ [upC a[k]] = _ ++ [upC b[k]]
  rw [he]
theorem same_no (a b : ByteArray) (k : Nat) (ha : k < a.size) (hb : k < b.size) (he : upC a[k] ≠ upC b[k]) : sameB (bs a) (bs b) = false := by
  unfold sameB
  rw [decide_eq_false_iff_not]
  intro h
  have := congrArg (·[k]?) h
  simp only [List.getElem?_map, bs_get? a k ha, bs_get? b k hb, Option.map_some, Option.some.injEq] at this
  exact he this
theorem same_len (a b : ByteArray) (h : a.size ≠ b.size) : sameB (bs a) (bs b) = false := by
  unfold sameB
  rw [decide_eq_false_iff_not]
  intro h'
  have := congrArg List.length h'
  rw [List.length_map, List.length_map, bs_length, bs_length] at this
  exact h this
set_option maxHeartbeats 1000000 in
theorem refSame_calls (a b : ByteArray) (w : World) (ha : a.size ≤ maxLen) (hb : b.size ≤ maxLen) :
    Calls Tryd.prog 26 #[.string a, .string b] w fun e w' => e = .returned (.bool (sameB (bs a) (bs b))) ∧ ∃ n, w' = w.drewN n := by
  unfold maxLen at ha hb
  by_cases hl : a.size = b.size
  · go_enter Tryd.func26, Tryd.ntmps26
    go_wp2
    have HL := Lib.hid hl; clear hl
    go_loopg [5] a.size (fun gh i wx => ∃ k : Nat, i = .int .i64 k ∧ k + gh = a.size ∧ Hid (((bs a).take k).map upC = ((bs b).take k).map upC) ∧ Hid (Drawn w wx))
    case atStart => exact ⟨0, rfl, by omega, Lib.hid rfl, Lib.hid (Drawn.refl w)⟩
    case round =>
      obtain ⟨k, rfl, hk, hall, hd⟩ := hrel
      by_cases hlt : k < a.size
      · have hltb : k < b.size := by rw [← HL.out]; exact hlt
        by_cases he : upC a[k] = upC b[k]
        · have hne : (((upC a[k]).toNat : Int) != ((upC b[k]).toNat : Int)) = false := by rw [he]; simp
          have HE := Lib.hid he; clear he
          go_upto_region 6 with (fail)
          go_quiet ((go_at_call 44; exact Calls.quiet_of_same (up_calls _ _)))
          go_wp2
          go_roundg (a.size - (k + 1))
          case measure => omega
          case rel => exact ⟨k + 1, by go_num, by omega, Lib.hid (map_take_up a b k hlt hltb hall.out HE.out), Lib.hid (hd.out.more _)⟩
        · have hne : (((upC a[k]).toNat : Int) != ((upC b[k]).toNat : Int)) = true := by
            rw [bne_iff_ne]; exact fun h => he (UInt8.toNat_inj.1 (by omega))
          have HE := Lib.hid he; clear he
          go_upto_region 6 with (fail)
          go_quiet ((go_at_call 44; exact Calls.quiet_of_same (up_calls _ _)))
          go_wp2
          go_ret
          exact ⟨ret_bool (same_no a b k hlt hltb HE.out).symm, (hd.out.more _).out⟩
      · have hk' : k = a.size := by omega
        have hall' := hall.out
        rw [hk', take_size, HL.out, take_size] at hall'
        have HA := Lib.hid hall'; clear hall' hall
        have hnb : ¬ k < b.size := by rw [← HL.out]; exact hlt
        go_wp2
        go_ret
        exact ⟨ret_bool (by rw [sameB, decide_eq_true HA.out]), hd.out.out⟩
  · have HL := Lib.hid (same_len a b hl)
    have hd : ((a.size : Int) != (b.size : Int)) = true := by rw [bne_iff_ne]; omega
    go_enter Tryd.func26, Tryd.ntmps26
    go_wp2
    go_ret
    exact ⟨ret_bool (by rw [HL.out]), 0, rfl⟩
set_option maxHeartbeats 1000000 in
theorem Same_calls (a b : ByteArray) (w : World) (ha : a.size ≤ maxLen) (hb : b.size ≤ maxLen) :
    Calls Tryd.prog 25 #[.string a, .string b] w fun e w' => e = .returned (.bool (sameB (bs a) (bs b))) ∧ ∃ n, w' = w.drewN n := by
  unfold maxLen at ha hb
  by_cases hl : a.size = b.size
  · go_enter Tryd.func25, Tryd.ntmps25
    go_wp2
    have HL := Lib.hid hl; clear hl
    go_loopg [14] a.size (fun gh i wx => ∃ k : Nat, i = .int .i64 k ∧ k + gh = a.size ∧ Hid (((bs a).take k).map upC = ((bs b).take k).map upC) ∧ Hid (Drawn w wx))
    case atStart => exact ⟨0, rfl, by omega, Lib.hid rfl, Lib.hid (Drawn.refl w)⟩
    case round =>
      obtain ⟨k, rfl, hk, hall, hd⟩ := hrel
      by_cases hlt : k < a.size
      · have hltb : k < b.size := by rw [← HL.out]; exact hlt
        by_cases he : upC a[k] = upC b[k]
        · have hne : (((upC a[k]).toNat : Int) != ((upC b[k]).toNat : Int)) = false := by rw [he]; simp
          have HE := Lib.hid he; clear he
          go_upto_region 7 with (fail)
          go_quiet ((go_at_call 43; exact Calls.quiet_of_same (fold_calls _ _)))
          go_wp2
          go_roundg (a.size - (k + 1))
          case measure => omega
          case rel => exact ⟨k + 1, by go_num, by omega, Lib.hid (map_take_up a b k hlt hltb hall.out HE.out), Lib.hid (hd.out.more _)⟩
        · have hne : (((upC a[k]).toNat : Int) != ((upC b[k]).toNat : Int)) = true := by
            rw [bne_iff_ne]; exact fun h => he (UInt8.toNat_inj.1 (by omega))
          have HE := Lib.hid he; clear he
          go_upto_region 7 with (fail)
          go_quiet ((go_at_call 43; exact Calls.quiet_of_same (fold_calls _ _)))
          go_wp2
          go_ret
          exact ⟨ret_bool (same_no a b k hlt hltb HE.out).symm, (hd.out.more _).out⟩
      · have hk' : k = a.size := by omega
        have hall' := hall.out
        rw [hk', take_size, HL.out, take_size] at hall'
        have HA := Lib.hid hall'; clear hall' hall
        have hnb : ¬ k < b.size := by rw [← HL.out]; exact hlt
        go_wp2
        go_ret
        exact ⟨ret_bool (by rw [sameB, decide_eq_true HA.out]), hd.out.out⟩
  · have HL := Lib.hid (same_len a b hl)
    have hd : ((a.size : Int) != (b.size : Int)) = true := by rw [bne_iff_ne]; omega
    go_enter Tryd.func25, Tryd.ntmps25
    go_wp2
    go_ret
    exact ⟨ret_bool (by rw [HL.out]), 0, rfl⟩
end Go.Proofs.YtknfoolcbfmpaaaDoor
