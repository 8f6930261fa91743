/- head.Token tells whether a string is a token: every string that a world can hold. -/
import Derived.Test.YtknfoolcbfmpaaaDoorA
import Derived.Test.YtknfoolcbfmpaaaDoorShelf
import Derived.WalkMore
namespace Go.Proofs.YtknfoolcbfmpaaaDoor
open Go.RowKit
def marks : List UInt8 := [33, 35, 36, 37, 38, 39, 42, 43, 45, 46, 94, 95, 96, 124, 126]
def letterB (c : UInt8) : Bool := (97 ≤ c && c ≤ 122) || (65 ≤ c && c ≤ 90) || (48 ≤ c && c ≤ 57)
def tokC (c : UInt8) : Bool := letterB c || decide (0 ≤ Lib.indexByte marks c)
theorem tokC_iff (c : UInt8) : tokC c = true ↔ (97 ≤ (c.toNat : Int) ∧ (c.toNat : Int) ≤ 122) ∨ (65 ≤ (c.toNat : Int) ∧ (c.toNat : Int) ≤ 90) ∨ (48 ≤ (c.toNat : Int) ∧ (c.toNat : Int) ≤ 57) ∨ 0 ≤ Lib.indexByte [33, 35, 36, 37, 38, 39, 42, 43, 45, 46, 94, 95, 96, 124, 126] c := by
  simp only [tokC, letterB, Bool.or_eq_true, Bool.and_eq_true, decide_eq_true_eq, UInt8.le_iff_toNat_le]
  have h : (97 : UInt8).toNat = 97 ∧ (122 : UInt8).toNat = 122 ∧ (65 : UInt8).toNat = 65 ∧ (90 : UInt8).toNat = 90 ∧ (48 : UInt8).toNat = 48 ∧ (57 : UInt8).toNat = 57 := by decide
  rw [show marks = [33, 35, 36, 37, 38, 39, 42, 43, 45, 46, 94, 95, 96, 124, 126] from rfl]
  omega
def tokB (l : List UInt8) : Bool := !l.isEmpty && l.all tokC
set_option maxHeartbeats 400000 in
theorem Token_calls (s : ByteArray) (w : World) (hs : s.size ≤ maxLen) :
    Calls Tryd.prog 23 #[.string s] w fun e w' => e = .returned (.bool (tokB (bs s))) ∧ w' = w := by
  unfold maxLen at hs
  go_enter Tryd.func23, Tryd.ntmps23
  go_wp2
  go_step3
  go_wp2
  go_step3
  go_wp2
  go_loop [7] (fun i => ∃ k : Nat, k ≤ s.size ∧ i = .int .i64 k ∧ ((bs s).take k).all tokC = true) (fun i => s.size - (intOf i).toNat)
  case atStart => exact ⟨0, Nat.zero_le _, rfl, rfl⟩
  case round =>
    obtain ⟨k, hk, rfl, hall⟩ := hrel
    go_wp2_with (go_at_call 42; refine (Tryd.strings_IndexByte _ _ _).mono ?_; rintro e w' ⟨rfl, rfl⟩)
    all_goals first
      | (have e : tokC s[k] = true := by
           rw [tokC_iff]; omega
         go_round
         case rel => exact ⟨k + 1, by omega, by go_num, by rw [take_all s k ‹_›, hall, e]; rfl⟩
         case measure => simp [intOf]; omega)
      | (have e : tokC s[k] = false := by
           rw [Bool.eq_false_iff, Ne, tokC_iff]; omega
         rw [Exit.noGoto_ret]
         go_ret
         exact ⟨ret_bool (by rw [tokB, all_not s k ‹_› e]; simp), rfl⟩)
      | (have hk' : k = s.size := by omega
         subst hk'
         go_ret
         exact ⟨ret_bool (by rw [take_size] at hall; rw [tokB, hall, Bool.and_true, ByteArray.toList_eq]), rfl⟩)
end Go.Proofs.YtknfoolcbfmpaaaDoor
