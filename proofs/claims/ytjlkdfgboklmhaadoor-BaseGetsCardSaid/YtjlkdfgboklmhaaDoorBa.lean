/- Small functions of layer 2: the letter of a number, the number of a letter, how many letters so many bytes are; every value that the types admit. -/
import Derived.Test.YtjlkdfgboklmhaaDoorA
namespace Go.Proofs.YtjlkdfgboklmhaaDoor
set_option linter.unusedSimpArgs false
set_option linter.unusedVariables false
open Go.RowKit
def letN (n : Nat) : Nat := if n < 26 then 65 + n else if n < 52 then 71 + n else if n < 62 then n - 4 else if n = 62 then 43 else 47
theorem letter_calls (n : Nat) (w : World) (h : n < 256) :
    Calls Tryd.prog 18 #[.int .u8 n] w fun e w' => e = .returned (.int .u8 (letN n)) ∧ w' = w := by
  go_enter Tryd.func18, Tryd.ntmps18
  go_wp2
  all_goals
    go_ret
    refine ⟨ret_int ?_, rfl⟩
    try simp only [beq_iff_eq, beq_eq_false_iff_ne, ne_eq] at *
    unfold letN
    repeat' split
    all_goals omega
theorem ret_vb {a a' : Int} {b b' : Bool} (h1 : a = a') (h2 : b = b') : Ending.returned (.tuple #[.int .u32 a, .bool b]) = .returned (.tuple #[.int .u32 a', .bool b']) := by rw [h1, h2]
def valN (c : Int) : Int := if 65 ≤ c ∧ c ≤ 90 then c - 65 else if 97 ≤ c ∧ c ≤ 122 then c - 71 else if 48 ≤ c ∧ c ≤ 57 then c + 4 else if c = 43 then 62 else 63
def valB (c : Int) : Bool := decide (65 ≤ c ∧ c ≤ 90) || decide (97 ≤ c ∧ c ≤ 122) || decide (48 ≤ c ∧ c ≤ 57) || decide (c = 43) || decide (c = 47)
theorem value_calls (c : Int) (w : World) (h0 : -2147483648 ≤ c) (h1 : c ≤ 2147483647) :
    Calls Tryd.prog 23 #[.int .i32 c] w fun e w' => e = .returned (.tuple #[.int .u32 (valN c), .bool (valB c)]) ∧ w' = w := by
  go_enter Tryd.func23, Tryd.ntmps23
  go_wp2
  all_goals
    go_ret2
    refine ⟨ret_vb ?_ ?_, rfl⟩
    · try simp only [beq_iff_eq, beq_eq_false_iff_ne, ne_eq] at *
      unfold valN
      repeat' split
      all_goals omega
    · try simp only [beq_iff_eq, beq_eq_false_iff_ne, ne_eq] at *
      unfold valB
      rw [Bool.eq_iff_iff]
      try simp only [Bool.or_eq_true, decide_eq_true_eq, beq_iff_eq, true_iff]
      omega
def sizeN (n : Int) : Int := if n < 1 ∨ 1073741824 < n then 0 else (n + 2) / 3 * 4
theorem Size_calls (n : Int) (w : World) (h0 : -9223372036854775808 ≤ n) (h1 : n ≤ 9223372036854775807) :
    Calls Tryd.prog 15 #[.int .i64 n] w fun e w' => e = .returned (.int .i64 (sizeN n)) ∧ w' = w := by
  by_cases hn : n < 1 ∨ 1073741824 < n
  · go_enter Tryd.func15, Tryd.ntmps15
    go_wp2
    all_goals
      go_ret
      exact ⟨ret_int (by unfold sizeN; rw [if_pos hn]), rfl⟩
  · have hq : Int.tdiv (n + 2) 3 = (n + 2) / 3 := Int.tdiv_eq_ediv_of_nonneg (by omega)
    have hm := Lib.hid hn
    go_enter Tryd.func15, Tryd.ntmps15
    go_wp2
    all_goals
      go_ret
      refine ⟨ret_int ?_, rfl⟩
      unfold sizeN
      rw [if_neg hn]
end Go.Proofs.YtjlkdfgboklmhaaDoor
