/- Whether a route may be, by the program; the closure that looks whether a number is between two; conditions: strings of lengths that a world can hold. -/
import Derived.Test.YthdmibjeomhibaaRd
namespace Go.Proofs.Ythdmibjeomhibaa
set_option linter.unusedSimpArgs false
set_option linter.unusedVariables false
open Go.RowKit
theorem inB_calls (n a b : Int) (w : World) : Calls Try.prog 25 #[.int .i64 n, .int .i64 a, .int .i64 b] w fun e w' => e = .returned (.bool (decide (a ≤ n) && decide (n ≤ b))) ∧ w' = w := by
  by_cases h : a ≤ n
  · go_enter Try.func25, Try.ntmps25
    go_wp2
    go_ret
    exact ⟨ret_bool (by rw [decide_eq_true h]; rfl), rfl⟩
  · go_enter Try.func25, Try.ntmps25
    go_wp2
    go_ret
    exact ⟨ret_bool (by rw [decide_eq_false (by omega)]; rfl), rfl⟩
def rightB (r : Rt) : Bool := plainB (bs r.pre) && ((bs r.pre).head? == some 47) && !(bs r.pre).any (· == 63) && (r.pro.toList.isEmpty || tokB (bs r.pro)) && plainB (bs r.dst)
structure Rt.Ok (r : Rt) : Prop where
  p : r.pre.size ≤ maxLen
  q : r.pro.size ≤ maxLen
  d : r.dst.size ≤ maxLen
theorem contains63 (s : ByteArray) : decide (0 ≤ Lib.indexByte s.data.toList 63) = (bs s).any (· == 63) := by
  rw [(indexByte_any _ _).2]; exact congrArg _ (funext fun x => by rw [Bool.eq_iff_iff]; simp)
set_option maxHeartbeats 1000000 in
theorem right_calls (r : Rt) (w : World) (hr : r.Ok) :
    Calls Try.prog 26 #[r.val] w fun e w' => e = .returned (.bool (rightB r)) ∧ Below w.heap.size w w' := by
  obtain ⟨hp, hq, hd⟩ := hr
  have hv1 := fun w => visible_calls r.pre w hp
  have hv2 := fun w => visible_calls r.dst w hd
  have ht := fun w => Token_calls r.pro w hq
  have hcn := fun w => Try.strings_Contains_one r.pre 63 w
  rw [contains63] at hcn
  have hR : Hid (rightB r = _) := Lib.hid (by rw [rightB])
  by_cases h1 : plainB (bs r.pre) = true
  · have hz : 0 < r.pre.size := by
      rcases Nat.eq_zero_or_pos r.pre.size with h | h
      · rw [List.length_eq_zero_iff.1 ((bs_length r.pre).trans h)] at h1; exact absurd h1 (by decide)
      · exact h
    rw [h1, head_47 r.pre hz] at hR
    rw [h1] at hv1
    clear h1
    generalize plainB (bs r.dst) = p2 at hR hv2
    generalize tokB (bs r.pro) = tk at hR ht
    generalize (bs r.pre).any (· == 63) = cn at hR hcn
    go_enter Try.func26, Try.ntmps26
    go_wp2_with (first
      | (go_at_call 34; ((with_reducible refine (hv1 _).mono ?_); rintro e w' ⟨rfl, rfl⟩))
      | (go_at_call 34; ((with_reducible refine (hv2 _).mono ?_); rintro e w' ⟨rfl, rfl⟩))
      | (go_at_call 36; refine (ht _).mono ?_; rintro e w' ⟨rfl, rfl⟩)
      | (go_at_call 35; refine (hcn _).mono ?_; rintro e w' ⟨rfl, rfl⟩))
    all_goals
      go_ret
      exact ⟨ret_bool (by rw [hR.out]; simp [*]), below_alloc1 _ _⟩
  · have h1' : plainB (bs r.pre) = false := by simpa using h1
    rw [h1'] at hv1 hR
    clear h1 h1'
    go_enter Try.func26, Try.ntmps26
    go_wp2_with (go_at_call 34; refine (hv1 _).mono ?_; rintro e w' ⟨rfl, rfl⟩)
    go_ret
    exact ⟨ret_bool (by rw [hR.out]; rfl), below_alloc1 _ _⟩
end Go.Proofs.Ythdmibjeomhibaa
