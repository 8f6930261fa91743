/- The law BaseSizes: of every number, it answers yes. -/
import Derived.Test.YtjlkdfgboklmhaaDoorBf
namespace Go.Proofs.YtjlkdfgboklmhaaDoor
set_option linter.unusedSimpArgs false
set_option linter.unusedVariables false
open Go.RowKit
set_option maxRecDepth 100000 in
set_option maxHeartbeats 2000000 in
theorem BaseSizes_calls (n : Int) (w : World) (h0 : -9223372036854775808 ≤ n) (h1 : n ≤ 9223372036854775807) :
    Calls Tryd.prog 6 #[.int .i64 n] w fun e w' => e = .returned (.bool true) ∧ Below w.heap.size w w' := by
  have hsz := fun w => Size_calls n w h0 h1
  by_cases hn : n < 1 ∨ 1073741824 < n
  · have hz : sizeN n = 0 := by unfold sizeN; rw [if_pos hn]
    rw [hz] at hsz
    go_enter Tryd.func6, Tryd.ntmps6
    go_wp2_with (first
      | (go_at_call 11; refine (awake_calls _).mono ?_; rintro e w1 ⟨rfl, hb1⟩; have H1 := Lib.hid hb1; clear hb1)
      | (go_at_call 15; refine (hsz _).mono ?_; rintro e w' ⟨rfl, hw⟩; rw [hw]; clear hw w'))
    all_goals first
      | (exfalso; omega)
      | (go_ret; exact ⟨rfl, H1.out⟩)
  · have hn1 : 1 ≤ n := by omega
    have hn2 : n ≤ 1073741824 := by omega
    have hm : sizeN n = (n + 2) / 3 * 4 := by unfold sizeN; rw [if_neg hn]
    obtain ⟨q, hq⟩ : ∃ q : Nat, (n + 2) / 3 = q := ⟨((n + 2) / 3).toNat, by omega⟩
    have hq1 : 3 * (q : Int) ≥ n ∧ 3 * (q : Int) ≤ n + 2 := by omega
    rw [hq] at hm
    rw [hm] at hsz
    clear hn hm hq
    go_enter Tryd.func6, Tryd.ntmps6
    go_wp2_with (first
      | (go_at_call 11; refine (awake_calls _).mono ?_; rintro e w1 ⟨rfl, hb1⟩; have H1 := Lib.hid hb1; clear hb1)
      | (go_at_call 15; refine (hsz _).mono ?_; rintro e w' ⟨rfl, hw⟩; rw [hw]; clear hw w'))
    go_ret
    exact ⟨ret_bool (decide_eq_true (by omega)), H1.out⟩
end Go.Proofs.YtjlkdfgboklmhaaDoor
