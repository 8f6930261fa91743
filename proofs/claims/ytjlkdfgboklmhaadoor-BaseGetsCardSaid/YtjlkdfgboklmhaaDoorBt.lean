/- pendentiveref02.number: the place of a letter, or none; every byte. -/
import Derived.Test.YtjlkdfgboklmhaaDoorBs
namespace Go.Proofs.YtjlkdfgboklmhaaDoor
set_option linter.unusedSimpArgs false
set_option linter.unusedVariables false
open Go.RowKit
theorem let_at_all : ∀ n : Fin 64, (#[65, 66, 67, 68, 69, 70, 71, 72, 73, 74, 75, 76, 77, 78, 79, 80, 81, 82, 83, 84, 85, 86, 87, 88, 89, 90, 97, 98, 99, 100, 101, 102, 103, 104, 105, 106, 107, 108, 109, 110, 111, 112, 113, 114, 115, 116, 117, 118, 119, 120, 121, 122, 48, 49, 50, 51, 52, 53, 54, 55, 56, 57, 43, 47] : Array UInt8)[n.val]?.getD 0 = L n.val := by decide +kernel
theorem let_index (n : Nat) (h : n < 64) (w : World) : (Instr.index 9 (.string ⟨#[65, 66, 67, 68, 69, 70, 71, 72, 73, 74, 75, 76, 77, 78, 79, 80, 81, 82, 83, 84, 85, 86, 87, 88, 89, 90, 97, 98, 99, 100, 101, 102, 103, 104, 105, 106, 107, 108, 109, 110, 111, 112, 113, 114, 115, 116, 117, 118, 119, 120, 121, 122, 48, 49, 50, 51, 52, 53, 54, 55, 56, 57, 43, 47]⟩) (.int .i64 (n : Int))).run Tryd.prog w = .ok (.int .u8 (letN n)) w := by
  rw [run_index_string (P := Tryd.prog) w 9 ⟨#[65, 66, 67, 68, 69, 70, 71, 72, 73, 74, 75, 76, 77, 78, 79, 80, 81, 82, 83, 84, 85, 86, 87, 88, 89, 90, 97, 98, 99, 100, 101, 102, 103, 104, 105, 106, 107, 108, 109, 110, 111, 112, 113, 114, 115, 116, 117, 118, 119, 120, 121, 122, 48, 49, 50, 51, 52, 53, 54, 55, 56, 57, 43, 47]⟩ .i64 (n : Int) Tryd.underlying9]
  have hs : (⟨#[65, 66, 67, 68, 69, 70, 71, 72, 73, 74, 75, 76, 77, 78, 79, 80, 81, 82, 83, 84, 85, 86, 87, 88, 89, 90, 97, 98, 99, 100, 101, 102, 103, 104, 105, 106, 107, 108, 109, 110, 111, 112, 113, 114, 115, 116, 117, 118, 119, 120, 121, 122, 48, 49, 50, 51, 52, 53, 54, 55, 56, 57, 43, 47]⟩ : ByteArray).size = 64 := rfl
  rw [dif_pos ⟨by omega, by rw [hs]; omega⟩]
  have e := let_at_all ⟨n, h⟩
  have e2 : ((⟨#[65, 66, 67, 68, 69, 70, 71, 72, 73, 74, 75, 76, 77, 78, 79, 80, 81, 82, 83, 84, 85, 86, 87, 88, 89, 90, 97, 98, 99, 100, 101, 102, 103, 104, 105, 106, 107, 108, 109, 110, 111, 112, 113, 114, 115, 116, 117, 118, 119, 120, 121, 122, 48, 49, 50, 51, 52, 53, 54, 55, 56, 57, 43, 47]⟩ : ByteArray)[((n : Int)).toNat]'(by rw [hs]; omega)) = L n := by
    rw [← e]
    show (#[65, 66, 67, 68, 69, 70, 71, 72, 73, 74, 75, 76, 77, 78, 79, 80, 81, 82, 83, 84, 85, 86, 87, 88, 89, 90, 97, 98, 99, 100, 101, 102, 103, 104, 105, 106, 107, 108, 109, 110, 111, 112, 113, 114, 115, 116, 117, 118, 119, 120, 121, 122, 48, 49, 50, 51, 52, 53, 54, 55, 56, 57, 43, 47] : Array UInt8)[((n : Int)).toNat]'_ = _
    rw [Array.getElem?_eq_getElem (show n < (#[65, 66, 67, 68, 69, 70, 71, 72, 73, 74, 75, 76, 77, 78, 79, 80, 81, 82, 83, 84, 85, 86, 87, 88, 89, 90, 97, 98, 99, 100, 101, 102, 103, 104, 105, 106, 107, 108, 109, 110, 111, 112, 113, 114, 115, 116, 117, 118, 119, 120, 121, 122, 48, 49, 50, 51, 52, 53, 54, 55, 56, 57, 43, 47] : Array UInt8).size from h)]
    rfl
  rw [e2]
  unfold L
  rw [u8_let]
set_option maxRecDepth 100000 in
set_option maxHeartbeats 2000000 in
theorem number_calls (c : Nat) (w : World) (hc : c < 256) :
    Calls Tryd.prog 24 #[.int .u8 c] w fun e w' => e = .returned (.int .i64 (numB c)) ∧ w' = w := by
  go_enter Tryd.func24, Tryd.ntmps24
  go_wp2
  go_loopg [3] 64 (fun gh v3 wx => ∃ i : Nat, v3 = .int .i64 i ∧ i + gh = 64 ∧ Hid (∀ j, j < i → letN j ≠ c) ∧ wx = w)
  case atStart => exact ⟨0, rfl, by omega, Lib.hid (fun j hj => absurd hj (Nat.not_lt_zero j)), rfl⟩
  case round =>
    obtain ⟨i, rfl, hi, hall, rfl⟩ := hrel
    by_cases hlt : i < 64
    · have hix := fun w => let_index i hlt w
      by_cases he : letN i = c
      · have hd : ((letN i : Int) == (c : Int)) = true := by rw [he]; simp
        have HR : Hid (numB c = i) := Lib.hid (by
          have hv := val_let i hlt
          rw [he] at hv
          unfold numB; rw [hv.2, if_pos rfl, hv.1])
        clear he
        go_wp2
        go_ret
        exact ⟨ret_int HR.out.symm, rfl⟩
      · have hd : ((letN i : Int) == (c : Int)) = false := beq_eq_false_iff_ne.2 (by omega)
        have HE := Lib.hid he
        clear he
        go_wp2
        go_roundg (64 - (i + 1))
        case measure => omega
        case rel =>
          refine ⟨i + 1, by go_num, by omega, Lib.hid fun j hj => ?_, rfl⟩
          rcases Nat.lt_succ_iff_lt_or_eq.1 hj with h | rfl
          · exact hall.out j h
          · exact HE.out
    · have HR : Hid (numB c = -1) := Lib.hid (by
        unfold numB
        cases hv : valB c with
        | false => rfl
        | true =>
          exfalso
          obtain ⟨x, hx, hxl⟩ := valN_range (c : Int)
          have h1 := let_val c hv
          rw [hx] at h1
          exact hall.out x (by omega) h1)
      go_wp2
      go_ret
      exact ⟨ret_int HR.out.symm, rfl⟩
end Go.Proofs.YtjlkdfgboklmhaaDoor
