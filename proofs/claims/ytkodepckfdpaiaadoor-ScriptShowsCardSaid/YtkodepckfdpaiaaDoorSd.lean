/- Numbers as digits by the document; what leaves a line that is none; bytes of digits; conditions: strings of lengths that a world can hold. -/
import Derived.Test.YtkodepckfdpaiaaDoorSc
import Derived.Test.YtkodepckfdpaiaaDoorShelf
import Derived.WalkLawsBesides
namespace Go.Proofs.YtkodepckfdpaiaaDoor
set_option linter.unusedSimpArgs false
set_option linter.unusedVariables false
open Go.RowKit
theorem itoa_len (n : Nat) (h : n ≤ 4611686018427387904) : (Lib.itoa (n : Int)).length ≤ 100 := by
  rw [itoa_nat]
  have : ∀ k m : Nat, m < 10 ^ (k + 1) → (Lib.decDigits m).length ≤ k + 1 := by
    intro k
    induction k with
    | zero =>
      intro m hm
      rw [Lib.decDigits, dif_pos (by simpa using hm)]; simp
    | succ k ih =>
      intro m hm
      rw [Lib.decDigits]
      split
      · simp
      · rw [List.length_append]
        have := ih (m / 10) (by rw [Nat.pow_succ] at hm; omega)
        simp only [List.length_cons, List.length_nil]
        omega
  have h2 := this 24 n (ten25 h)
  omega
set_option maxRecDepth 100000 in
theorem digits_calls (n : Int) (w : World) (h0 : -4611686018427387904 ≤ n) (h1 : n ≤ 4611686018427387904) :
    Calls Tryd.prog 32 #[.int .i64 n] w fun e w' => e = .returned (.string (mk (Lib.itoa n))) ∧ Below w.heap.size w w' := by
  by_cases hn : n < 0
  · obtain ⟨m, hm⟩ : ∃ m : Nat, -n = m := ⟨n.natAbs, by omega⟩
    have hd := fun w => digits_pos m w (by omega)
    have he : Lib.itoa n = 45 :: Lib.itoa (m : Int) := by
      rw [itoa_nat]
      unfold Lib.itoa
      rw [if_pos hn, show n.natAbs = m by omega]
    have hl := itoa_len m (by omega)
    have HE := Lib.hid (show bs (⟨#[45]⟩ ++ mk (Lib.itoa (m : Int))) = Lib.itoa n by rw [bs_app, bs_mk, he]; rfl)
    have hz : (mk (Lib.itoa (m : Int))).size ≤ 100 := by rw [mk_size]; exact hl
    generalize mk (Lib.itoa (m : Int)) = x at hd HE hz
    clear he hl
    go_enter Tryd.func32, Tryd.ntmps32
    go_wp2_with (go_at_call 32; refine (hd _).mono ?_; rintro e w1 ⟨rfl, hb⟩; have HB := Lib.hid hb; clear hb)
    go_ret
    refine ⟨?_, HB.out⟩
    have : mk (Lib.itoa n) = ⟨#[45]⟩ ++ x := bs_inj ((bs_mk _).trans HE.out.symm)
    rw [this]; rfl
  · obtain ⟨m, rfl⟩ : ∃ m : Nat, n = m := ⟨n.toNat, by omega⟩
    exact digits_pos m w (by omega)
/-- What a line that is none is left by. -/
def wrongP : List PanicEntry := [{ v := .iface 81 (.agg #[]), recovered := false }]
theorem must_yes (w : World) : Calls Tryd.prog 42 #[.bool true] w fun e w' => e = .returned (.tuple #[]) ∧ w' = w := by
  go_enter Tryd.func42, Tryd.ntmps42
  go_wp2
  go_end0
  exact ⟨rfl, rfl⟩
theorem must_no (w : World) : Calls Tryd.prog 42 #[.bool false] w fun e w' => e = .panicked wrongP ∧ w' = w := by
  go_enter Tryd.func42, Tryd.ntmps42
  go_wp2
  exact ⟨rfl, rfl, rfl⟩
theorem idx_hex : ∀ n : Fin 256, (Lib.indexByte hexD (UInt8.ofNat n.val) < 0 ∨ (0 ≤ Lib.indexByte hexD (UInt8.ofNat n.val) ∧ Lib.indexByte hexD (UInt8.ofNat n.val) < 16)) := by decide +kernel
theorem hexIdx_calls (c : UInt8) (w : World) : Calls Tryd.prog 67 #[.string ⟨#[48, 49, 50, 51, 52, 53, 54, 55, 56, 57, 97, 98, 99, 100, 101, 102]⟩, .int .u8 c.toNat] w fun e w' => e = .returned (.int .i64 (Lib.indexByte hexD c)) ∧ w' = w := by
  have h := Tryd.strings_IndexByte ⟨#[48, 49, 50, 51, 52, 53, 54, 55, 56, 57, 97, 98, 99, 100, 101, 102]⟩ (c.toNat : Int) w
  have e : ((c.toNat : Int)).toNat.toUInt8 = c := Lib.byte_back c
  rw [e] at h
  exact h
theorem digit_yes (c x : UInt8) (w : World) (h : digB c = some x) : Calls Tryd.prog 53 #[.int .u8 c.toNat] w fun e w' => e = .returned (.int .u8 x.toNat) ∧ w' = w := by
  have hi := idx_hex ⟨c.toNat, c.toNat_lt⟩
  rw [show UInt8.ofNat (⟨c.toNat, c.toNat_lt⟩ : Fin 256).val = c by simp] at hi
  unfold digB at h
  split at h
  · cases h
  · rename_i hge
    obtain ⟨i, hi2⟩ : ∃ i : Nat, Lib.indexByte hexD c = i := ⟨(Lib.indexByte hexD c).toNat, by omega⟩
    rw [hi2] at h hi hge
    have hib := fun w => hexIdx_calls c w
    rw [hi2] at hib
    have hx : x.toNat = i := by
      have := Option.some.inj h
      rw [← this]; simp; omega
    have hmy := fun w => must_yes w
    have hi16 : i < 16 := by omega
    have HX := Lib.hid hx
    clear h hi hi2 hge hx
    have hw : IntKind.u8.wrap (i : Int) = (i : Int) := by rw [IntKind.wrap_u8]; omega
    go_enter Tryd.func53, Tryd.ntmps53
    go_wp2_with (first
      | (go_at_call 67; refine (hib _).mono ?_; rintro e w' ⟨rfl, rfl⟩)
      | (go_at_call 42; refine (hmy _).mono ?_; rintro e w' ⟨rfl, rfl⟩))
    go_ret
    exact ⟨by rw [HX.out]; rfl, rfl⟩
theorem digit_no (c : UInt8) (w : World) (h : digB c = none) : Calls Tryd.prog 53 #[.int .u8 c.toNat] w fun e w' => e = .panicked wrongP ∧ w' = w := by
  unfold digB at h
  split at h
  · rename_i hlt
    have hib := fun w => hexIdx_calls c w
    have hmn := fun w => must_no w
    generalize Lib.indexByte hexD c = i at hib hlt
    have hd : decide ((0 : Int) ≤ i) = false := decide_eq_false (by omega)
    clear h
    go_enter Tryd.func53, Tryd.ntmps53
    go_wp2_with (first
      | (go_at_call 67; refine (hib _).mono ?_; rintro e w' ⟨rfl, rfl⟩)
      | (go_at_call 42; refine (hmn _).mono ?_; rintro e w' ⟨rfl, rfl⟩))
    exact ⟨rfl, rfl, rfl⟩
  · cases h
end Go.Proofs.YtkodepckfdpaiaaDoor
