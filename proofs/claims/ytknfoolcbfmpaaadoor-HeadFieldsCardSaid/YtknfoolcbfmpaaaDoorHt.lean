/- The document's value; conditions: strings of lengths that a world can hold. -/
import Derived.Test.YtknfoolcbfmpaaaDoorHs
namespace Go.Proofs.YtknfoolcbfmpaaaDoor
set_option linter.unusedSimpArgs false
set_option linter.unusedVariables false
open Go.RowKit
theorem bs_head (s : ByteArray) (h : 0 < s.size) : (bs s).head? = some s[0] := by
  rw [List.head?_eq_getElem?]; exact bs_get? s 0 h
theorem bs_last (s : ByteArray) (h : s.size - 1 < s.size) : (bs s).getLast? = some (s[s.size - 1]'h) := by
  rw [List.getLast?_eq_getElem?, bs_length]; exact bs_get? s _ h
theorem ne32 (c : UInt8) : ((c.toNat : Int) != 32) = (some c != some 32) := by
  rw [Bool.eq_iff_iff, bne_iff_ne, bne_iff_ne]
  constructor
  · intro h e; apply h; rw [Option.some.inj e]; rfl
  · intro h e
    apply h
    rw [show c = 32 from UInt8.toNat_inj.1 (by have : c.toNat = 32 := by omega
                                               rw [this]; rfl)]
set_option maxHeartbeats 1000000 in
theorem refvalue_calls (s : ByteArray) (w : World) (hs : s.size ≤ maxLen) :
    Calls Tryd.prog 51 #[.string s] w fun e w' => e = .returned (.bool (valueB (bs s))) ∧ w' = w := by
  have hp := fun w => plain_calls s 32 w hs
  have HV : Hid (valueB (bs s) = (within 32 126 (bs s) && endsOk (bs s))) := Lib.hid rfl
  unfold maxLen at hs
  generalize within 32 126 (bs s) = q at hp HV
  change ∀ w, Calls _ _ #[.string s, .int .u8 32] w _ at hp
  cases q
  · go_enter Tryd.func51, Tryd.ntmps51
    go_wp2_with (go_at_call 50; refine (hp _).mono ?_; rintro e w1 ⟨rfl, rfl⟩)
    go_ret
    exact ⟨ret_bool (by rw [HV.out]; rfl), rfl⟩
  · by_cases h0 : 0 < s.size
    · have he : s.toList.isEmpty = false := by
        rw [ByteArray.toList_eq]
        refine (List.isEmpty_eq_false_iff).2 fun e => ?_
        have := bs_length s
        unfold bs at this
        rw [e] at this; simp at this; omega
      have hl1 : s.size - 1 < s.size := by omega
      have HE : Hid (endsOk (bs s) = (((s[0].toNat : Int) != 32) && (((s[s.size - 1]'hl1).toNat : Int) != 32))) := Lib.hid (by
        unfold endsOk
        rw [bs_head s h0, bs_last s hl1, ne32, ne32]
        have : (bs s).isEmpty = false := by
          rw [List.isEmpty_eq_false_iff]
          intro e
          have := bs_length s
          rw [e] at this; simp at this; omega
        rw [this, Bool.false_or])
      generalize hq1 : ((s[0].toNat : Int) != 32) = q1 at HE
      generalize hq2 : (((s[s.size - 1]'hl1).toNat : Int) != 32) = q2 at HE
      cases q1
      · go_enter Tryd.func51, Tryd.ntmps51
        go_wp2_with (go_at_call 50; refine (hp _).mono ?_; rintro e w1 ⟨rfl, rfl⟩)
        go_ret
        exact ⟨ret_bool (by rw [HV.out, HE.out]; rfl), rfl⟩
      · go_enter Tryd.func51, Tryd.ntmps51
        go_wp2_with (go_at_call 50; refine (hp _).mono ?_; rintro e w1 ⟨rfl, rfl⟩)
        go_ret
        exact ⟨ret_bool (by rw [HV.out, HE.out]; simp [hq2]), rfl⟩
    · have he : s.toList.isEmpty = true := by
        rw [ByteArray.toList_eq]
        refine List.isEmpty_iff.2 (List.eq_nil_of_length_eq_zero ?_)
        have := bs_length s
        unfold bs at this
        omega
      have HE : Hid (endsOk (bs s) = true) := Lib.hid (by
        have : bs s = [] := List.eq_nil_of_length_eq_zero (by rw [bs_length]; omega)
        rw [this]; rfl)
      go_enter Tryd.func51, Tryd.ntmps51
      go_wp2_with (go_at_call 50; refine (hp _).mono ?_; rintro e w1 ⟨rfl, rfl⟩)
      go_ret
      exact ⟨ret_bool (by rw [HV.out, HE.out]; rfl), rfl⟩
end Go.Proofs.YtknfoolcbfmpaaaDoor
