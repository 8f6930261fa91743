/- Tell, and whether the package is awake, by the program; conditions: a string of a length that a world can hold; the world holds what the library's numbers lean on. -/
import Derived.Test.YtkodepckfdpaiaaDoorSq
import Derived.Lib.ItoaLen
namespace Go.Proofs.YtkodepckfdpaiaaDoor
set_option linter.unusedSimpArgs false
set_option linter.unusedVariables false
open Go.RowKit
/-- What Tell tells. -/
def tellB (e n : Int) (d : By) : By := if e ≠ 0 then [101, 114, 114, 111, 114, 32] ++ Lib.itoa e ++ [10] else Lib.itoa n ++ (if d = [] then [] else 32 :: hexB d) ++ [10]
set_option maxRecDepth 100000 in
theorem Tell_calls (e n : Int) (d : ByteArray) (w : World) (he0 : -9223372036854775808 ≤ e) (he1 : e ≤ 9223372036854775807) (hn0 : -9223372036854775808 ≤ n) (hn1 : n ≤ 9223372036854775807) (hd : d.size ≤ 100000) (he : Env w) :
    Calls Tryd.prog 17 #[.agg #[.int .i64 e, .int .i64 n, .string d]] w fun r w' => r = .returned (.string (mk (tellB e n (bs d)))) ∧ Below w.heap.size w w' := by
  obtain ⟨W1, hW1⟩ : ∃ W1, W1 = w.alloc (.cells #[.int .i64 e, .int .i64 n, .string d] 38 (0, 0)) := ⟨_, rfl⟩
  have HB : Hid (Below w.heap.size w W1) := Lib.hid (hW1 ▸ below_alloc1 w _)
  have HK : Hid (Blk W1 w.heap.size #[.int .i64 e, .int .i64 n, .string d] 38) := Lib.hid (hW1 ▸ Blk.new' w _ _ rfl)
  have HEN := Lib.hid (he.below HB.out)
  clear he
  have f0 : W1.cell? ⟨w.heap.size, 0, none⟩ = some (.int .i64 e) := (HK.out.cell 0).trans rfl
  have f1 : W1.cell? ⟨w.heap.size, 1, none⟩ = some (.int .i64 n) := (HK.out.cell 1).trans rfl
  have f2 : W1.cell? ⟨w.heap.size, 2, none⟩ = some (.string d) := (HK.out.cell 2).trans rfl
  have hie := fun w' (h : Env w') => Itoa_calls e w' he0 he1 h
  have hin := fun w' (h : Env w') => Itoa_calls n w' hn0 hn1 h
  have hhx := fun w' => hex_calls d w' hd
  have HT1 : Hid (e ≠ 0 → (⟨#[101, 114, 114, 111, 114, 32]⟩ ++ mk (Lib.itoa e)) ++ ⟨#[10]⟩ = mk (tellB e n (bs d))) := Lib.hid fun h => bs_inj (by
    unfold tellB
    rw [if_pos h, bs_app, bs_app, bs_mk, bs_mk])
  have HT2 : Hid (e = 0 → bs d = [] → mk (Lib.itoa n) ++ ⟨#[10]⟩ = mk (tellB e n (bs d))) := Lib.hid fun h h2 => bs_inj (by
    unfold tellB
    rw [if_neg (by simpa using h), if_pos h2, bs_app, bs_mk, bs_mk, List.append_nil])
  have HT3 : Hid (e = 0 → bs d ≠ [] → (mk (Lib.itoa n) ++ (⟨#[32]⟩ ++ mk (hexB (bs d)))) ++ ⟨#[10]⟩ = mk (tellB e n (bs d))) := Lib.hid fun h h2 => bs_inj (by
    unfold tellB
    rw [if_neg (by simpa using h), if_neg h2, bs_app, bs_app, bs_app, bs_mk, bs_mk, bs_mk]; rfl)
  have hxz : (mk (Lib.itoa e)).size ≤ 21 := by rw [mk_size]; exact Lib.itoa_length_le e he0 he1
  have hyz : (mk (Lib.itoa n)).size ≤ 21 := by rw [mk_size]; exact Lib.itoa_length_le n hn0 hn1
  have hzz : (mk (hexB (bs d))).size ≤ 200001 := by rw [mk_size, hexB_len, bs_length]; omega
  generalize mk (tellB e n (bs d)) = T at *
  generalize mk (Lib.itoa e) = X at *
  generalize mk (Lib.itoa n) = Y at *
  generalize mk (hexB (bs d)) = Z at *
  have hem : d.toList.isEmpty = (bs d).isEmpty := isEmpty_iff d
  go_enter Tryd.func17, Tryd.ntmps17
  go_upto_region 1 with (fail)
  rw [← hW1]
  clear hW1 HK
  by_cases h0 : e = 0
  · rcases hb : bs d with _ | ⟨c, r⟩
    · have hq : d.toList.isEmpty = true := by rw [hem, hb]; rfl
      have HTT := Lib.hid (HT2.out h0 hb)
      have hq0 : (e == 0) = true := by rw [beq_iff_eq]; exact h0
      clear HT1 HT2 HT3 hem hb
      go_wp2_with (go_at_call 30; refine (hin _ HEN.out).mono ?_; rintro r w3 ⟨rfl, hb⟩; have HB3 := Lib.hid (bt HB.out hb); clear f0 f1; have f2 := ((bcell hb).1 _ 2 (cell_lt f2)).trans f2; clear hb)
      go_ret
      exact ⟨by rw [← HTT.out]; rfl, HB3.out⟩
    · have hq : d.toList.isEmpty = false := by rw [hem, hb]; rfl
      have HTT := Lib.hid (HT3.out h0 (by rw [hb]; simp))
      have hq0 : (e == 0) = true := by rw [beq_iff_eq]; exact h0
      clear HT1 HT2 HT3 hem hb
      go_wp2_with (first
        | (go_at_call 30; refine (hin _ HEN.out).mono ?_; rintro r w3 ⟨rfl, hb⟩; have HB3 := Lib.hid (bt HB.out hb); clear f0 f1; have f2 := ((bcell hb).1 _ 2 (cell_lt f2)).trans f2; clear hb)
        | (go_at_call 31; refine (hhx _).mono ?_; rintro r w4 ⟨rfl, hb⟩; have HB4 := Lib.hid (bt HB3.out hb); clear hb))
      go_ret
      exact ⟨by rw [← HTT.out]; rfl, HB4.out⟩
  · have HTT := Lib.hid (HT1.out h0)
    have hq0 : (e == 0) = false := by rw [beq_eq_false_iff_ne]; exact h0
    clear HT1 HT2 HT3 hem
    go_wp2_with (go_at_call 30; refine (hie _ HEN.out).mono ?_; rintro r w3 ⟨rfl, hb⟩; have HB3 := Lib.hid (bt HB.out hb); clear hb)
    go_ret
    exact ⟨by rw [← HTT.out]; rfl, HB3.out⟩
end Go.Proofs.YtkodepckfdpaiaaDoor
