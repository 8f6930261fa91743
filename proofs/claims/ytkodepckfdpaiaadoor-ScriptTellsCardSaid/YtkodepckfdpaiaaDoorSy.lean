/- What is told, is told as the document says: the law; conditions: the number and the string are within the types; the world holds what the library's numbers lean on. -/
import Derived.Test.YtkodepckfdpaiaaDoorSx
namespace Go.Proofs.YtkodepckfdpaiaaDoor
set_option linter.unusedSimpArgs false
set_option linter.unusedVariables false
open Go.RowKit
/-- Something told. -/
structure Td where
  e : Int
  n : Int
  d : ByteArray
@[reducible] def Td.val (t : Td) : Value := .agg #[.int .i64 t.e, .int .i64 t.n, .string t.d]
structure Td.In (t : Td) : Prop where
  ze : -9223372036854775808 ≤ t.e ∧ t.e ≤ 9223372036854775807
  zn : -9223372036854775808 ≤ t.n ∧ t.n ≤ 9223372036854775807
  zd : t.d.size ≤ maxLen
set_option maxRecDepth 100000 in
set_option maxHeartbeats 800000 in
theorem Tells_calls (t : Td) (w : World) (ht : t.In) (he : Env w) :
    Calls Tryd.prog 5 #[t.val] w fun r w' => r = .returned (.bool true) ∧ Below w.heap.size w w' := by
  obtain ⟨e, n, d⟩ := t
  obtain ⟨⟨he0, he1⟩, ⟨hn0, hn1⟩, hdz⟩ := ht
  simp only at he0 he1 hn0 hn1 hdz
  obtain ⟨W1, hW1⟩ : ∃ W1, W1 = w.alloc (.cells #[.int .i64 e, .int .i64 n, .string d] 38 (0, 0)) := ⟨_, rfl⟩
  have HB : Hid (Below w.heap.size w W1) := Lib.hid (hW1 ▸ below_alloc1 w _)
  have HK : Hid (Blk W1 w.heap.size #[.int .i64 e, .int .i64 n, .string d] 38) := Lib.hid (hW1 ▸ Blk.new' w _ 38 rfl)
  have f0 : W1.cell? ⟨w.heap.size, 0, none⟩ = some (.int .i64 e) := (HK.out.cell 0).trans rfl
  have f1 : W1.cell? ⟨w.heap.size, 1, none⟩ = some (.int .i64 n) := (HK.out.cell 1).trans rfl
  have f2 : W1.cell? ⟨w.heap.size, 2, none⟩ = some (.string d) := (HK.out.cell 2).trans rfl
  have HEN := Lib.hid he
  have haw := fun w' (h : Env w') => awake_calls w' h
  clear he
  go_enter Tryd.func5, Tryd.ntmps5
  go_upto_region 1 with (fail)
  rw [← hW1]
  clear hW1 HK
  by_cases hq : (2000 < d.size ∨ n < -1099511627776) ∨ e < -1099511627776
  · go_wp2_with (go_at_call 9; first | (refine (haw _ (HEN.out.below HB.out)).mono ?_; rintro r w3 ⟨rfl, hb⟩; have HB3 := Lib.hid (bt HB.out hb); have f0 := ((bcell hb).1 _ 0 (cell_lt f0)).trans f0; have f1 := ((bcell hb).1 _ 1 (cell_lt f1)).trans f1; have f2 := ((bcell hb).1 _ 2 (cell_lt f2)).trans f2; clear hb HB; have HB := HB3; clear HB3))
    all_goals
      go_ret
      exact ⟨rfl, HB.out⟩
  · have hw1 : d.size ≤ 100000 := by omega
    have htl := fun w' (h : Env w') => Tell_calls e n d w' he0 he1 hn0 hn1 hw1 h
    have hrt := fun w' => refTell_calls e n d w' (by omega) he1 (by omega) hn1 hw1
    generalize mk (tellB e n (bs d)) = T at htl hrt
    have hst : (T.toList == T.toList) = true := by rw [str_beq]; exact decide_eq_true rfl
    have q1 : decide ((2000 : Int) < d.size) = false := decide_eq_false (by omega)
    have q2 : decide (n < -1099511627776) = false := decide_eq_false (by omega)
    have q3 : decide (e < -1099511627776) = false := decide_eq_false (by omega)
    clear hq
    go_upto_region 3 with (go_at_call 9; refine (haw _ (HEN.out.below HB.out)).mono ?_; rintro r w3 ⟨rfl, hb⟩; have HB3 := Lib.hid (bt HB.out hb); have f0 := ((bcell hb).1 _ 0 (cell_lt f0)).trans f0; have f1 := ((bcell hb).1 _ 1 (cell_lt f1)).trans f1; have f2 := ((bcell hb).1 _ 2 (cell_lt f2)).trans f2; clear hb HB; have HB := HB3; clear HB3)
    have hbt : ∀ {a b c : World}, Below a.heap.size a b → Below b.heap.size b.drew c → Below a.heap.size a c := fun h k => (below_drew1 h).trans (k.mono h.size)
    go_region_law (first
      | (go_simp; go_at_call 17; first | (refine (htl _ (HEN.out.below HB.out)).mono ?_; rintro r w4 ⟨rfl, hb⟩) | (refine (htl _ (HEN.out.below (below_drew1 HB.out))).mono ?_; rintro r w4 ⟨rfl, hb⟩); first | have HB := Lib.hid (bt HB.out hb) | have HB := Lib.hid (hbt HB.out hb); have f0 := ((bcell hb).1 _ 0 (cell_lt f0)).trans f0; have f1 := ((bcell hb).1 _ 1 (cell_lt f1)).trans f1; have f2 := ((bcell hb).1 _ 2 (cell_lt f2)).trans f2; clear hb)
      | (go_simp; go_at_call 18; refine (hrt _).mono ?_; rintro r w5 ⟨rfl, hb⟩; first | have HB := Lib.hid (bt HB.out hb) | have HB := Lib.hid (hbt HB.out hb); have f0 := ((bcell hb).1 _ 0 (cell_lt f0)).trans f0; have f1 := ((bcell hb).1 _ 1 (cell_lt f1)).trans f1; have f2 := ((bcell hb).1 _ 2 (cell_lt f2)).trans f2; clear hb))
    all_goals
      go_wp2
      go_ret
      exact ⟨rfl, HB.out⟩
end Go.Proofs.YtkodepckfdpaiaaDoor
