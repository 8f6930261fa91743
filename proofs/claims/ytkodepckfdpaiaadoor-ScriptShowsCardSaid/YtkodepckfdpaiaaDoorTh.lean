/- Whether a deed has a text, by the document, whole; no condition. -/
import Derived.Test.YtkodepckfdpaiaaDoorTb
namespace Go.Proofs.YtkodepckfdpaiaaDoor
set_option linter.unusedSimpArgs false
set_option linter.unusedVariables false
open Go.RowKit
set_option maxRecDepth 100000 in
set_option maxHeartbeats 1600000 in
theorem refCheck_out (d : Dd) (w : World) (hb : ¬ Bnd d) :
    Calls Tryd.prog 12 #[d.val] w fun e w' => e = .returned (.bool (checkD d.dp)) ∧ Below w.heap.size w w' := by
  rw [chk_out hb]
  have HNB : Hid (d.i < 0 ∨ 1000000 < d.i ∨ d.n < 0 ∨ 1000000 < d.n ∨ d.s < 0 ∨ 1 < d.s ∨ 2048 < (d.d.size : Int)) := Lib.hid (by
    rcases Int.lt_or_le d.i 0 with h | h1
    · exact .inl h
    rcases Int.lt_or_le 1000000 d.i with h | h2
    · exact .inr (.inl h)
    rcases Int.lt_or_le d.n 0 with h | h3
    · exact .inr (.inr (.inl h))
    rcases Int.lt_or_le 1000000 d.n with h | h4
    · exact .inr (.inr (.inr (.inl h)))
    rcases Int.lt_or_le d.s 0 with h | h5
    · exact .inr (.inr (.inr (.inr (.inl h))))
    rcases Int.lt_or_le 1 d.s with h | h6
    · exact .inr (.inr (.inr (.inr (.inr (.inl h)))))
    rcases Int.lt_or_le 2048 (d.d.size : Int) with h | h7
    · exact .inr (.inr (.inr (.inr (.inr (.inr h)))))
    exact absurd ⟨h1, h2, h3, h4, h5, h6, by omega⟩ hb)
  obtain ⟨W1, hW1⟩ : ∃ W1, W1 = w.alloc (.cells d.cells 27 (0, 0)) := ⟨_, rfl⟩
  have HB1 : Hid (Below w.heap.size w W1) := Lib.hid (hW1 ▸ below_alloc1 w _)
  have HAT : Hid (d.At W1 w.heap.size) := Lib.hid (hW1 ▸ d.box (Blk.new' w _ 27 rfl))
  obtain ⟨k, i, s, n, q, y⟩ := d
  simp only at HNB
  clear hb
  go_enter Tryd.func12, Tryd.ntmps12
  go_upto_region 1 with (fail)
  rw [← hW1]
  clear hW1
  obtain ⟨f0, f1, f2, f3, f4, f5⟩ := HAT.out
  simp only at f0 f1 f2 f3 f4 f5
  by_cases h1 : i < 0
  · have q1 : decide (i < 0) = true := decide_eq_true h1
    have hm := Lib.hid h1
    clear h1
    go_wp2
    go_ret
    exact ⟨rfl, HB1.out⟩
  have q1 : decide (i < 0) = false := decide_eq_false h1
  have HH1 := Lib.hid h1
  clear h1
  by_cases h2 : 1000000 < i
  · have q2 : decide (1000000 < i) = true := decide_eq_true h2
    have hm := Lib.hid h2
    clear h2
    go_wp2
    go_ret
    exact ⟨rfl, HB1.out⟩
  have q2 : decide (1000000 < i) = false := decide_eq_false h2
  have HH2 := Lib.hid h2
  clear h2
  by_cases h3 : n < 0
  · have q3 : decide (n < 0) = true := decide_eq_true h3
    have hm := Lib.hid h3
    clear h3
    go_wp2
    go_ret
    exact ⟨rfl, HB1.out⟩
  have q3 : decide (n < 0) = false := decide_eq_false h3
  have HH3 := Lib.hid h3
  clear h3
  by_cases h4 : 1000000 < n
  · have q4 : decide (1000000 < n) = true := decide_eq_true h4
    have hm := Lib.hid h4
    clear h4
    go_wp2
    go_ret
    exact ⟨rfl, HB1.out⟩
  have q4 : decide (1000000 < n) = false := decide_eq_false h4
  have HH4 := Lib.hid h4
  clear h4
  by_cases h5 : s < 0
  · have q5 : decide (s < 0) = true := decide_eq_true h5
    have hm := Lib.hid h5
    clear h5
    go_wp2
    go_ret
    exact ⟨rfl, HB1.out⟩
  have q5 : decide (s < 0) = false := decide_eq_false h5
  have HH5 := Lib.hid h5
  clear h5
  by_cases h6 : 1 < s
  · have q6 : decide (1 < s) = true := decide_eq_true h6
    have hm := Lib.hid h6
    clear h6
    go_wp2
    go_ret
    exact ⟨rfl, HB1.out⟩
  have q6 : decide (1 < s) = false := decide_eq_false h6
  have HH6 := Lib.hid h6
  clear h6
  by_cases h7 : 2048 < (y.size : Int)
  · have q7 : decide (2048 < (y.size : Int)) = true := decide_eq_true h7
    have hm := Lib.hid h7
    clear h7
    go_wp2
    go_ret
    exact ⟨rfl, HB1.out⟩
  have q7 : decide (2048 < (y.size : Int)) = false := decide_eq_false h7
  have HH7 := Lib.hid h7
  clear h7
  exfalso
  rcases HNB.out with h | h | h | h | h | h | h
  · exact HH1.out h
  · exact HH2.out h
  · exact HH3.out h
  · exact HH4.out h
  · exact HH5.out h
  · exact HH6.out h
  · exact HH7.out h
theorem kind_ne {k : ByteArray} {c : By} (h : bs k ≠ c) : (k.toList == c) = false := by
  rw [toList_bs]
  exact beq_eq_false_iff_ne.2 h
set_option maxRecDepth 100000 in
set_option maxHeartbeats 1600000 in
theorem refCheck_none (k : ByteArray) (i s n : Int) (q : Bool) (y : ByteArray) (w : World) (hb : Bnd ⟨k, i, s, n, q, y⟩) (hw : whatOf (bs k) = none) :
    Calls Tryd.prog 12 #[(⟨k, i, s, n, q, y⟩ : Dd).val] w fun e w' => e = .returned (.bool (checkD (⟨k, i, s, n, q, y⟩ : Dd).dp)) ∧ Below w.heap.size w w' := by
  have hno : checkD (⟨k, i, s, n, q, y⟩ : Dd).dp = false := by
    unfold checkD
    rw [show whatOf (⟨k, i, s, n, q, y⟩ : Dd).dp.k = none from hw]
  rw [hno]
  obtain ⟨b1, b2, b3, b4, b5, b6, b7⟩ := hb
  simp only at b1 b2 b3 b4 b5 b6 b7
  have hne : bs k ≠ kAccept ∧ bs k ≠ kFeed ∧ bs k ≠ kTake ∧ bs k ≠ kDialed ∧ bs k ≠ kTick ∧ bs k ≠ kLose ∧ bs k ≠ kState := by
    refine ⟨?_, ?_, ?_, ?_, ?_, ?_, ?_⟩ <;> (intro h; rw [h] at hw; revert hw; decide)
  obtain ⟨e1, e2, e3, e4, e5, e6, e7⟩ := hne
  have k1 : (k.toList == [97, 99, 99, 101, 112, 116]) = false := kind_ne e1
  have k2 : (k.toList == [102, 101, 101, 100]) = false := kind_ne e2
  have k3 : (k.toList == [116, 97, 107, 101]) = false := kind_ne e3
  have k4 : (k.toList == [100, 105, 97, 108, 101, 100]) = false := kind_ne e4
  have k5 : (k.toList == [116, 105, 99, 107]) = false := kind_ne e5
  have k6 : (k.toList == [108, 111, 115, 101]) = false := kind_ne e6
  have k7 : (k.toList == [115, 116, 97, 116, 101]) = false := kind_ne e7
  clear e1 e2 e3 e4 e5 e6 e7 hw hno
  obtain ⟨W1, hW1⟩ : ∃ W1, W1 = w.alloc (.cells (⟨k, i, s, n, q, y⟩ : Dd).cells 27 (0, 0)) := ⟨_, rfl⟩
  have HB1 : Hid (Below w.heap.size w W1) := Lib.hid (hW1 ▸ below_alloc1 w _)
  have HAT : Hid ((⟨k, i, s, n, q, y⟩ : Dd).At W1 w.heap.size) := Lib.hid (hW1 ▸ (⟨k, i, s, n, q, y⟩ : Dd).box (Blk.new' w _ 27 rfl))
  go_enter Tryd.func12, Tryd.ntmps12
  go_upto_region 1 with (fail)
  rw [← hW1]
  clear hW1
  obtain ⟨f0, f1, f2, f3, f4, f5⟩ := HAT.out
  simp only at f0 f1 f2 f3 f4 f5
  have q1 : decide (i < 0) = false := decide_eq_false (by omega)
  have q2 : decide (1000000 < i) = false := decide_eq_false (by omega)
  have q3 : decide (n < 0) = false := decide_eq_false (by omega)
  have q4 : decide (1000000 < n) = false := decide_eq_false (by omega)
  have q5 : decide (s < 0) = false := decide_eq_false (by omega)
  have q6 : decide (1 < s) = false := decide_eq_false (by omega)
  have hZ : (y.size : Int) ≤ 2048 := by omega
  have q7 : decide (2048 < (y.size : Int)) = false := decide_eq_false (by omega)
  go_upto_region 4 with (fail)
  obtain ⟨W2, hW2⟩ : ∃ W2, W2 = W1.alloc (.cells #[.string k, .int .i64 0, .int .i64 0, .int .i64 0, .bool false, .string ⟨#[]⟩] 27 (0, 0)) := ⟨_, rfl⟩
  have HB2 : Hid (Below w.heap.size w W2) := Lib.hid (hW2 ▸ below_al HB1.out _)
  have HAT2 : Hid ((⟨k, i, s, n, q, y⟩ : Dd).At W2 w.heap.size) := Lib.hid (hW2 ▸ HAT.out.below (below_alloc1 _ _))
  rw [← hW2]
  clear hW2 f0 f1 f2 f3 f4 f5 HAT q1 q2 q3 q4 q5 q6 q7 hZ b1 b2 b3 b4 b5 b6 b7
  obtain ⟨f0, f1, f2, f3, f4, f5⟩ := HAT2.out
  simp only at f0 f1 f2 f3 f4 f5
  go_wp2
  go_ret
  exact ⟨rfl, HB2.out⟩
theorem refCheck_calls (d : Dd) (w : World) :
    Calls Tryd.prog 12 #[d.val] w fun e w' => e = .returned (.bool (checkD d.dp)) ∧ Below w.heap.size w w' := by
  by_cases hb : Bnd d
  · obtain ⟨k, i, s, n, q, y⟩ := d
    cases hw : whatOf (bs k) with
    | none => exact refCheck_none k i s n q y w hb hw
    | some wh =>
      rcases what_k hw with ⟨hk, _⟩ | ⟨hk, _⟩ | ⟨hk, _⟩ | ⟨hk, _⟩ | ⟨hk, _⟩ | ⟨hk, _⟩ | ⟨hk, _⟩
      · obtain rfl : k = ⟨#[97, 99, 99, 101, 112, 116]⟩ := bs_inj (hk.trans rfl)
        exact refCheck_accept i s n q y w hb
      · obtain rfl : k = ⟨#[102, 101, 101, 100]⟩ := bs_inj (hk.trans rfl)
        exact refCheck_feed i s n q y w hb
      · obtain rfl : k = ⟨#[116, 97, 107, 101]⟩ := bs_inj (hk.trans rfl)
        exact refCheck_take i s n q y w hb
      · obtain rfl : k = ⟨#[100, 105, 97, 108, 101, 100]⟩ := bs_inj (hk.trans rfl)
        exact refCheck_dialed i s n q y w hb
      · obtain rfl : k = ⟨#[116, 105, 99, 107]⟩ := bs_inj (hk.trans rfl)
        exact refCheck_tick i s n q y w hb
      · obtain rfl : k = ⟨#[108, 111, 115, 101]⟩ := bs_inj (hk.trans rfl)
        exact refCheck_lose i s n q y w hb
      · obtain rfl : k = ⟨#[115, 116, 97, 116, 101]⟩ := bs_inj (hk.trans rfl)
        exact refCheck_state i s n q y w hb
  · exact refCheck_out d w hb
end Go.Proofs.YtkodepckfdpaiaaDoor
