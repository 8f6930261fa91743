/- Whether a deed has a text, by the document; condition: the deed is within the types. -/
import Derived.Test.YtkodepckfdpaiaaDoorSi
namespace Go.Proofs.YtkodepckfdpaiaaDoor
set_option linter.unusedSimpArgs false
set_option linter.unusedVariables false
open Go.RowKit
/-- Within the document's bounds. -/
structure Bnd (d : Dd) : Prop where
  i0 : 0 ≤ d.i
  i1 : d.i ≤ 1000000
  n0 : 0 ≤ d.n
  n1 : d.n ≤ 1000000
  s0 : 0 ≤ d.s
  s1 : d.s ≤ 1
  z : d.d.size ≤ 2048
theorem bnd_of {d : Dd} (h : checkD d.dp = true) : Bnd d := by
  obtain ⟨h1, h2, h3, h4⟩ := check_bounds h
  have : d.d.size = d.dp.d.length := (bs_length _).symm
  exact ⟨h1.1, h1.2, h3.1, h3.2, h2.1, h2.2, by omega⟩
theorem farC (w : World) {N M : Nat} (hn : N ≠ M) (i j : Nat) (v : Value) : (w.setCell ⟨M, i, none⟩ v).cell? ⟨N, j, none⟩ = w.cell? ⟨N, j, none⟩ := by
  refine World.cell?_setCell_other _ _ _ _ ?_
  intro e
  exact hn (congrArg Addr.block e).symm
theorem drewC (w : World) (a : Addr) : w.drew.cell? a = w.cell? a := rfl
theorem Dd.At.far {d : Dd} {w : World} {N M : Nat} (h : d.At w N) (hn : N ≠ M) (i : Nat) (v : Value) : d.At (w.setCell ⟨M, i, none⟩ v) N :=
  ⟨(farC w hn i _ v).trans h.f0, (farC w hn i _ v).trans h.f1, (farC w hn i _ v).trans h.f2, (farC w hn i _ v).trans h.f3, (farC w hn i _ v).trans h.f4, (farC w hn i _ v).trans h.f5⟩
theorem Dd.At.drew1 {d : Dd} {w : World} {N : Nat} (h : d.At w N) : d.At w.drew N := ⟨h.f0, h.f1, h.f2, h.f3, h.f4, h.f5⟩
theorem bs_nil {s : ByteArray} : bs s = [] ↔ s = ⟨#[]⟩ := ⟨fun h => bs_inj (h.trans rfl), fun h => by rw [h]⟩
theorem chk_eq {d : Dd} {w : By} (hb : Bnd d) (hw : whatOf (bs d.k) = some w) : checkD d.dp = ((decide (d.i = 0) || w.contains 105) && (decide (d.s = 0) || w.contains 115) && (decide (bs d.d = []) || w.contains 100) && (decide (d.n = 0) || w.contains 110) && (!d.o || w.contains 111)) := by
  obtain ⟨h1, h2, h3, h4, h5, h6, h7⟩ := hb
  have e1 : numB d.dp.i = true := by unfold numB; simp only [Bool.and_eq_true, decide_eq_true_eq]; exact ⟨h1, h2⟩
  have e2 : numB d.dp.n = true := by unfold numB; simp only [Bool.and_eq_true, decide_eq_true_eq]; exact ⟨h3, h4⟩
  have e3 : decide (d.dp.d.length ≤ 2048) = true := decide_eq_true (by show (bs d.d).length ≤ 2048; rw [bs_length]; exact h7)
  have e4 : (decide (d.dp.s = 0) || (decide (d.dp.s = 1) && w.contains 115)) = (decide (d.s = 0) || w.contains 115) := by
    have : d.s = 0 ∨ d.s = 1 := by omega
    rcases this with h | h
    · show (decide (d.s = 0) || _) = _; rw [h]; rfl
    · show (decide (d.s = 0) || (decide (d.s = 1) && _)) = _; rw [h]; rfl
  unfold checkD
  rw [show whatOf d.dp.k = some w from hw]
  simp only
  rw [e1, e2, e3, e4, Bool.true_and, Bool.true_and, Bool.true_and]; rfl
set_option maxRecDepth 100000 in
set_option maxHeartbeats 800000 in
theorem refCheck_accept (i s n : Int) (q : Bool) (y : ByteArray) (w : World) (hb : Bnd (⟨⟨#[97, 99, 99, 101, 112, 116]⟩, i, s, n, q, y⟩ : Dd)) :
    Calls Tryd.prog 12 #[(⟨⟨#[97, 99, 99, 101, 112, 116]⟩, i, s, n, q, y⟩ : Dd).val] w fun e w' => e = .returned (.bool (checkD (⟨⟨#[97, 99, 99, 101, 112, 116]⟩, i, s, n, q, y⟩ : Dd).dp)) ∧ Below w.heap.size w w' := by
  have HCH : Hid (checkD (⟨⟨#[97, 99, 99, 101, 112, 116]⟩, i, s, n, q, y⟩ : Dd).dp = (decide (i = 0) && decide (s = 0) && decide (bs y = []) && decide (n = 0) && !q)) := Lib.hid ((chk_eq (w := []) hb rfl).trans (by
    have c1 : ([] : By).contains 105 = false := by decide
    have c2 : ([] : By).contains 115 = false := by decide
    have c3 : ([] : By).contains 100 = false := by decide
    have c4 : ([] : By).contains 110 = false := by decide
    have c5 : ([] : By).contains 111 = false := by decide
    simp only [c1, c2, c3, c4, c5, Bool.or_true, Bool.or_false, Bool.true_and, Bool.and_true]))
  obtain ⟨b1, b2, b3, b4, b5, b6, b7⟩ := hb
  simp only at b1 b2 b3 b4 b5 b6 b7
  obtain ⟨W1, hW1⟩ : ∃ W1, W1 = w.alloc (.cells (⟨⟨#[97, 99, 99, 101, 112, 116]⟩, i, s, n, q, y⟩ : Dd).cells 27 (0, 0)) := ⟨_, rfl⟩
  have HB1 : Hid (Below w.heap.size w W1) := Lib.hid (hW1 ▸ below_alloc1 w _)
  have HAT : Hid ((⟨⟨#[97, 99, 99, 101, 112, 116]⟩, i, s, n, q, y⟩ : Dd).At W1 w.heap.size) := Lib.hid (hW1 ▸ (⟨⟨#[97, 99, 99, 101, 112, 116]⟩, i, s, n, q, y⟩ : Dd).box (Blk.new' w _ 27 rfl))
  generalize checkD (⟨⟨#[97, 99, 99, 101, 112, 116]⟩, i, s, n, q, y⟩ : Dd).dp = R at HCH ⊢
  go_enter Tryd.func12, Tryd.ntmps12
  go_upto_region 1 with (fail)
  rw [← hW1]
  clear hW1
  obtain ⟨f0, f1, f2, f3, f4, f5⟩ := HAT.out
  simp only at f0 f1 f2 f3 f4 f5
  have q1 : decide (i < 0) = false := decide_eq_false (by omega)
  have q2 : decide (1000000 < i) = false := decide_eq_false (by omega)
  have q3 : decide (n < 0) = false := decide_eq_false (by omega)
  have q4 : decide (1000000 < n) = false := decide_eq_false (by omega)
  have q5 : decide (s < 0) = false := decide_eq_false (by omega)
  have q6 : decide (1 < s) = false := decide_eq_false (by omega)
  have hZ : (y.size : Int) ≤ 2048 := by omega
  have q7 : decide (2048 < (y.size : Int)) = false := decide_eq_false (by omega)
  go_upto_region 4 with (fail)
  obtain ⟨W2, hW2⟩ : ∃ W2, W2 = W1.alloc (.cells #[.string ⟨#[97, 99, 99, 101, 112, 116]⟩, .int .i64 0, .int .i64 0, .int .i64 0, .bool false, .string ⟨#[]⟩] 27 (0, 0)) := ⟨_, rfl⟩
  obtain ⟨M, hM⟩ : ∃ M, M = W1.heap.size := ⟨_, rfl⟩
  have HB2 : Hid (Below w.heap.size w W2) := Lib.hid (hW2 ▸ below_al HB1.out _)
  have HBK : Hid (Blk W2 M #[.string ⟨#[97, 99, 99, 101, 112, 116]⟩, .int .i64 0, .int .i64 0, .int .i64 0, .bool false, .string ⟨#[]⟩] 27) := Lib.hid (hW2 ▸ Blk.new' W1 _ _ hM)
  have HAT2 : Hid ((⟨⟨#[97, 99, 99, 101, 112, 116]⟩, i, s, n, q, y⟩ : Dd).At W2 w.heap.size) := Lib.hid (hW2 ▸ HAT.out.below (below_alloc1 _ _))
  have HNM : Hid (w.heap.size ≠ M) := Lib.hid (by have := cell_lt f0; omega)
  have HMB : Hid (w.heap.size ≤ M) := Lib.hid (by have := cell_lt f0; omega)
  rw [← hW2, ← hM]
  clear hW2 hM f0 f1 f2 f3 f4 f5 HAT q1 q2 q3 q4 q5 q6 q7 hZ b1 b2 b3 b4 b5 b6 b7
  obtain ⟨f0, f1, f2, f3, f4, f5⟩ := HAT2.out
  simp only at f0 f1 f2 f3 f4 f5
  go_upto_region 19 with (fail)
  have HBK3 := HBK
  have HAT3 := HAT2
  have HB3 := HB2
  clear HAT2 f0 f1 f2 f3 f4 f5
  obtain ⟨f0, f1, f2, f3, f4, f5⟩ := HAT3.out
  simp only at f0 f1 f2 f3 f4 f5
  have m0 : W2.cell? ⟨M, 0, none⟩ = some (.string ⟨#[97, 99, 99, 101, 112, 116]⟩) := (HBK3.out.cell 0).trans rfl
  have m1 : W2.cell? ⟨M, 1, none⟩ = some (.int .i64 0) := (HBK3.out.cell 1).trans rfl
  have m2 : W2.cell? ⟨M, 2, none⟩ = some (.int .i64 0) := (HBK3.out.cell 2).trans rfl
  have m3 : W2.cell? ⟨M, 3, none⟩ = some (.int .i64 0) := (HBK3.out.cell 3).trans rfl
  have m4 : W2.cell? ⟨M, 4, none⟩ = some (.bool false) := (HBK3.out.cell 4).trans rfl
  have m5 : W2.cell? ⟨M, 5, none⟩ = some (.string ⟨#[]⟩) := (HBK3.out.cell 5).trans rfl
  go_wp2
  all_goals
    go_ret
    refine ⟨ret_bool ?_, HB3.out⟩
    rw [HCH.out]
    clear HB1 HCH HB2 HBK HNM HMB HBK3 HAT3 HB3 f0 f1 f2 f3 f4 f5 m0 m1 m2 m3 m4 m5
    symm
    first
      | (rw [Bool.eq_false_iff]
         intro h
         simp only [Bool.and_eq_true, decide_eq_true_eq, Bool.not_eq_true'] at h
         first
           | omega
           | (have hq := ‹q = true›; simp [hq] at h; done)
           | (have hy : ¬ bs y = [] := by first | assumption | (rw [← toList_bs]; assumption)
              simp [hy] at h; done))
      | (simp only [Bool.and_eq_true, decide_eq_true_eq, Bool.not_eq_true']
         and_intros <;> first | omega | exact Bool.eq_false_iff.2 (by assumption) | assumption | (rw [← toList_bs]; assumption))
set_option maxRecDepth 100000 in
set_option maxHeartbeats 800000 in
theorem refCheck_feed (i s n : Int) (q : Bool) (y : ByteArray) (w : World) (hb : Bnd (⟨⟨#[102, 101, 101, 100]⟩, i, s, n, q, y⟩ : Dd)) :
    Calls Tryd.prog 12 #[(⟨⟨#[102, 101, 101, 100]⟩, i, s, n, q, y⟩ : Dd).val] w fun e w' => e = .returned (.bool (checkD (⟨⟨#[102, 101, 101, 100]⟩, i, s, n, q, y⟩ : Dd).dp)) ∧ Below w.heap.size w w' := by
  have HCH : Hid (checkD (⟨⟨#[102, 101, 101, 100]⟩, i, s, n, q, y⟩ : Dd).dp = (decide (n = 0) && !q)) := Lib.hid ((chk_eq (w := [105, 115, 100]) hb rfl).trans (by
    have c1 : ([105, 115, 100] : By).contains 105 = true := by decide
    have c2 : ([105, 115, 100] : By).contains 115 = true := by decide
    have c3 : ([105, 115, 100] : By).contains 100 = true := by decide
    have c4 : ([105, 115, 100] : By).contains 110 = false := by decide
    have c5 : ([105, 115, 100] : By).contains 111 = false := by decide
    simp only [c1, c2, c3, c4, c5, Bool.or_true, Bool.or_false, Bool.true_and, Bool.and_true]))
  obtain ⟨b1, b2, b3, b4, b5, b6, b7⟩ := hb
  simp only at b1 b2 b3 b4 b5 b6 b7
  obtain ⟨W1, hW1⟩ : ∃ W1, W1 = w.alloc (.cells (⟨⟨#[102, 101, 101, 100]⟩, i, s, n, q, y⟩ : Dd).cells 27 (0, 0)) := ⟨_, rfl⟩
  have HB1 : Hid (Below w.heap.size w W1) := Lib.hid (hW1 ▸ below_alloc1 w _)
  have HAT : Hid ((⟨⟨#[102, 101, 101, 100]⟩, i, s, n, q, y⟩ : Dd).At W1 w.heap.size) := Lib.hid (hW1 ▸ (⟨⟨#[102, 101, 101, 100]⟩, i, s, n, q, y⟩ : Dd).box (Blk.new' w _ 27 rfl))
  generalize checkD (⟨⟨#[102, 101, 101, 100]⟩, i, s, n, q, y⟩ : Dd).dp = R at HCH ⊢
  go_enter Tryd.func12, Tryd.ntmps12
  go_upto_region 1 with (fail)
  rw [← hW1]
  clear hW1
  obtain ⟨f0, f1, f2, f3, f4, f5⟩ := HAT.out
  simp only at f0 f1 f2 f3 f4 f5
  have q1 : decide (i < 0) = false := decide_eq_false (by omega)
  have q2 : decide (1000000 < i) = false := decide_eq_false (by omega)
  have q3 : decide (n < 0) = false := decide_eq_false (by omega)
  have q4 : decide (1000000 < n) = false := decide_eq_false (by omega)
  have q5 : decide (s < 0) = false := decide_eq_false (by omega)
  have q6 : decide (1 < s) = false := decide_eq_false (by omega)
  have hZ : (y.size : Int) ≤ 2048 := by omega
  have q7 : decide (2048 < (y.size : Int)) = false := decide_eq_false (by omega)
  go_upto_region 4 with (fail)
  obtain ⟨W2, hW2⟩ : ∃ W2, W2 = W1.alloc (.cells #[.string ⟨#[102, 101, 101, 100]⟩, .int .i64 0, .int .i64 0, .int .i64 0, .bool false, .string ⟨#[]⟩] 27 (0, 0)) := ⟨_, rfl⟩
  obtain ⟨M, hM⟩ : ∃ M, M = W1.heap.size := ⟨_, rfl⟩
  have HB2 : Hid (Below w.heap.size w W2) := Lib.hid (hW2 ▸ below_al HB1.out _)
  have HBK : Hid (Blk W2 M #[.string ⟨#[102, 101, 101, 100]⟩, .int .i64 0, .int .i64 0, .int .i64 0, .bool false, .string ⟨#[]⟩] 27) := Lib.hid (hW2 ▸ Blk.new' W1 _ _ hM)
  have HAT2 : Hid ((⟨⟨#[102, 101, 101, 100]⟩, i, s, n, q, y⟩ : Dd).At W2 w.heap.size) := Lib.hid (hW2 ▸ HAT.out.below (below_alloc1 _ _))
  have HNM : Hid (w.heap.size ≠ M) := Lib.hid (by have := cell_lt f0; omega)
  have HMB : Hid (w.heap.size ≤ M) := Lib.hid (by have := cell_lt f0; omega)
  rw [← hW2, ← hM]
  clear hW2 hM f0 f1 f2 f3 f4 f5 HAT q1 q2 q3 q4 q5 q6 q7 hZ b1 b2 b3 b4 b5 b6 b7
  obtain ⟨f0, f1, f2, f3, f4, f5⟩ := HAT2.out
  simp only at f0 f1 f2 f3 f4 f5
  have z1 := HBK.out.frozen 1
  have m1 : W2.cell? ⟨M, 1, none⟩ = some (.int .i64 0) := (HBK.out.cell 1).trans rfl
  have z2 := HBK.out.frozen 2
  have m2 : W2.cell? ⟨M, 2, none⟩ = some (.int .i64 0) := (HBK.out.cell 2).trans rfl
  have z5 := HBK.out.frozen 5
  have m5 : W2.cell? ⟨M, 5, none⟩ = some (.string ⟨#[]⟩) := (HBK.out.cell 5).trans rfl
  have hne := HNM.out
  go_upto_region 8 with (fail)
  go_region_held3 (fun wx => wx.cell? ⟨w.heap.size, 0, none⟩ = some (.string ⟨#[102, 101, 101, 100]⟩) ∧ wx.cell? ⟨w.heap.size, 1, none⟩ = some (.int .i64 i) ∧ wx.cell? ⟨w.heap.size, 2, none⟩ = some (.int .i64 s) ∧ wx.cell? ⟨w.heap.size, 3, none⟩ = some (.int .i64 n) ∧ wx.cell? ⟨w.heap.size, 4, none⟩ = some (.bool q) ∧ wx.cell? ⟨w.heap.size, 5, none⟩ = some (.string y))
    (first | exact ⟨f0, f1, f2, f3, f4, f5⟩ | (simp only [drewC, farC _ HNM.out]; exact ⟨f0, f1, f2, f3, f4, f5⟩))
    (fail)
  go_upto_region 19 with (fail)
  obtain ⟨W3, hW3⟩ : ∃ W3, W3 = (((W2.setCell ⟨M, 1, none⟩ (.int .i64 i)).setCell ⟨M, 2, none⟩ (.int .i64 s)).setCell ⟨M, 5, none⟩ (.string y)).drew := ⟨_, rfl⟩
  have HBK3 : Hid (Blk W3 M #[.string ⟨#[102, 101, 101, 100]⟩, .int .i64 i, .int .i64 s, .int .i64 0, .bool false, .string y] 27) := Lib.hid (hW3 ▸ (((HBK.out.set 1 _).set 2 _).set 5 _).drew1)
  have HAT3 : Hid ((⟨⟨#[102, 101, 101, 100]⟩, i, s, n, q, y⟩ : Dd).At W3 w.heap.size) := Lib.hid (hW3 ▸ (Dd.At.drew1 (((HAT2.out.far HNM.out 1 _).far HNM.out 2 _).far HNM.out 5 _)))
  have HB3 : Hid (Below w.heap.size w W3) := Lib.hid (hW3 ▸ (below_drew1 (below_set (below_set (below_set HB2.out HMB.out 1 _) HMB.out 2 _) HMB.out 5 _)))
  rw [← hW3]
  clear hW3 HAT2 f0 f1 f2 f3 f4 f5 z1 m1 z2 m2 z5 m5 hne
  obtain ⟨f0, f1, f2, f3, f4, f5⟩ := HAT3.out
  simp only at f0 f1 f2 f3 f4 f5
  have m0 : W3.cell? ⟨M, 0, none⟩ = some (.string ⟨#[102, 101, 101, 100]⟩) := (HBK3.out.cell 0).trans rfl
  have m1 : W3.cell? ⟨M, 1, none⟩ = some (.int .i64 i) := (HBK3.out.cell 1).trans rfl
  have m2 : W3.cell? ⟨M, 2, none⟩ = some (.int .i64 s) := (HBK3.out.cell 2).trans rfl
  have m3 : W3.cell? ⟨M, 3, none⟩ = some (.int .i64 0) := (HBK3.out.cell 3).trans rfl
  have m4 : W3.cell? ⟨M, 4, none⟩ = some (.bool false) := (HBK3.out.cell 4).trans rfl
  have m5 : W3.cell? ⟨M, 5, none⟩ = some (.string y) := (HBK3.out.cell 5).trans rfl
  go_wp2
  all_goals
    go_ret
    refine ⟨ret_bool ?_, HB3.out⟩
    rw [HCH.out]
    clear HB1 HCH HB2 HBK HNM HMB HBK3 HAT3 HB3 f0 f1 f2 f3 f4 f5 m0 m1 m2 m3 m4 m5
    symm
    first
      | (rw [Bool.eq_false_iff]
         intro h
         simp only [Bool.and_eq_true, decide_eq_true_eq, Bool.not_eq_true'] at h
         first
           | omega
           | (have hq := ‹q = true›; simp [hq] at h; done)
           | (have hy : ¬ bs y = [] := by first | assumption | (rw [← toList_bs]; assumption)
              simp [hy] at h; done))
      | (simp only [Bool.and_eq_true, decide_eq_true_eq, Bool.not_eq_true']
         and_intros <;> first | omega | exact Bool.eq_false_iff.2 (by assumption) | assumption | (rw [← toList_bs]; assumption))
set_option maxRecDepth 100000 in
set_option maxHeartbeats 800000 in
theorem refCheck_take (i s n : Int) (q : Bool) (y : ByteArray) (w : World) (hb : Bnd (⟨⟨#[116, 97, 107, 101]⟩, i, s, n, q, y⟩ : Dd)) :
    Calls Tryd.prog 12 #[(⟨⟨#[116, 97, 107, 101]⟩, i, s, n, q, y⟩ : Dd).val] w fun e w' => e = .returned (.bool (checkD (⟨⟨#[116, 97, 107, 101]⟩, i, s, n, q, y⟩ : Dd).dp)) ∧ Below w.heap.size w w' := by
  have HCH : Hid (checkD (⟨⟨#[116, 97, 107, 101]⟩, i, s, n, q, y⟩ : Dd).dp = (decide (bs y = []) && !q)) := Lib.hid ((chk_eq (w := [105, 115, 110]) hb rfl).trans (by
    have c1 : ([105, 115, 110] : By).contains 105 = true := by decide
    have c2 : ([105, 115, 110] : By).contains 115 = true := by decide
    have c3 : ([105, 115, 110] : By).contains 100 = false := by decide
    have c4 : ([105, 115, 110] : By).contains 110 = true := by decide
    have c5 : ([105, 115, 110] : By).contains 111 = false := by decide
    simp only [c1, c2, c3, c4, c5, Bool.or_true, Bool.or_false, Bool.true_and, Bool.and_true]))
  obtain ⟨b1, b2, b3, b4, b5, b6, b7⟩ := hb
  simp only at b1 b2 b3 b4 b5 b6 b7
  obtain ⟨W1, hW1⟩ : ∃ W1, W1 = w.alloc (.cells (⟨⟨#[116, 97, 107, 101]⟩, i, s, n, q, y⟩ : Dd).cells 27 (0, 0)) := ⟨_, rfl⟩
  have HB1 : Hid (Below w.heap.size w W1) := Lib.hid (hW1 ▸ below_alloc1 w _)
  have HAT : Hid ((⟨⟨#[116, 97, 107, 101]⟩, i, s, n, q, y⟩ : Dd).At W1 w.heap.size) := Lib.hid (hW1 ▸ (⟨⟨#[116, 97, 107, 101]⟩, i, s, n, q, y⟩ : Dd).box (Blk.new' w _ 27 rfl))
  generalize checkD (⟨⟨#[116, 97, 107, 101]⟩, i, s, n, q, y⟩ : Dd).dp = R at HCH ⊢
  go_enter Tryd.func12, Tryd.ntmps12
  go_upto_region 1 with (fail)
  rw [← hW1]
  clear hW1
  obtain ⟨f0, f1, f2, f3, f4, f5⟩ := HAT.out
  simp only at f0 f1 f2 f3 f4 f5
  have q1 : decide (i < 0) = false := decide_eq_false (by omega)
  have q2 : decide (1000000 < i) = false := decide_eq_false (by omega)
  have q3 : decide (n < 0) = false := decide_eq_false (by omega)
  have q4 : decide (1000000 < n) = false := decide_eq_false (by omega)
  have q5 : decide (s < 0) = false := decide_eq_false (by omega)
  have q6 : decide (1 < s) = false := decide_eq_false (by omega)
  have hZ : (y.size : Int) ≤ 2048 := by omega
  have q7 : decide (2048 < (y.size : Int)) = false := decide_eq_false (by omega)
  go_upto_region 4 with (fail)
  obtain ⟨W2, hW2⟩ : ∃ W2, W2 = W1.alloc (.cells #[.string ⟨#[116, 97, 107, 101]⟩, .int .i64 0, .int .i64 0, .int .i64 0, .bool false, .string ⟨#[]⟩] 27 (0, 0)) := ⟨_, rfl⟩
  obtain ⟨M, hM⟩ : ∃ M, M = W1.heap.size := ⟨_, rfl⟩
  have HB2 : Hid (Below w.heap.size w W2) := Lib.hid (hW2 ▸ below_al HB1.out _)
  have HBK : Hid (Blk W2 M #[.string ⟨#[116, 97, 107, 101]⟩, .int .i64 0, .int .i64 0, .int .i64 0, .bool false, .string ⟨#[]⟩] 27) := Lib.hid (hW2 ▸ Blk.new' W1 _ _ hM)
  have HAT2 : Hid ((⟨⟨#[116, 97, 107, 101]⟩, i, s, n, q, y⟩ : Dd).At W2 w.heap.size) := Lib.hid (hW2 ▸ HAT.out.below (below_alloc1 _ _))
  have HNM : Hid (w.heap.size ≠ M) := Lib.hid (by have := cell_lt f0; omega)
  have HMB : Hid (w.heap.size ≤ M) := Lib.hid (by have := cell_lt f0; omega)
  rw [← hW2, ← hM]
  clear hW2 hM f0 f1 f2 f3 f4 f5 HAT q1 q2 q3 q4 q5 q6 q7 hZ b1 b2 b3 b4 b5 b6 b7
  obtain ⟨f0, f1, f2, f3, f4, f5⟩ := HAT2.out
  simp only at f0 f1 f2 f3 f4 f5
  have z1 := HBK.out.frozen 1
  have m1 : W2.cell? ⟨M, 1, none⟩ = some (.int .i64 0) := (HBK.out.cell 1).trans rfl
  have z2 := HBK.out.frozen 2
  have m2 : W2.cell? ⟨M, 2, none⟩ = some (.int .i64 0) := (HBK.out.cell 2).trans rfl
  have z3 := HBK.out.frozen 3
  have m3 : W2.cell? ⟨M, 3, none⟩ = some (.int .i64 0) := (HBK.out.cell 3).trans rfl
  have hne := HNM.out
  go_upto_region 10 with (fail)
  go_region_held3 (fun wx => wx.cell? ⟨w.heap.size, 0, none⟩ = some (.string ⟨#[116, 97, 107, 101]⟩) ∧ wx.cell? ⟨w.heap.size, 1, none⟩ = some (.int .i64 i) ∧ wx.cell? ⟨w.heap.size, 2, none⟩ = some (.int .i64 s) ∧ wx.cell? ⟨w.heap.size, 3, none⟩ = some (.int .i64 n) ∧ wx.cell? ⟨w.heap.size, 4, none⟩ = some (.bool q) ∧ wx.cell? ⟨w.heap.size, 5, none⟩ = some (.string y))
    (first | exact ⟨f0, f1, f2, f3, f4, f5⟩ | (simp only [drewC, farC _ HNM.out]; exact ⟨f0, f1, f2, f3, f4, f5⟩))
    (fail)
  go_upto_region 19 with (fail)
  obtain ⟨W3, hW3⟩ : ∃ W3, W3 = (((W2.setCell ⟨M, 1, none⟩ (.int .i64 i)).setCell ⟨M, 2, none⟩ (.int .i64 s)).setCell ⟨M, 3, none⟩ (.int .i64 n)).drew := ⟨_, rfl⟩
  have HBK3 : Hid (Blk W3 M #[.string ⟨#[116, 97, 107, 101]⟩, .int .i64 i, .int .i64 s, .int .i64 n, .bool false, .string ⟨#[]⟩] 27) := Lib.hid (hW3 ▸ (((HBK.out.set 1 _).set 2 _).set 3 _).drew1)
  have HAT3 : Hid ((⟨⟨#[116, 97, 107, 101]⟩, i, s, n, q, y⟩ : Dd).At W3 w.heap.size) := Lib.hid (hW3 ▸ (Dd.At.drew1 (((HAT2.out.far HNM.out 1 _).far HNM.out 2 _).far HNM.out 3 _)))
  have HB3 : Hid (Below w.heap.size w W3) := Lib.hid (hW3 ▸ (below_drew1 (below_set (below_set (below_set HB2.out HMB.out 1 _) HMB.out 2 _) HMB.out 3 _)))
  rw [← hW3]
  clear hW3 HAT2 f0 f1 f2 f3 f4 f5 z1 m1 z2 m2 z3 m3 hne
  obtain ⟨f0, f1, f2, f3, f4, f5⟩ := HAT3.out
  simp only at f0 f1 f2 f3 f4 f5
  have m0 : W3.cell? ⟨M, 0, none⟩ = some (.string ⟨#[116, 97, 107, 101]⟩) := (HBK3.out.cell 0).trans rfl
  have m1 : W3.cell? ⟨M, 1, none⟩ = some (.int .i64 i) := (HBK3.out.cell 1).trans rfl
  have m2 : W3.cell? ⟨M, 2, none⟩ = some (.int .i64 s) := (HBK3.out.cell 2).trans rfl
  have m3 : W3.cell? ⟨M, 3, none⟩ = some (.int .i64 n) := (HBK3.out.cell 3).trans rfl
  have m4 : W3.cell? ⟨M, 4, none⟩ = some (.bool false) := (HBK3.out.cell 4).trans rfl
  have m5 : W3.cell? ⟨M, 5, none⟩ = some (.string ⟨#[]⟩) := (HBK3.out.cell 5).trans rfl
  go_wp2
  all_goals
    go_ret
    refine ⟨ret_bool ?_, HB3.out⟩
    rw [HCH.out]
    clear HB1 HCH HB2 HBK HNM HMB HBK3 HAT3 HB3 f0 f1 f2 f3 f4 f5 m0 m1 m2 m3 m4 m5
    symm
    first
      | (rw [Bool.eq_false_iff]
         intro h
         simp only [Bool.and_eq_true, decide_eq_true_eq, Bool.not_eq_true'] at h
         first
           | omega
           | (have hq := ‹q = true›; simp [hq] at h; done)
           | (have hy : ¬ bs y = [] := by first | assumption | (rw [← toList_bs]; assumption)
              simp [hy] at h; done))
      | (simp only [Bool.and_eq_true, decide_eq_true_eq, Bool.not_eq_true']
         and_intros <;> first | omega | exact Bool.eq_false_iff.2 (by assumption) | assumption | (rw [← toList_bs]; assumption))
set_option maxRecDepth 100000 in
set_option maxHeartbeats 800000 in
theorem refCheck_dialed (i s n : Int) (q : Bool) (y : ByteArray) (w : World) (hb : Bnd (⟨⟨#[100, 105, 97, 108, 101, 100]⟩, i, s, n, q, y⟩ : Dd)) :
    Calls Tryd.prog 12 #[(⟨⟨#[100, 105, 97, 108, 101, 100]⟩, i, s, n, q, y⟩ : Dd).val] w fun e w' => e = .returned (.bool (checkD (⟨⟨#[100, 105, 97, 108, 101, 100]⟩, i, s, n, q, y⟩ : Dd).dp)) ∧ Below w.heap.size w w' := by
  have HCH : Hid (checkD (⟨⟨#[100, 105, 97, 108, 101, 100]⟩, i, s, n, q, y⟩ : Dd).dp = (decide (s = 0) && decide (bs y = []) && decide (n = 0))) := Lib.hid ((chk_eq (w := [105, 111]) hb rfl).trans (by
    have c1 : ([105, 111] : By).contains 105 = true := by decide
    have c2 : ([105, 111] : By).contains 115 = false := by decide
    have c3 : ([105, 111] : By).contains 100 = false := by decide
    have c4 : ([105, 111] : By).contains 110 = false := by decide
    have c5 : ([105, 111] : By).contains 111 = true := by decide
    simp only [c1, c2, c3, c4, c5, Bool.or_true, Bool.or_false, Bool.true_and, Bool.and_true]))
  obtain ⟨b1, b2, b3, b4, b5, b6, b7⟩ := hb
  simp only at b1 b2 b3 b4 b5 b6 b7
  obtain ⟨W1, hW1⟩ : ∃ W1, W1 = w.alloc (.cells (⟨⟨#[100, 105, 97, 108, 101, 100]⟩, i, s, n, q, y⟩ : Dd).cells 27 (0, 0)) := ⟨_, rfl⟩
  have HB1 : Hid (Below w.heap.size w W1) := Lib.hid (hW1 ▸ below_alloc1 w _)
  have HAT : Hid ((⟨⟨#[100, 105, 97, 108, 101, 100]⟩, i, s, n, q, y⟩ : Dd).At W1 w.heap.size) := Lib.hid (hW1 ▸ (⟨⟨#[100, 105, 97, 108, 101, 100]⟩, i, s, n, q, y⟩ : Dd).box (Blk.new' w _ 27 rfl))
  generalize checkD (⟨⟨#[100, 105, 97, 108, 101, 100]⟩, i, s, n, q, y⟩ : Dd).dp = R at HCH ⊢
  go_enter Tryd.func12, Tryd.ntmps12
  go_upto_region 1 with (fail)
  rw [← hW1]
  clear hW1
  obtain ⟨f0, f1, f2, f3, f4, f5⟩ := HAT.out
  simp only at f0 f1 f2 f3 f4 f5
  have q1 : decide (i < 0) = false := decide_eq_false (by omega)
  have q2 : decide (1000000 < i) = false := decide_eq_false (by omega)
  have q3 : decide (n < 0) = false := decide_eq_false (by omega)
  have q4 : decide (1000000 < n) = false := decide_eq_false (by omega)
  have q5 : decide (s < 0) = false := decide_eq_false (by omega)
  have q6 : decide (1 < s) = false := decide_eq_false (by omega)
  have hZ : (y.size : Int) ≤ 2048 := by omega
  have q7 : decide (2048 < (y.size : Int)) = false := decide_eq_false (by omega)
  go_upto_region 4 with (fail)
  obtain ⟨W2, hW2⟩ : ∃ W2, W2 = W1.alloc (.cells #[.string ⟨#[100, 105, 97, 108, 101, 100]⟩, .int .i64 0, .int .i64 0, .int .i64 0, .bool false, .string ⟨#[]⟩] 27 (0, 0)) := ⟨_, rfl⟩
  obtain ⟨M, hM⟩ : ∃ M, M = W1.heap.size := ⟨_, rfl⟩
  have HB2 : Hid (Below w.heap.size w W2) := Lib.hid (hW2 ▸ below_al HB1.out _)
  have HBK : Hid (Blk W2 M #[.string ⟨#[100, 105, 97, 108, 101, 100]⟩, .int .i64 0, .int .i64 0, .int .i64 0, .bool false, .string ⟨#[]⟩] 27) := Lib.hid (hW2 ▸ Blk.new' W1 _ _ hM)
  have HAT2 : Hid ((⟨⟨#[100, 105, 97, 108, 101, 100]⟩, i, s, n, q, y⟩ : Dd).At W2 w.heap.size) := Lib.hid (hW2 ▸ HAT.out.below (below_alloc1 _ _))
  have HNM : Hid (w.heap.size ≠ M) := Lib.hid (by have := cell_lt f0; omega)
  have HMB : Hid (w.heap.size ≤ M) := Lib.hid (by have := cell_lt f0; omega)
  rw [← hW2, ← hM]
  clear hW2 hM f0 f1 f2 f3 f4 f5 HAT q1 q2 q3 q4 q5 q6 q7 hZ b1 b2 b3 b4 b5 b6 b7
  obtain ⟨f0, f1, f2, f3, f4, f5⟩ := HAT2.out
  simp only at f0 f1 f2 f3 f4 f5
  have z1 := HBK.out.frozen 1
  have m1 : W2.cell? ⟨M, 1, none⟩ = some (.int .i64 0) := (HBK.out.cell 1).trans rfl
  have z4 := HBK.out.frozen 4
  have m4 : W2.cell? ⟨M, 4, none⟩ = some (.bool false) := (HBK.out.cell 4).trans rfl
  have hne := HNM.out
  go_upto_region 12 with (fail)
  go_region_held3 (fun wx => wx.cell? ⟨w.heap.size, 0, none⟩ = some (.string ⟨#[100, 105, 97, 108, 101, 100]⟩) ∧ wx.cell? ⟨w.heap.size, 1, none⟩ = some (.int .i64 i) ∧ wx.cell? ⟨w.heap.size, 2, none⟩ = some (.int .i64 s) ∧ wx.cell? ⟨w.heap.size, 3, none⟩ = some (.int .i64 n) ∧ wx.cell? ⟨w.heap.size, 4, none⟩ = some (.bool q) ∧ wx.cell? ⟨w.heap.size, 5, none⟩ = some (.string y))
    (first | exact ⟨f0, f1, f2, f3, f4, f5⟩ | (simp only [drewC, farC _ HNM.out]; exact ⟨f0, f1, f2, f3, f4, f5⟩))
    (fail)
  go_upto_region 19 with (fail)
  obtain ⟨W3, hW3⟩ : ∃ W3, W3 = ((W2.setCell ⟨M, 1, none⟩ (.int .i64 i)).setCell ⟨M, 4, none⟩ (.bool q)).drew := ⟨_, rfl⟩
  have HBK3 : Hid (Blk W3 M #[.string ⟨#[100, 105, 97, 108, 101, 100]⟩, .int .i64 i, .int .i64 0, .int .i64 0, .bool q, .string ⟨#[]⟩] 27) := Lib.hid (hW3 ▸ ((HBK.out.set 1 _).set 4 _).drew1)
  have HAT3 : Hid ((⟨⟨#[100, 105, 97, 108, 101, 100]⟩, i, s, n, q, y⟩ : Dd).At W3 w.heap.size) := Lib.hid (hW3 ▸ (Dd.At.drew1 ((HAT2.out.far HNM.out 1 _).far HNM.out 4 _)))
  have HB3 : Hid (Below w.heap.size w W3) := Lib.hid (hW3 ▸ (below_drew1 (below_set (below_set HB2.out HMB.out 1 _) HMB.out 4 _)))
  rw [← hW3]
  clear hW3 HAT2 f0 f1 f2 f3 f4 f5 z1 m1 z4 m4 hne
  obtain ⟨f0, f1, f2, f3, f4, f5⟩ := HAT3.out
  simp only at f0 f1 f2 f3 f4 f5
  have m0 : W3.cell? ⟨M, 0, none⟩ = some (.string ⟨#[100, 105, 97, 108, 101, 100]⟩) := (HBK3.out.cell 0).trans rfl
  have m1 : W3.cell? ⟨M, 1, none⟩ = some (.int .i64 i) := (HBK3.out.cell 1).trans rfl
  have m2 : W3.cell? ⟨M, 2, none⟩ = some (.int .i64 0) := (HBK3.out.cell 2).trans rfl
  have m3 : W3.cell? ⟨M, 3, none⟩ = some (.int .i64 0) := (HBK3.out.cell 3).trans rfl
  have m4 : W3.cell? ⟨M, 4, none⟩ = some (.bool q) := (HBK3.out.cell 4).trans rfl
  have m5 : W3.cell? ⟨M, 5, none⟩ = some (.string ⟨#[]⟩) := (HBK3.out.cell 5).trans rfl
  go_wp2
  all_goals
    go_ret
    refine ⟨ret_bool ?_, HB3.out⟩
    rw [HCH.out]
    clear HB1 HCH HB2 HBK HNM HMB HBK3 HAT3 HB3 f0 f1 f2 f3 f4 f5 m0 m1 m2 m3 m4 m5
    symm
    first
      | (rw [Bool.eq_false_iff]
         intro h
         simp only [Bool.and_eq_true, decide_eq_true_eq, Bool.not_eq_true'] at h
         first
           | omega
           | (have hq := ‹q = true›; simp [hq] at h; done)
           | (have hy : ¬ bs y = [] := by first | assumption | (rw [← toList_bs]; assumption)
              simp [hy] at h; done))
      | (simp only [Bool.and_eq_true, decide_eq_true_eq, Bool.not_eq_true']
         and_intros <;> first | omega | exact Bool.eq_false_iff.2 (by assumption) | assumption | (rw [← toList_bs]; assumption))
set_option maxRecDepth 100000 in
set_option maxHeartbeats 800000 in
theorem refCheck_tick (i s n : Int) (q : Bool) (y : ByteArray) (w : World) (hb : Bnd (⟨⟨#[116, 105, 99, 107]⟩, i, s, n, q, y⟩ : Dd)) :
    Calls Tryd.prog 12 #[(⟨⟨#[116, 105, 99, 107]⟩, i, s, n, q, y⟩ : Dd).val] w fun e w' => e = .returned (.bool (checkD (⟨⟨#[116, 105, 99, 107]⟩, i, s, n, q, y⟩ : Dd).dp)) ∧ Below w.heap.size w w' := by
  have HCH : Hid (checkD (⟨⟨#[116, 105, 99, 107]⟩, i, s, n, q, y⟩ : Dd).dp = (decide (i = 0) && decide (s = 0) && decide (bs y = []) && !q)) := Lib.hid ((chk_eq (w := [110]) hb rfl).trans (by
    have c1 : ([110] : By).contains 105 = false := by decide
    have c2 : ([110] : By).contains 115 = false := by decide
    have c3 : ([110] : By).contains 100 = false := by decide
    have c4 : ([110] : By).contains 110 = true := by decide
    have c5 : ([110] : By).contains 111 = false := by decide
    simp only [c1, c2, c3, c4, c5, Bool.or_true, Bool.or_false, Bool.true_and, Bool.and_true]))
  obtain ⟨b1, b2, b3, b4, b5, b6, b7⟩ := hb
  simp only at b1 b2 b3 b4 b5 b6 b7
  obtain ⟨W1, hW1⟩ : ∃ W1, W1 = w.alloc (.cells (⟨⟨#[116, 105, 99, 107]⟩, i, s, n, q, y⟩ : Dd).cells 27 (0, 0)) := ⟨_, rfl⟩
  have HB1 : Hid (Below w.heap.size w W1) := Lib.hid (hW1 ▸ below_alloc1 w _)
  have HAT : Hid ((⟨⟨#[116, 105, 99, 107]⟩, i, s, n, q, y⟩ : Dd).At W1 w.heap.size) := Lib.hid (hW1 ▸ (⟨⟨#[116, 105, 99, 107]⟩, i, s, n, q, y⟩ : Dd).box (Blk.new' w _ 27 rfl))
  generalize checkD (⟨⟨#[116, 105, 99, 107]⟩, i, s, n, q, y⟩ : Dd).dp = R at HCH ⊢
  go_enter Tryd.func12, Tryd.ntmps12
  go_upto_region 1 with (fail)
  rw [← hW1]
  clear hW1
  obtain ⟨f0, f1, f2, f3, f4, f5⟩ := HAT.out
  simp only at f0 f1 f2 f3 f4 f5
  have q1 : decide (i < 0) = false := decide_eq_false (by omega)
  have q2 : decide (1000000 < i) = false := decide_eq_false (by omega)
  have q3 : decide (n < 0) = false := decide_eq_false (by omega)
  have q4 : decide (1000000 < n) = false := decide_eq_false (by omega)
  have q5 : decide (s < 0) = false := decide_eq_false (by omega)
  have q6 : decide (1 < s) = false := decide_eq_false (by omega)
  have hZ : (y.size : Int) ≤ 2048 := by omega
  have q7 : decide (2048 < (y.size : Int)) = false := decide_eq_false (by omega)
  go_upto_region 4 with (fail)
  obtain ⟨W2, hW2⟩ : ∃ W2, W2 = W1.alloc (.cells #[.string ⟨#[116, 105, 99, 107]⟩, .int .i64 0, .int .i64 0, .int .i64 0, .bool false, .string ⟨#[]⟩] 27 (0, 0)) := ⟨_, rfl⟩
  obtain ⟨M, hM⟩ : ∃ M, M = W1.heap.size := ⟨_, rfl⟩
  have HB2 : Hid (Below w.heap.size w W2) := Lib.hid (hW2 ▸ below_al HB1.out _)
  have HBK : Hid (Blk W2 M #[.string ⟨#[116, 105, 99, 107]⟩, .int .i64 0, .int .i64 0, .int .i64 0, .bool false, .string ⟨#[]⟩] 27) := Lib.hid (hW2 ▸ Blk.new' W1 _ _ hM)
  have HAT2 : Hid ((⟨⟨#[116, 105, 99, 107]⟩, i, s, n, q, y⟩ : Dd).At W2 w.heap.size) := Lib.hid (hW2 ▸ HAT.out.below (below_alloc1 _ _))
  have HNM : Hid (w.heap.size ≠ M) := Lib.hid (by have := cell_lt f0; omega)
  have HMB : Hid (w.heap.size ≤ M) := Lib.hid (by have := cell_lt f0; omega)
  rw [← hW2, ← hM]
  clear hW2 hM f0 f1 f2 f3 f4 f5 HAT q1 q2 q3 q4 q5 q6 q7 hZ b1 b2 b3 b4 b5 b6 b7
  obtain ⟨f0, f1, f2, f3, f4, f5⟩ := HAT2.out
  simp only at f0 f1 f2 f3 f4 f5
  have z3 := HBK.out.frozen 3
  have m3 : W2.cell? ⟨M, 3, none⟩ = some (.int .i64 0) := (HBK.out.cell 3).trans rfl
  go_upto_region 19 with (fail)
  obtain ⟨W3, hW3⟩ : ∃ W3, W3 = (W2.setCell ⟨M, 3, none⟩ (.int .i64 n)) := ⟨_, rfl⟩
  have HBK3 : Hid (Blk W3 M #[.string ⟨#[116, 105, 99, 107]⟩, .int .i64 0, .int .i64 0, .int .i64 n, .bool false, .string ⟨#[]⟩] 27) := Lib.hid (hW3 ▸ (HBK.out.set 3 _))
  have HAT3 : Hid ((⟨⟨#[116, 105, 99, 107]⟩, i, s, n, q, y⟩ : Dd).At W3 w.heap.size) := Lib.hid (hW3 ▸ (HAT2.out.far HNM.out 3 _))
  have HB3 : Hid (Below w.heap.size w W3) := Lib.hid (hW3 ▸ (below_set HB2.out HMB.out 3 _))
  rw [← hW3]
  clear hW3 HAT2 f0 f1 f2 f3 f4 f5 z3 m3
  obtain ⟨f0, f1, f2, f3, f4, f5⟩ := HAT3.out
  simp only at f0 f1 f2 f3 f4 f5
  have m0 : W3.cell? ⟨M, 0, none⟩ = some (.string ⟨#[116, 105, 99, 107]⟩) := (HBK3.out.cell 0).trans rfl
  have m1 : W3.cell? ⟨M, 1, none⟩ = some (.int .i64 0) := (HBK3.out.cell 1).trans rfl
  have m2 : W3.cell? ⟨M, 2, none⟩ = some (.int .i64 0) := (HBK3.out.cell 2).trans rfl
  have m3 : W3.cell? ⟨M, 3, none⟩ = some (.int .i64 n) := (HBK3.out.cell 3).trans rfl
  have m4 : W3.cell? ⟨M, 4, none⟩ = some (.bool false) := (HBK3.out.cell 4).trans rfl
  have m5 : W3.cell? ⟨M, 5, none⟩ = some (.string ⟨#[]⟩) := (HBK3.out.cell 5).trans rfl
  go_wp2
  all_goals
    go_ret
    refine ⟨ret_bool ?_, HB3.out⟩
    rw [HCH.out]
    clear HB1 HCH HB2 HBK HNM HMB HBK3 HAT3 HB3 f0 f1 f2 f3 f4 f5 m0 m1 m2 m3 m4 m5
    symm
    first
      | (rw [Bool.eq_false_iff]
         intro h
         simp only [Bool.and_eq_true, decide_eq_true_eq, Bool.not_eq_true'] at h
         first
           | omega
           | (have hq := ‹q = true›; simp [hq] at h; done)
           | (have hy : ¬ bs y = [] := by first | assumption | (rw [← toList_bs]; assumption)
              simp [hy] at h; done))
      | (simp only [Bool.and_eq_true, decide_eq_true_eq, Bool.not_eq_true']
         and_intros <;> first | omega | exact Bool.eq_false_iff.2 (by assumption) | assumption | (rw [← toList_bs]; assumption))
set_option maxRecDepth 100000 in
set_option maxHeartbeats 800000 in
theorem refCheck_lose (i s n : Int) (q : Bool) (y : ByteArray) (w : World) (hb : Bnd (⟨⟨#[108, 111, 115, 101]⟩, i, s, n, q, y⟩ : Dd)) :
    Calls Tryd.prog 12 #[(⟨⟨#[108, 111, 115, 101]⟩, i, s, n, q, y⟩ : Dd).val] w fun e w' => e = .returned (.bool (checkD (⟨⟨#[108, 111, 115, 101]⟩, i, s, n, q, y⟩ : Dd).dp)) ∧ Below w.heap.size w w' := by
  have HCH : Hid (checkD (⟨⟨#[108, 111, 115, 101]⟩, i, s, n, q, y⟩ : Dd).dp = (decide (bs y = []) && decide (n = 0) && !q)) := Lib.hid ((chk_eq (w := [105, 115]) hb rfl).trans (by
    have c1 : ([105, 115] : By).contains 105 = true := by decide
    have c2 : ([105, 115] : By).contains 115 = true := by decide
    have c3 : ([105, 115] : By).contains 100 = false := by decide
    have c4 : ([105, 115] : By).contains 110 = false := by decide
    have c5 : ([105, 115] : By).contains 111 = false := by decide
    simp only [c1, c2, c3, c4, c5, Bool.or_true, Bool.or_false, Bool.true_and, Bool.and_true]))
  obtain ⟨b1, b2, b3, b4, b5, b6, b7⟩ := hb
  simp only at b1 b2 b3 b4 b5 b6 b7
  obtain ⟨W1, hW1⟩ : ∃ W1, W1 = w.alloc (.cells (⟨⟨#[108, 111, 115, 101]⟩, i, s, n, q, y⟩ : Dd).cells 27 (0, 0)) := ⟨_, rfl⟩
  have HB1 : Hid (Below w.heap.size w W1) := Lib.hid (hW1 ▸ below_alloc1 w _)
  have HAT : Hid ((⟨⟨#[108, 111, 115, 101]⟩, i, s, n, q, y⟩ : Dd).At W1 w.heap.size) := Lib.hid (hW1 ▸ (⟨⟨#[108, 111, 115, 101]⟩, i, s, n, q, y⟩ : Dd).box (Blk.new' w _ 27 rfl))
  generalize checkD (⟨⟨#[108, 111, 115, 101]⟩, i, s, n, q, y⟩ : Dd).dp = R at HCH ⊢
  go_enter Tryd.func12, Tryd.ntmps12
  go_upto_region 1 with (fail)
  rw [← hW1]
  clear hW1
  obtain ⟨f0, f1, f2, f3, f4, f5⟩ := HAT.out
  simp only at f0 f1 f2 f3 f4 f5
  have q1 : decide (i < 0) = false := decide_eq_false (by omega)
  have q2 : decide (1000000 < i) = false := decide_eq_false (by omega)
  have q3 : decide (n < 0) = false := decide_eq_false (by omega)
  have q4 : decide (1000000 < n) = false := decide_eq_false (by omega)
  have q5 : decide (s < 0) = false := decide_eq_false (by omega)
  have q6 : decide (1 < s) = false := decide_eq_false (by omega)
  have hZ : (y.size : Int) ≤ 2048 := by omega
  have q7 : decide (2048 < (y.size : Int)) = false := decide_eq_false (by omega)
  go_upto_region 4 with (fail)
  obtain ⟨W2, hW2⟩ : ∃ W2, W2 = W1.alloc (.cells #[.string ⟨#[108, 111, 115, 101]⟩, .int .i64 0, .int .i64 0, .int .i64 0, .bool false, .string ⟨#[]⟩] 27 (0, 0)) := ⟨_, rfl⟩
  obtain ⟨M, hM⟩ : ∃ M, M = W1.heap.size := ⟨_, rfl⟩
  have HB2 : Hid (Below w.heap.size w W2) := Lib.hid (hW2 ▸ below_al HB1.out _)
  have HBK : Hid (Blk W2 M #[.string ⟨#[108, 111, 115, 101]⟩, .int .i64 0, .int .i64 0, .int .i64 0, .bool false, .string ⟨#[]⟩] 27) := Lib.hid (hW2 ▸ Blk.new' W1 _ _ hM)
  have HAT2 : Hid ((⟨⟨#[108, 111, 115, 101]⟩, i, s, n, q, y⟩ : Dd).At W2 w.heap.size) := Lib.hid (hW2 ▸ HAT.out.below (below_alloc1 _ _))
  have HNM : Hid (w.heap.size ≠ M) := Lib.hid (by have := cell_lt f0; omega)
  have HMB : Hid (w.heap.size ≤ M) := Lib.hid (by have := cell_lt f0; omega)
  rw [← hW2, ← hM]
  clear hW2 hM f0 f1 f2 f3 f4 f5 HAT q1 q2 q3 q4 q5 q6 q7 hZ b1 b2 b3 b4 b5 b6 b7
  obtain ⟨f0, f1, f2, f3, f4, f5⟩ := HAT2.out
  simp only at f0 f1 f2 f3 f4 f5
  have z1 := HBK.out.frozen 1
  have m1 : W2.cell? ⟨M, 1, none⟩ = some (.int .i64 0) := (HBK.out.cell 1).trans rfl
  have z2 := HBK.out.frozen 2
  have m2 : W2.cell? ⟨M, 2, none⟩ = some (.int .i64 0) := (HBK.out.cell 2).trans rfl
  have hne := HNM.out
  go_upto_region 16 with (fail)
  go_region_held3 (fun wx => wx.cell? ⟨w.heap.size, 0, none⟩ = some (.string ⟨#[108, 111, 115, 101]⟩) ∧ wx.cell? ⟨w.heap.size, 1, none⟩ = some (.int .i64 i) ∧ wx.cell? ⟨w.heap.size, 2, none⟩ = some (.int .i64 s) ∧ wx.cell? ⟨w.heap.size, 3, none⟩ = some (.int .i64 n) ∧ wx.cell? ⟨w.heap.size, 4, none⟩ = some (.bool q) ∧ wx.cell? ⟨w.heap.size, 5, none⟩ = some (.string y))
    (first | exact ⟨f0, f1, f2, f3, f4, f5⟩ | (simp only [drewC, farC _ HNM.out]; exact ⟨f0, f1, f2, f3, f4, f5⟩))
    (fail)
  go_upto_region 19 with (fail)
  obtain ⟨W3, hW3⟩ : ∃ W3, W3 = ((W2.setCell ⟨M, 1, none⟩ (.int .i64 i)).setCell ⟨M, 2, none⟩ (.int .i64 s)).drew := ⟨_, rfl⟩
  have HBK3 : Hid (Blk W3 M #[.string ⟨#[108, 111, 115, 101]⟩, .int .i64 i, .int .i64 s, .int .i64 0, .bool false, .string ⟨#[]⟩] 27) := Lib.hid (hW3 ▸ ((HBK.out.set 1 _).set 2 _).drew1)
  have HAT3 : Hid ((⟨⟨#[108, 111, 115, 101]⟩, i, s, n, q, y⟩ : Dd).At W3 w.heap.size) := Lib.hid (hW3 ▸ (Dd.At.drew1 ((HAT2.out.far HNM.out 1 _).far HNM.out 2 _)))
  have HB3 : Hid (Below w.heap.size w W3) := Lib.hid (hW3 ▸ (below_drew1 (below_set (below_set HB2.out HMB.out 1 _) HMB.out 2 _)))
  rw [← hW3]
  clear hW3 HAT2 f0 f1 f2 f3 f4 f5 z1 m1 z2 m2 hne
  obtain ⟨f0, f1, f2, f3, f4, f5⟩ := HAT3.out
  simp only at f0 f1 f2 f3 f4 f5
  have m0 : W3.cell? ⟨M, 0, none⟩ = some (.string ⟨#[108, 111, 115, 101]⟩) := (HBK3.out.cell 0).trans rfl
  have m1 : W3.cell? ⟨M, 1, none⟩ = some (.int .i64 i) := (HBK3.out.cell 1).trans rfl
  have m2 : W3.cell? ⟨M, 2, none⟩ = some (.int .i64 s) := (HBK3.out.cell 2).trans rfl
  have m3 : W3.cell? ⟨M, 3, none⟩ = some (.int .i64 0) := (HBK3.out.cell 3).trans rfl
  have m4 : W3.cell? ⟨M, 4, none⟩ = some (.bool false) := (HBK3.out.cell 4).trans rfl
  have m5 : W3.cell? ⟨M, 5, none⟩ = some (.string ⟨#[]⟩) := (HBK3.out.cell 5).trans rfl
  go_wp2
  all_goals
    go_ret
    refine ⟨ret_bool ?_, HB3.out⟩
    rw [HCH.out]
    clear HB1 HCH HB2 HBK HNM HMB HBK3 HAT3 HB3 f0 f1 f2 f3 f4 f5 m0 m1 m2 m3 m4 m5
    symm
    first
      | (rw [Bool.eq_false_iff]
         intro h
         simp only [Bool.and_eq_true, decide_eq_true_eq, Bool.not_eq_true'] at h
         first
           | omega
           | (have hq := ‹q = true›; simp [hq] at h; done)
           | (have hy : ¬ bs y = [] := by first | assumption | (rw [← toList_bs]; assumption)
              simp [hy] at h; done))
      | (simp only [Bool.and_eq_true, decide_eq_true_eq, Bool.not_eq_true']
         and_intros <;> first | omega | exact Bool.eq_false_iff.2 (by assumption) | assumption | (rw [← toList_bs]; assumption))
set_option maxRecDepth 100000 in
set_option maxHeartbeats 800000 in
theorem refCheck_state (i s n : Int) (q : Bool) (y : ByteArray) (w : World) (hb : Bnd (⟨⟨#[115, 116, 97, 116, 101]⟩, i, s, n, q, y⟩ : Dd)) :
    Calls Tryd.prog 12 #[(⟨⟨#[115, 116, 97, 116, 101]⟩, i, s, n, q, y⟩ : Dd).val] w fun e w' => e = .returned (.bool (checkD (⟨⟨#[115, 116, 97, 116, 101]⟩, i, s, n, q, y⟩ : Dd).dp)) ∧ Below w.heap.size w w' := by
  have HCH : Hid (checkD (⟨⟨#[115, 116, 97, 116, 101]⟩, i, s, n, q, y⟩ : Dd).dp = (decide (s = 0) && decide (bs y = []) && decide (n = 0) && !q)) := Lib.hid ((chk_eq (w := [105]) hb rfl).trans (by
    have c1 : ([105] : By).contains 105 = true := by decide
    have c2 : ([105] : By).contains 115 = false := by decide
    have c3 : ([105] : By).contains 100 = false := by decide
    have c4 : ([105] : By).contains 110 = false := by decide
    have c5 : ([105] : By).contains 111 = false := by decide
    simp only [c1, c2, c3, c4, c5, Bool.or_true, Bool.or_false, Bool.true_and, Bool.and_true]))
  obtain ⟨b1, b2, b3, b4, b5, b6, b7⟩ := hb
  simp only at b1 b2 b3 b4 b5 b6 b7
  obtain ⟨W1, hW1⟩ : ∃ W1, W1 = w.alloc (.cells (⟨⟨#[115, 116, 97, 116, 101]⟩, i, s, n, q, y⟩ : Dd).cells 27 (0, 0)) := ⟨_, rfl⟩
  have HB1 : Hid (Below w.heap.size w W1) := Lib.hid (hW1 ▸ below_alloc1 w _)
  have HAT : Hid ((⟨⟨#[115, 116, 97, 116, 101]⟩, i, s, n, q, y⟩ : Dd).At W1 w.heap.size) := Lib.hid (hW1 ▸ (⟨⟨#[115, 116, 97, 116, 101]⟩, i, s, n, q, y⟩ : Dd).box (Blk.new' w _ 27 rfl))
  generalize checkD (⟨⟨#[115, 116, 97, 116, 101]⟩, i, s, n, q, y⟩ : Dd).dp = R at HCH ⊢
  go_enter Tryd.func12, Tryd.ntmps12
  go_upto_region 1 with (fail)
  rw [← hW1]
  clear hW1
  obtain ⟨f0, f1, f2, f3, f4, f5⟩ := HAT.out
  simp only at f0 f1 f2 f3 f4 f5
  have q1 : decide (i < 0) = false := decide_eq_false (by omega)
  have q2 : decide (1000000 < i) = false := decide_eq_false (by omega)
  have q3 : decide (n < 0) = false := decide_eq_false (by omega)
  have q4 : decide (1000000 < n) = false := decide_eq_false (by omega)
  have q5 : decide (s < 0) = false := decide_eq_false (by omega)
  have q6 : decide (1 < s) = false := decide_eq_false (by omega)
  have hZ : (y.size : Int) ≤ 2048 := by omega
  have q7 : decide (2048 < (y.size : Int)) = false := decide_eq_false (by omega)
  go_upto_region 4 with (fail)
  obtain ⟨W2, hW2⟩ : ∃ W2, W2 = W1.alloc (.cells #[.string ⟨#[115, 116, 97, 116, 101]⟩, .int .i64 0, .int .i64 0, .int .i64 0, .bool false, .string ⟨#[]⟩] 27 (0, 0)) := ⟨_, rfl⟩
  obtain ⟨M, hM⟩ : ∃ M, M = W1.heap.size := ⟨_, rfl⟩
  have HB2 : Hid (Below w.heap.size w W2) := Lib.hid (hW2 ▸ below_al HB1.out _)
  have HBK : Hid (Blk W2 M #[.string ⟨#[115, 116, 97, 116, 101]⟩, .int .i64 0, .int .i64 0, .int .i64 0, .bool false, .string ⟨#[]⟩] 27) := Lib.hid (hW2 ▸ Blk.new' W1 _ _ hM)
  have HAT2 : Hid ((⟨⟨#[115, 116, 97, 116, 101]⟩, i, s, n, q, y⟩ : Dd).At W2 w.heap.size) := Lib.hid (hW2 ▸ HAT.out.below (below_alloc1 _ _))
  have HNM : Hid (w.heap.size ≠ M) := Lib.hid (by have := cell_lt f0; omega)
  have HMB : Hid (w.heap.size ≤ M) := Lib.hid (by have := cell_lt f0; omega)
  rw [← hW2, ← hM]
  clear hW2 hM f0 f1 f2 f3 f4 f5 HAT q1 q2 q3 q4 q5 q6 q7 hZ b1 b2 b3 b4 b5 b6 b7
  obtain ⟨f0, f1, f2, f3, f4, f5⟩ := HAT2.out
  simp only at f0 f1 f2 f3 f4 f5
  have z1 := HBK.out.frozen 1
  have m1 : W2.cell? ⟨M, 1, none⟩ = some (.int .i64 0) := (HBK.out.cell 1).trans rfl
  go_upto_region 19 with (fail)
  obtain ⟨W3, hW3⟩ : ∃ W3, W3 = (W2.setCell ⟨M, 1, none⟩ (.int .i64 i)) := ⟨_, rfl⟩
  have HBK3 : Hid (Blk W3 M #[.string ⟨#[115, 116, 97, 116, 101]⟩, .int .i64 i, .int .i64 0, .int .i64 0, .bool false, .string ⟨#[]⟩] 27) := Lib.hid (hW3 ▸ (HBK.out.set 1 _))
  have HAT3 : Hid ((⟨⟨#[115, 116, 97, 116, 101]⟩, i, s, n, q, y⟩ : Dd).At W3 w.heap.size) := Lib.hid (hW3 ▸ (HAT2.out.far HNM.out 1 _))
  have HB3 : Hid (Below w.heap.size w W3) := Lib.hid (hW3 ▸ (below_set HB2.out HMB.out 1 _))
  rw [← hW3]
  clear hW3 HAT2 f0 f1 f2 f3 f4 f5 z1 m1
  obtain ⟨f0, f1, f2, f3, f4, f5⟩ := HAT3.out
  simp only at f0 f1 f2 f3 f4 f5
  have m0 : W3.cell? ⟨M, 0, none⟩ = some (.string ⟨#[115, 116, 97, 116, 101]⟩) := (HBK3.out.cell 0).trans rfl
  have m1 : W3.cell? ⟨M, 1, none⟩ = some (.int .i64 i) := (HBK3.out.cell 1).trans rfl
  have m2 : W3.cell? ⟨M, 2, none⟩ = some (.int .i64 0) := (HBK3.out.cell 2).trans rfl
  have m3 : W3.cell? ⟨M, 3, none⟩ = some (.int .i64 0) := (HBK3.out.cell 3).trans rfl
  have m4 : W3.cell? ⟨M, 4, none⟩ = some (.bool false) := (HBK3.out.cell 4).trans rfl
  have m5 : W3.cell? ⟨M, 5, none⟩ = some (.string ⟨#[]⟩) := (HBK3.out.cell 5).trans rfl
  go_wp2
  all_goals
    go_ret
    refine ⟨ret_bool ?_, HB3.out⟩
    rw [HCH.out]
    clear HB1 HCH HB2 HBK HNM HMB HBK3 HAT3 HB3 f0 f1 f2 f3 f4 f5 m0 m1 m2 m3 m4 m5
    symm
    first
      | (rw [Bool.eq_false_iff]
         intro h
         simp only [Bool.and_eq_true, decide_eq_true_eq, Bool.not_eq_true'] at h
         first
           | omega
           | (have hq := ‹q = true›; simp [hq] at h; done)
           | (have hy : ¬ bs y = [] := by first | assumption | (rw [← toList_bs]; assumption)
              simp [hy] at h; done))
      | (simp only [Bool.and_eq_true, decide_eq_true_eq, Bool.not_eq_true']
         and_intros <;> first | omega | exact Bool.eq_false_iff.2 (by assumption) | assumption | (rw [← toList_bs]; assumption))
/-- Whether a deed has a text, by the document, out of bounds. -/
theorem chk_out {d : Dd} (h : ¬ Bnd d) : checkD d.dp = false := Bool.eq_false_iff.2 fun e => h (bnd_of e)
end Go.Proofs.YtkodepckfdpaiaaDoor
