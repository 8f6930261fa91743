/- A deed that has a text, as it, by the document; condition: the deed has a text. -/
import Derived.Test.YtkodepckfdpaiaaDoorTb
import Derived.Test.YtkodepckfdpaiaaDoorSdw
import Derived.Lib.ItoaLen
import Derived.Deep.RegionHeld3
namespace Go.Proofs.YtkodepckfdpaiaaDoor
set_option linter.unusedSimpArgs false
set_option linter.unusedVariables false
open Go.RowKit
theorem keepL {W1 wx : World} {d : Dd} {N : Nat} (h : d.At W1 N) (hb : Hid (Below W1.heap.size W1 wx)) : wx.cell? ⟨N, 1, none⟩ = some (.int .i64 d.i) ∧ wx.cell? ⟨N, 2, none⟩ = some (.int .i64 d.s) ∧ wx.cell? ⟨N, 3, none⟩ = some (.int .i64 d.n) ∧ wx.cell? ⟨N, 5, none⟩ = some (.string d.d) ∧ Hid (Below W1.heap.size W1 wx) := by
  have k := h.below hb.out
  exact ⟨k.f1, k.f2, k.f3, k.f5, hb⟩
theorem app3 (a b c : By) : mk a ++ mk b = mk (a ++ b) := bs_inj (by rw [bs_app, bs_mk, bs_mk, bs_mk])
set_option maxRecDepth 100000 in
set_option maxHeartbeats 1600000 in
theorem refLine_accept (i s n : Int) (q : Bool) (y : ByteArray) (w : World) (hb : Bnd (⟨⟨#[97, 99, 99, 101, 112, 116]⟩, i, s, n, q, y⟩ : Dd)) :
    Calls Tryd.prog 26 #[(⟨⟨#[97, 99, 99, 101, 112, 116]⟩, i, s, n, q, y⟩ : Dd).val] w fun e w' => e = .returned (.string (mk (textD (⟨⟨#[97, 99, 99, 101, 112, 116]⟩, i, s, n, q, y⟩ : Dd).dp))) ∧ Below w.heap.size w w' := by
  obtain ⟨b1, b2, b3, b4, b5, b6, b7⟩ := hb
  simp only at b1 b2 b3 b4 b5 b6 b7
  have HTX : Hid (((⟨#[97, 99, 99, 101, 112, 116]⟩ : ByteArray)) ++ (⟨#[10]⟩ : ByteArray) = mk (textD (⟨⟨#[97, 99, 99, 101, 112, 116]⟩, i, s, n, q, y⟩ : Dd).dp)) := Lib.hid (bs_inj (by
    simp only [bs_app, bs_mk, textD, lineD, Dd.dp]
    simp [whatOf, kAccept, kFeed, kTake, kDialed, kTick, kLose, kState, fieldD]))
  have hxz : (mk (Lib.itoa i)).size ≤ 21 := by rw [mk_size]; exact Lib.itoa_length_le i (by omega) (by omega)
  have hyz : (mk (Lib.itoa s)).size ≤ 21 := by rw [mk_size]; exact Lib.itoa_length_le s (by omega) (by omega)
  have hvz : (mk (Lib.itoa n)).size ≤ 21 := by rw [mk_size]; exact Lib.itoa_length_le n (by omega) (by omega)
  have hzz : (mk (hexB (bs y))).size ≤ 4097 := by rw [mk_size, hexB_len, bs_length]; omega
  have hdi := fun w' => digits_callsW i w' (by omega) (by omega)
  have hds := fun w' => digits_callsW s w' (by omega) (by omega)
  have hdn := fun w' => digits_callsW n w' (by omega) (by omega)
  have hhx := fun w' => (refhex_calls y w' (by omega)).mono (R' := fun r w'' => r = .returned (.string (mk (hexB (bs y)))) ∧ Below w'.heap.size w' w'') fun r w'' ⟨h, k, hk⟩ => ⟨h, hk ▸ below_drewN1 _ _⟩
  generalize mk (textD (⟨⟨#[97, 99, 99, 101, 112, 116]⟩, i, s, n, q, y⟩ : Dd).dp) = T at HTX ⊢
  generalize mk (Lib.itoa i) = X at *
  generalize mk (Lib.itoa s) = Y at *
  generalize mk (Lib.itoa n) = V at *
  generalize mk (hexB (bs y)) = Z at *
  obtain ⟨W1, hW1⟩ : ∃ W1, W1 = w.alloc (.cells (⟨⟨#[97, 99, 99, 101, 112, 116]⟩, i, s, n, q, y⟩ : Dd).cells 27 (0, 0)) := ⟨_, rfl⟩
  have HB1 : Hid (Below w.heap.size w W1) := Lib.hid (hW1 ▸ below_alloc1 w _)
  have HAT : Hid ((⟨⟨#[97, 99, 99, 101, 112, 116]⟩, i, s, n, q, y⟩ : Dd).At W1 w.heap.size) := Lib.hid (hW1 ▸ (⟨⟨#[97, 99, 99, 101, 112, 116]⟩, i, s, n, q, y⟩ : Dd).box (Blk.new' w _ 27 rfl))
  clear b1 b2 b3 b4 b5 b6 b7
  go_enter Tryd.func26, Tryd.ntmps26
  go_upto_region 1 with (fail)
  rw [← hW1]
  clear hW1
  obtain ⟨f0, f1, f2, f3, f4, f5⟩ := HAT.out
  simp only at f0 f1 f2 f3 f4 f5
  go_wp2
  go_ret
  exact ⟨by rw [← HTX.out]; rfl, HB1.out⟩
set_option maxRecDepth 100000 in
set_option maxHeartbeats 1600000 in
theorem refLine_feed (i s n : Int) (q : Bool) (y : ByteArray) (w : World) (hb : Bnd (⟨⟨#[102, 101, 101, 100]⟩, i, s, n, q, y⟩ : Dd)) :
    Calls Tryd.prog 26 #[(⟨⟨#[102, 101, 101, 100]⟩, i, s, n, q, y⟩ : Dd).val] w fun e w' => e = .returned (.string (mk (textD (⟨⟨#[102, 101, 101, 100]⟩, i, s, n, q, y⟩ : Dd).dp))) ∧ Below w.heap.size w w' := by
  obtain ⟨b1, b2, b3, b4, b5, b6, b7⟩ := hb
  simp only at b1 b2 b3 b4 b5 b6 b7
  have HTX : Hid (((⟨#[102, 101, 101, 100]⟩ : ByteArray) ++ ((((((⟨#[32]⟩ : ByteArray) ++ mk (Lib.itoa i)) ++ (⟨#[32]⟩ : ByteArray)) ++ mk (Lib.itoa s)) ++ (⟨#[32]⟩ : ByteArray)) ++ mk (hexB (bs y)))) ++ (⟨#[10]⟩ : ByteArray) = mk (textD (⟨⟨#[102, 101, 101, 100]⟩, i, s, n, q, y⟩ : Dd).dp)) := Lib.hid (bs_inj (by
    simp only [bs_app, bs_mk, textD, lineD, Dd.dp]
    simp [whatOf, kAccept, kFeed, kTake, kDialed, kTick, kLose, kState, fieldD]))
  have hxz : (mk (Lib.itoa i)).size ≤ 21 := by rw [mk_size]; exact Lib.itoa_length_le i (by omega) (by omega)
  have hyz : (mk (Lib.itoa s)).size ≤ 21 := by rw [mk_size]; exact Lib.itoa_length_le s (by omega) (by omega)
  have hvz : (mk (Lib.itoa n)).size ≤ 21 := by rw [mk_size]; exact Lib.itoa_length_le n (by omega) (by omega)
  have hzz : (mk (hexB (bs y))).size ≤ 4097 := by rw [mk_size, hexB_len, bs_length]; omega
  have hdi := fun w' => digits_callsW i w' (by omega) (by omega)
  have hds := fun w' => digits_callsW s w' (by omega) (by omega)
  have hdn := fun w' => digits_callsW n w' (by omega) (by omega)
  have hhx := fun w' => (refhex_calls y w' (by omega)).mono (R' := fun r w'' => r = .returned (.string (mk (hexB (bs y)))) ∧ Below w'.heap.size w' w'') fun r w'' ⟨h, k, hk⟩ => ⟨h, hk ▸ below_drewN1 _ _⟩
  generalize mk (textD (⟨⟨#[102, 101, 101, 100]⟩, i, s, n, q, y⟩ : Dd).dp) = T at HTX ⊢
  generalize mk (Lib.itoa i) = X at *
  generalize mk (Lib.itoa s) = Y at *
  generalize mk (Lib.itoa n) = V at *
  generalize mk (hexB (bs y)) = Z at *
  obtain ⟨W1, hW1⟩ : ∃ W1, W1 = w.alloc (.cells (⟨⟨#[102, 101, 101, 100]⟩, i, s, n, q, y⟩ : Dd).cells 27 (0, 0)) := ⟨_, rfl⟩
  have HB1 : Hid (Below w.heap.size w W1) := Lib.hid (hW1 ▸ below_alloc1 w _)
  have HAT : Hid ((⟨⟨#[102, 101, 101, 100]⟩, i, s, n, q, y⟩ : Dd).At W1 w.heap.size) := Lib.hid (hW1 ▸ (⟨⟨#[102, 101, 101, 100]⟩, i, s, n, q, y⟩ : Dd).box (Blk.new' w _ 27 rfl))
  clear b1 b2 b3 b4 b5 b6 b7
  go_enter Tryd.func26, Tryd.ntmps26
  go_upto_region 1 with (fail)
  rw [← hW1]
  clear hW1
  obtain ⟨f0, f1, f2, f3, f4, f5⟩ := HAT.out
  simp only at f0 f1 f2 f3 f4 f5
  have n1 : ¬ 9223372036854775807 < 1 + X.size := by omega
  have n2 : ¬ 9223372036854775807 < 1 + X.size + 1 := by omega
  have n3 : ¬ 9223372036854775807 < 1 + X.size + 1 + Y.size := by omega
  have n4 : ¬ 9223372036854775807 < 1 + X.size + 1 + Y.size + 1 := by omega
  have n5 : ¬ 9223372036854775807 < 1 + X.size + 1 + Y.size + 1 + Z.size := by omega
  have n6 : ¬ 9223372036854775807 < 4 + (1 + X.size + 1 + Y.size + 1 + Z.size) := by omega
  go_upto_region 4 with (fail)
  clear f0 f1 f2 f3 f4 f5
  go_region_held3 (fun wx => wx.cell? ⟨w.heap.size, 1, none⟩ = some (.int .i64 i) ∧ wx.cell? ⟨w.heap.size, 2, none⟩ = some (.int .i64 s) ∧ wx.cell? ⟨w.heap.size, 3, none⟩ = some (.int .i64 n) ∧ wx.cell? ⟨w.heap.size, 5, none⟩ = some (.string y) ∧ Hid (Below W1.heap.size W1 wx))
    ((refine keepL HAT.out ?_; first | assumption | exact Lib.hid (Below.refl _ _) | exact Lib.hid (below_drew1 (Below.refl _ _)) | exact Lib.hid (below_drewN (Hid.out (by assumption)) _)))
    (first
      | (go_at_call 33
         refine (hhx _).mono ?_
         rintro e w4 ⟨rfl, hb⟩
         have HB4 : Hid (Below W1.heap.size W1 w4) := Lib.hid (bt (by first | exact Hid.out (by assumption) | exact below_drew1 (Below.refl _ _)) hb)
         clear hb)
      | (go_at_call 32
         first
           | (with_reducible refine (hdi _).mono ?_)
           | (with_reducible refine (hds _).mono ?_)
           | (with_reducible refine (hdn _).mono ?_)
         rintro e w3 ⟨rfl, hb⟩
         have HB3 : Hid (Below W1.heap.size W1 w3) := Lib.hid (bt (by first | exact Hid.out (by assumption) | exact below_drew1 (Below.refl _ _)) hb)
         clear hb))
  all_goals
    go_wp2
    go_ret
    refine ⟨by rw [← HTX.out]; rfl, ?_⟩
    exact bt HB1.out (Hid.out (by assumption))
set_option maxRecDepth 100000 in
set_option maxHeartbeats 1600000 in
theorem refLine_take (i s n : Int) (q : Bool) (y : ByteArray) (w : World) (hb : Bnd (⟨⟨#[116, 97, 107, 101]⟩, i, s, n, q, y⟩ : Dd)) :
    Calls Tryd.prog 26 #[(⟨⟨#[116, 97, 107, 101]⟩, i, s, n, q, y⟩ : Dd).val] w fun e w' => e = .returned (.string (mk (textD (⟨⟨#[116, 97, 107, 101]⟩, i, s, n, q, y⟩ : Dd).dp))) ∧ Below w.heap.size w w' := by
  obtain ⟨b1, b2, b3, b4, b5, b6, b7⟩ := hb
  simp only at b1 b2 b3 b4 b5 b6 b7
  have HTX : Hid (((⟨#[116, 97, 107, 101]⟩ : ByteArray) ++ ((((((⟨#[32]⟩ : ByteArray) ++ mk (Lib.itoa i)) ++ (⟨#[32]⟩ : ByteArray)) ++ mk (Lib.itoa s)) ++ (⟨#[32]⟩ : ByteArray)) ++ mk (Lib.itoa n))) ++ (⟨#[10]⟩ : ByteArray) = mk (textD (⟨⟨#[116, 97, 107, 101]⟩, i, s, n, q, y⟩ : Dd).dp)) := Lib.hid (bs_inj (by
    simp only [bs_app, bs_mk, textD, lineD, Dd.dp]
    simp [whatOf, kAccept, kFeed, kTake, kDialed, kTick, kLose, kState, fieldD]))
  have hxz : (mk (Lib.itoa i)).size ≤ 21 := by rw [mk_size]; exact Lib.itoa_length_le i (by omega) (by omega)
  have hyz : (mk (Lib.itoa s)).size ≤ 21 := by rw [mk_size]; exact Lib.itoa_length_le s (by omega) (by omega)
  have hvz : (mk (Lib.itoa n)).size ≤ 21 := by rw [mk_size]; exact Lib.itoa_length_le n (by omega) (by omega)
  have hzz : (mk (hexB (bs y))).size ≤ 4097 := by rw [mk_size, hexB_len, bs_length]; omega
  have hdi := fun w' => digits_callsW i w' (by omega) (by omega)
  have hds := fun w' => digits_callsW s w' (by omega) (by omega)
  have hdn := fun w' => digits_callsW n w' (by omega) (by omega)
  have hhx := fun w' => (refhex_calls y w' (by omega)).mono (R' := fun r w'' => r = .returned (.string (mk (hexB (bs y)))) ∧ Below w'.heap.size w' w'') fun r w'' ⟨h, k, hk⟩ => ⟨h, hk ▸ below_drewN1 _ _⟩
  generalize mk (textD (⟨⟨#[116, 97, 107, 101]⟩, i, s, n, q, y⟩ : Dd).dp) = T at HTX ⊢
  generalize mk (Lib.itoa i) = X at *
  generalize mk (Lib.itoa s) = Y at *
  generalize mk (Lib.itoa n) = V at *
  generalize mk (hexB (bs y)) = Z at *
  obtain ⟨W1, hW1⟩ : ∃ W1, W1 = w.alloc (.cells (⟨⟨#[116, 97, 107, 101]⟩, i, s, n, q, y⟩ : Dd).cells 27 (0, 0)) := ⟨_, rfl⟩
  have HB1 : Hid (Below w.heap.size w W1) := Lib.hid (hW1 ▸ below_alloc1 w _)
  have HAT : Hid ((⟨⟨#[116, 97, 107, 101]⟩, i, s, n, q, y⟩ : Dd).At W1 w.heap.size) := Lib.hid (hW1 ▸ (⟨⟨#[116, 97, 107, 101]⟩, i, s, n, q, y⟩ : Dd).box (Blk.new' w _ 27 rfl))
  clear b1 b2 b3 b4 b5 b6 b7
  go_enter Tryd.func26, Tryd.ntmps26
  go_upto_region 1 with (fail)
  rw [← hW1]
  clear hW1
  obtain ⟨f0, f1, f2, f3, f4, f5⟩ := HAT.out
  simp only at f0 f1 f2 f3 f4 f5
  have n1 : ¬ 9223372036854775807 < 1 + X.size := by omega
  have n2 : ¬ 9223372036854775807 < 1 + X.size + 1 := by omega
  have n3 : ¬ 9223372036854775807 < 1 + X.size + 1 + Y.size := by omega
  have n4 : ¬ 9223372036854775807 < 1 + X.size + 1 + Y.size + 1 := by omega
  have n5 : ¬ 9223372036854775807 < 1 + X.size + 1 + Y.size + 1 + V.size := by omega
  have n6 : ¬ 9223372036854775807 < 4 + (1 + X.size + 1 + Y.size + 1 + V.size) := by omega
  go_upto_region 6 with (fail)
  clear f0 f1 f2 f3 f4 f5
  go_region_held3 (fun wx => wx.cell? ⟨w.heap.size, 1, none⟩ = some (.int .i64 i) ∧ wx.cell? ⟨w.heap.size, 2, none⟩ = some (.int .i64 s) ∧ wx.cell? ⟨w.heap.size, 3, none⟩ = some (.int .i64 n) ∧ wx.cell? ⟨w.heap.size, 5, none⟩ = some (.string y) ∧ Hid (Below W1.heap.size W1 wx))
    ((refine keepL HAT.out ?_; first | assumption | exact Lib.hid (Below.refl _ _) | exact Lib.hid (below_drew1 (Below.refl _ _)) | exact Lib.hid (below_drewN (Hid.out (by assumption)) _)))
    (first
      | (go_at_call 33
         refine (hhx _).mono ?_
         rintro e w4 ⟨rfl, hb⟩
         have HB4 : Hid (Below W1.heap.size W1 w4) := Lib.hid (bt (by first | exact Hid.out (by assumption) | exact below_drew1 (Below.refl _ _)) hb)
         clear hb)
      | (go_at_call 32
         first
           | (with_reducible refine (hdi _).mono ?_)
           | (with_reducible refine (hds _).mono ?_)
           | (with_reducible refine (hdn _).mono ?_)
         rintro e w3 ⟨rfl, hb⟩
         have HB3 : Hid (Below W1.heap.size W1 w3) := Lib.hid (bt (by first | exact Hid.out (by assumption) | exact below_drew1 (Below.refl _ _)) hb)
         clear hb))
  all_goals
    go_wp2
    go_ret
    refine ⟨by rw [← HTX.out]; rfl, ?_⟩
    exact bt HB1.out (Hid.out (by assumption))
set_option maxRecDepth 100000 in
set_option maxHeartbeats 1600000 in
theorem refLine_dialed_yes (i s n : Int) (y : ByteArray) (w : World) (hb : Bnd (⟨⟨#[100, 105, 97, 108, 101, 100]⟩, i, s, n, true, y⟩ : Dd)) :
    Calls Tryd.prog 26 #[(⟨⟨#[100, 105, 97, 108, 101, 100]⟩, i, s, n, true, y⟩ : Dd).val] w fun e w' => e = .returned (.string (mk (textD (⟨⟨#[100, 105, 97, 108, 101, 100]⟩, i, s, n, true, y⟩ : Dd).dp))) ∧ Below w.heap.size w w' := by
  obtain ⟨b1, b2, b3, b4, b5, b6, b7⟩ := hb
  simp only at b1 b2 b3 b4 b5 b6 b7
  have HTX : Hid (((⟨#[100, 105, 97, 108, 101, 100]⟩ : ByteArray) ++ (((⟨#[32]⟩ : ByteArray) ++ mk (Lib.itoa i)) ++ (⟨#[32, 49]⟩ : ByteArray))) ++ (⟨#[10]⟩ : ByteArray) = mk (textD (⟨⟨#[100, 105, 97, 108, 101, 100]⟩, i, s, n, true, y⟩ : Dd).dp)) := Lib.hid (bs_inj (by
    simp only [bs_app, bs_mk, textD, lineD, Dd.dp]
    simp [whatOf, kAccept, kFeed, kTake, kDialed, kTick, kLose, kState, fieldD]))
  have hxz : (mk (Lib.itoa i)).size ≤ 21 := by rw [mk_size]; exact Lib.itoa_length_le i (by omega) (by omega)
  have hyz : (mk (Lib.itoa s)).size ≤ 21 := by rw [mk_size]; exact Lib.itoa_length_le s (by omega) (by omega)
  have hvz : (mk (Lib.itoa n)).size ≤ 21 := by rw [mk_size]; exact Lib.itoa_length_le n (by omega) (by omega)
  have hzz : (mk (hexB (bs y))).size ≤ 4097 := by rw [mk_size, hexB_len, bs_length]; omega
  have hdi := fun w' => digits_callsW i w' (by omega) (by omega)
  have hds := fun w' => digits_callsW s w' (by omega) (by omega)
  have hdn := fun w' => digits_callsW n w' (by omega) (by omega)
  have hhx := fun w' => (refhex_calls y w' (by omega)).mono (R' := fun r w'' => r = .returned (.string (mk (hexB (bs y)))) ∧ Below w'.heap.size w' w'') fun r w'' ⟨h, k, hk⟩ => ⟨h, hk ▸ below_drewN1 _ _⟩
  generalize mk (textD (⟨⟨#[100, 105, 97, 108, 101, 100]⟩, i, s, n, true, y⟩ : Dd).dp) = T at HTX ⊢
  generalize mk (Lib.itoa i) = X at *
  generalize mk (Lib.itoa s) = Y at *
  generalize mk (Lib.itoa n) = V at *
  generalize mk (hexB (bs y)) = Z at *
  obtain ⟨W1, hW1⟩ : ∃ W1, W1 = w.alloc (.cells (⟨⟨#[100, 105, 97, 108, 101, 100]⟩, i, s, n, true, y⟩ : Dd).cells 27 (0, 0)) := ⟨_, rfl⟩
  have HB1 : Hid (Below w.heap.size w W1) := Lib.hid (hW1 ▸ below_alloc1 w _)
  have HAT : Hid ((⟨⟨#[100, 105, 97, 108, 101, 100]⟩, i, s, n, true, y⟩ : Dd).At W1 w.heap.size) := Lib.hid (hW1 ▸ (⟨⟨#[100, 105, 97, 108, 101, 100]⟩, i, s, n, true, y⟩ : Dd).box (Blk.new' w _ 27 rfl))
  clear b1 b2 b3 b4 b5 b6 b7
  go_enter Tryd.func26, Tryd.ntmps26
  go_upto_region 1 with (fail)
  rw [← hW1]
  clear hW1
  obtain ⟨f0, f1, f2, f3, f4, f5⟩ := HAT.out
  simp only at f0 f1 f2 f3 f4 f5
  go_wp2_with (go_at_call 32; refine (hdi _).mono ?_; rintro r w3 ⟨rfl, hb⟩; have HB3 := Lib.hid (bt HB1.out hb); clear hb)
  go_ret
  exact ⟨by rw [← HTX.out]; rfl, HB3.out⟩
set_option maxRecDepth 100000 in
set_option maxHeartbeats 1600000 in
theorem refLine_dialed_no (i s n : Int) (y : ByteArray) (w : World) (hb : Bnd (⟨⟨#[100, 105, 97, 108, 101, 100]⟩, i, s, n, false, y⟩ : Dd)) :
    Calls Tryd.prog 26 #[(⟨⟨#[100, 105, 97, 108, 101, 100]⟩, i, s, n, false, y⟩ : Dd).val] w fun e w' => e = .returned (.string (mk (textD (⟨⟨#[100, 105, 97, 108, 101, 100]⟩, i, s, n, false, y⟩ : Dd).dp))) ∧ Below w.heap.size w w' := by
  obtain ⟨b1, b2, b3, b4, b5, b6, b7⟩ := hb
  simp only at b1 b2 b3 b4 b5 b6 b7
  have HTX : Hid (((⟨#[100, 105, 97, 108, 101, 100]⟩ : ByteArray) ++ (((⟨#[32]⟩ : ByteArray) ++ mk (Lib.itoa i)) ++ (⟨#[32, 48]⟩ : ByteArray))) ++ (⟨#[10]⟩ : ByteArray) = mk (textD (⟨⟨#[100, 105, 97, 108, 101, 100]⟩, i, s, n, false, y⟩ : Dd).dp)) := Lib.hid (bs_inj (by
    simp only [bs_app, bs_mk, textD, lineD, Dd.dp]
    simp [whatOf, kAccept, kFeed, kTake, kDialed, kTick, kLose, kState, fieldD]))
  have hxz : (mk (Lib.itoa i)).size ≤ 21 := by rw [mk_size]; exact Lib.itoa_length_le i (by omega) (by omega)
  have hyz : (mk (Lib.itoa s)).size ≤ 21 := by rw [mk_size]; exact Lib.itoa_length_le s (by omega) (by omega)
  have hvz : (mk (Lib.itoa n)).size ≤ 21 := by rw [mk_size]; exact Lib.itoa_length_le n (by omega) (by omega)
  have hzz : (mk (hexB (bs y))).size ≤ 4097 := by rw [mk_size, hexB_len, bs_length]; omega
  have hdi := fun w' => digits_callsW i w' (by omega) (by omega)
  have hds := fun w' => digits_callsW s w' (by omega) (by omega)
  have hdn := fun w' => digits_callsW n w' (by omega) (by omega)
  have hhx := fun w' => (refhex_calls y w' (by omega)).mono (R' := fun r w'' => r = .returned (.string (mk (hexB (bs y)))) ∧ Below w'.heap.size w' w'') fun r w'' ⟨h, k, hk⟩ => ⟨h, hk ▸ below_drewN1 _ _⟩
  generalize mk (textD (⟨⟨#[100, 105, 97, 108, 101, 100]⟩, i, s, n, false, y⟩ : Dd).dp) = T at HTX ⊢
  generalize mk (Lib.itoa i) = X at *
  generalize mk (Lib.itoa s) = Y at *
  generalize mk (Lib.itoa n) = V at *
  generalize mk (hexB (bs y)) = Z at *
  obtain ⟨W1, hW1⟩ : ∃ W1, W1 = w.alloc (.cells (⟨⟨#[100, 105, 97, 108, 101, 100]⟩, i, s, n, false, y⟩ : Dd).cells 27 (0, 0)) := ⟨_, rfl⟩
  have HB1 : Hid (Below w.heap.size w W1) := Lib.hid (hW1 ▸ below_alloc1 w _)
  have HAT : Hid ((⟨⟨#[100, 105, 97, 108, 101, 100]⟩, i, s, n, false, y⟩ : Dd).At W1 w.heap.size) := Lib.hid (hW1 ▸ (⟨⟨#[100, 105, 97, 108, 101, 100]⟩, i, s, n, false, y⟩ : Dd).box (Blk.new' w _ 27 rfl))
  clear b1 b2 b3 b4 b5 b6 b7
  go_enter Tryd.func26, Tryd.ntmps26
  go_upto_region 1 with (fail)
  rw [← hW1]
  clear hW1
  obtain ⟨f0, f1, f2, f3, f4, f5⟩ := HAT.out
  simp only at f0 f1 f2 f3 f4 f5
  go_wp2_with (go_at_call 32; refine (hdi _).mono ?_; rintro r w3 ⟨rfl, hb⟩; have HB3 := Lib.hid (bt HB1.out hb); clear hb)
  go_ret
  exact ⟨by rw [← HTX.out]; rfl, HB3.out⟩
set_option maxRecDepth 100000 in
set_option maxHeartbeats 1600000 in
theorem refLine_tick (i s n : Int) (q : Bool) (y : ByteArray) (w : World) (hb : Bnd (⟨⟨#[116, 105, 99, 107]⟩, i, s, n, q, y⟩ : Dd)) :
    Calls Tryd.prog 26 #[(⟨⟨#[116, 105, 99, 107]⟩, i, s, n, q, y⟩ : Dd).val] w fun e w' => e = .returned (.string (mk (textD (⟨⟨#[116, 105, 99, 107]⟩, i, s, n, q, y⟩ : Dd).dp))) ∧ Below w.heap.size w w' := by
  obtain ⟨b1, b2, b3, b4, b5, b6, b7⟩ := hb
  simp only at b1 b2 b3 b4 b5 b6 b7
  have HTX : Hid (((⟨#[116, 105, 99, 107]⟩ : ByteArray) ++ ((⟨#[32]⟩ : ByteArray) ++ mk (Lib.itoa n))) ++ (⟨#[10]⟩ : ByteArray) = mk (textD (⟨⟨#[116, 105, 99, 107]⟩, i, s, n, q, y⟩ : Dd).dp)) := Lib.hid (bs_inj (by
    simp only [bs_app, bs_mk, textD, lineD, Dd.dp]
    simp [whatOf, kAccept, kFeed, kTake, kDialed, kTick, kLose, kState, fieldD]))
  have hxz : (mk (Lib.itoa i)).size ≤ 21 := by rw [mk_size]; exact Lib.itoa_length_le i (by omega) (by omega)
  have hyz : (mk (Lib.itoa s)).size ≤ 21 := by rw [mk_size]; exact Lib.itoa_length_le s (by omega) (by omega)
  have hvz : (mk (Lib.itoa n)).size ≤ 21 := by rw [mk_size]; exact Lib.itoa_length_le n (by omega) (by omega)
  have hzz : (mk (hexB (bs y))).size ≤ 4097 := by rw [mk_size, hexB_len, bs_length]; omega
  have hdi := fun w' => digits_callsW i w' (by omega) (by omega)
  have hds := fun w' => digits_callsW s w' (by omega) (by omega)
  have hdn := fun w' => digits_callsW n w' (by omega) (by omega)
  have hhx := fun w' => (refhex_calls y w' (by omega)).mono (R' := fun r w'' => r = .returned (.string (mk (hexB (bs y)))) ∧ Below w'.heap.size w' w'') fun r w'' ⟨h, k, hk⟩ => ⟨h, hk ▸ below_drewN1 _ _⟩
  generalize mk (textD (⟨⟨#[116, 105, 99, 107]⟩, i, s, n, q, y⟩ : Dd).dp) = T at HTX ⊢
  generalize mk (Lib.itoa i) = X at *
  generalize mk (Lib.itoa s) = Y at *
  generalize mk (Lib.itoa n) = V at *
  generalize mk (hexB (bs y)) = Z at *
  obtain ⟨W1, hW1⟩ : ∃ W1, W1 = w.alloc (.cells (⟨⟨#[116, 105, 99, 107]⟩, i, s, n, q, y⟩ : Dd).cells 27 (0, 0)) := ⟨_, rfl⟩
  have HB1 : Hid (Below w.heap.size w W1) := Lib.hid (hW1 ▸ below_alloc1 w _)
  have HAT : Hid ((⟨⟨#[116, 105, 99, 107]⟩, i, s, n, q, y⟩ : Dd).At W1 w.heap.size) := Lib.hid (hW1 ▸ (⟨⟨#[116, 105, 99, 107]⟩, i, s, n, q, y⟩ : Dd).box (Blk.new' w _ 27 rfl))
  clear b1 b2 b3 b4 b5 b6 b7
  go_enter Tryd.func26, Tryd.ntmps26
  go_upto_region 1 with (fail)
  rw [← hW1]
  clear hW1
  obtain ⟨f0, f1, f2, f3, f4, f5⟩ := HAT.out
  simp only at f0 f1 f2 f3 f4 f5
  go_wp2_with (go_at_call 32; refine (hdn _).mono ?_; rintro r w3 ⟨rfl, hb⟩; have HB3 := Lib.hid (bt HB1.out hb); clear hb)
  go_ret
  exact ⟨by rw [← HTX.out]; rfl, HB3.out⟩
set_option maxRecDepth 100000 in
set_option maxHeartbeats 1600000 in
theorem refLine_lose (i s n : Int) (q : Bool) (y : ByteArray) (w : World) (hb : Bnd (⟨⟨#[108, 111, 115, 101]⟩, i, s, n, q, y⟩ : Dd)) :
    Calls Tryd.prog 26 #[(⟨⟨#[108, 111, 115, 101]⟩, i, s, n, q, y⟩ : Dd).val] w fun e w' => e = .returned (.string (mk (textD (⟨⟨#[108, 111, 115, 101]⟩, i, s, n, q, y⟩ : Dd).dp))) ∧ Below w.heap.size w w' := by
  obtain ⟨b1, b2, b3, b4, b5, b6, b7⟩ := hb
  simp only at b1 b2 b3 b4 b5 b6 b7
  have HTX : Hid (((⟨#[108, 111, 115, 101]⟩ : ByteArray) ++ ((((⟨#[32]⟩ : ByteArray) ++ mk (Lib.itoa i)) ++ (⟨#[32]⟩ : ByteArray)) ++ mk (Lib.itoa s))) ++ (⟨#[10]⟩ : ByteArray) = mk (textD (⟨⟨#[108, 111, 115, 101]⟩, i, s, n, q, y⟩ : Dd).dp)) := Lib.hid (bs_inj (by
    simp only [bs_app, bs_mk, textD, lineD, Dd.dp]
    simp [whatOf, kAccept, kFeed, kTake, kDialed, kTick, kLose, kState, fieldD]))
  have hxz : (mk (Lib.itoa i)).size ≤ 21 := by rw [mk_size]; exact Lib.itoa_length_le i (by omega) (by omega)
  have hyz : (mk (Lib.itoa s)).size ≤ 21 := by rw [mk_size]; exact Lib.itoa_length_le s (by omega) (by omega)
  have hvz : (mk (Lib.itoa n)).size ≤ 21 := by rw [mk_size]; exact Lib.itoa_length_le n (by omega) (by omega)
  have hzz : (mk (hexB (bs y))).size ≤ 4097 := by rw [mk_size, hexB_len, bs_length]; omega
  have hdi := fun w' => digits_callsW i w' (by omega) (by omega)
  have hds := fun w' => digits_callsW s w' (by omega) (by omega)
  have hdn := fun w' => digits_callsW n w' (by omega) (by omega)
  have hhx := fun w' => (refhex_calls y w' (by omega)).mono (R' := fun r w'' => r = .returned (.string (mk (hexB (bs y)))) ∧ Below w'.heap.size w' w'') fun r w'' ⟨h, k, hk⟩ => ⟨h, hk ▸ below_drewN1 _ _⟩
  generalize mk (textD (⟨⟨#[108, 111, 115, 101]⟩, i, s, n, q, y⟩ : Dd).dp) = T at HTX ⊢
  generalize mk (Lib.itoa i) = X at *
  generalize mk (Lib.itoa s) = Y at *
  generalize mk (Lib.itoa n) = V at *
  generalize mk (hexB (bs y)) = Z at *
  obtain ⟨W1, hW1⟩ : ∃ W1, W1 = w.alloc (.cells (⟨⟨#[108, 111, 115, 101]⟩, i, s, n, q, y⟩ : Dd).cells 27 (0, 0)) := ⟨_, rfl⟩
  have HB1 : Hid (Below w.heap.size w W1) := Lib.hid (hW1 ▸ below_alloc1 w _)
  have HAT : Hid ((⟨⟨#[108, 111, 115, 101]⟩, i, s, n, q, y⟩ : Dd).At W1 w.heap.size) := Lib.hid (hW1 ▸ (⟨⟨#[108, 111, 115, 101]⟩, i, s, n, q, y⟩ : Dd).box (Blk.new' w _ 27 rfl))
  clear b1 b2 b3 b4 b5 b6 b7
  go_enter Tryd.func26, Tryd.ntmps26
  go_upto_region 1 with (fail)
  rw [← hW1]
  clear hW1
  obtain ⟨f0, f1, f2, f3, f4, f5⟩ := HAT.out
  simp only at f0 f1 f2 f3 f4 f5
  have n1 : ¬ 9223372036854775807 < 1 + X.size := by omega
  have n2 : ¬ 9223372036854775807 < 1 + X.size + 1 := by omega
  have n3 : ¬ 9223372036854775807 < 1 + X.size + 1 + Y.size := by omega
  have n4 : ¬ 9223372036854775807 < 4 + (1 + X.size + 1 + Y.size) := by omega
  go_upto_region 14 with (fail)
  clear f0 f1 f2 f3 f4 f5
  go_region_held3 (fun wx => wx.cell? ⟨w.heap.size, 1, none⟩ = some (.int .i64 i) ∧ wx.cell? ⟨w.heap.size, 2, none⟩ = some (.int .i64 s) ∧ wx.cell? ⟨w.heap.size, 3, none⟩ = some (.int .i64 n) ∧ wx.cell? ⟨w.heap.size, 5, none⟩ = some (.string y) ∧ Hid (Below W1.heap.size W1 wx))
    ((refine keepL HAT.out ?_; first | assumption | exact Lib.hid (Below.refl _ _) | exact Lib.hid (below_drew1 (Below.refl _ _)) | exact Lib.hid (below_drewN (Hid.out (by assumption)) _)))
    (first
      | (go_at_call 33
         refine (hhx _).mono ?_
         rintro e w4 ⟨rfl, hb⟩
         have HB4 : Hid (Below W1.heap.size W1 w4) := Lib.hid (bt (by first | exact Hid.out (by assumption) | exact below_drew1 (Below.refl _ _)) hb)
         clear hb)
      | (go_at_call 32
         first
           | (with_reducible refine (hdi _).mono ?_)
           | (with_reducible refine (hds _).mono ?_)
           | (with_reducible refine (hdn _).mono ?_)
         rintro e w3 ⟨rfl, hb⟩
         have HB3 : Hid (Below W1.heap.size W1 w3) := Lib.hid (bt (by first | exact Hid.out (by assumption) | exact below_drew1 (Below.refl _ _)) hb)
         clear hb))
  all_goals
    go_wp2
    go_ret
    refine ⟨by rw [← HTX.out]; rfl, ?_⟩
    exact bt HB1.out (Hid.out (by assumption))
set_option maxRecDepth 100000 in
set_option maxHeartbeats 1600000 in
theorem refLine_state (i s n : Int) (q : Bool) (y : ByteArray) (w : World) (hb : Bnd (⟨⟨#[115, 116, 97, 116, 101]⟩, i, s, n, q, y⟩ : Dd)) :
    Calls Tryd.prog 26 #[(⟨⟨#[115, 116, 97, 116, 101]⟩, i, s, n, q, y⟩ : Dd).val] w fun e w' => e = .returned (.string (mk (textD (⟨⟨#[115, 116, 97, 116, 101]⟩, i, s, n, q, y⟩ : Dd).dp))) ∧ Below w.heap.size w w' := by
  obtain ⟨b1, b2, b3, b4, b5, b6, b7⟩ := hb
  simp only at b1 b2 b3 b4 b5 b6 b7
  have HTX : Hid (((⟨#[115, 116, 97, 116, 101]⟩ : ByteArray) ++ ((⟨#[32]⟩ : ByteArray) ++ mk (Lib.itoa i))) ++ (⟨#[10]⟩ : ByteArray) = mk (textD (⟨⟨#[115, 116, 97, 116, 101]⟩, i, s, n, q, y⟩ : Dd).dp)) := Lib.hid (bs_inj (by
    simp only [bs_app, bs_mk, textD, lineD, Dd.dp]
    simp [whatOf, kAccept, kFeed, kTake, kDialed, kTick, kLose, kState, fieldD]))
  have hxz : (mk (Lib.itoa i)).size ≤ 21 := by rw [mk_size]; exact Lib.itoa_length_le i (by omega) (by omega)
  have hyz : (mk (Lib.itoa s)).size ≤ 21 := by rw [mk_size]; exact Lib.itoa_length_le s (by omega) (by omega)
  have hvz : (mk (Lib.itoa n)).size ≤ 21 := by rw [mk_size]; exact Lib.itoa_length_le n (by omega) (by omega)
  have hzz : (mk (hexB (bs y))).size ≤ 4097 := by rw [mk_size, hexB_len, bs_length]; omega
  have hdi := fun w' => digits_callsW i w' (by omega) (by omega)
  have hds := fun w' => digits_callsW s w' (by omega) (by omega)
  have hdn := fun w' => digits_callsW n w' (by omega) (by omega)
  have hhx := fun w' => (refhex_calls y w' (by omega)).mono (R' := fun r w'' => r = .returned (.string (mk (hexB (bs y)))) ∧ Below w'.heap.size w' w'') fun r w'' ⟨h, k, hk⟩ => ⟨h, hk ▸ below_drewN1 _ _⟩
  generalize mk (textD (⟨⟨#[115, 116, 97, 116, 101]⟩, i, s, n, q, y⟩ : Dd).dp) = T at HTX ⊢
  generalize mk (Lib.itoa i) = X at *
  generalize mk (Lib.itoa s) = Y at *
  generalize mk (Lib.itoa n) = V at *
  generalize mk (hexB (bs y)) = Z at *
  obtain ⟨W1, hW1⟩ : ∃ W1, W1 = w.alloc (.cells (⟨⟨#[115, 116, 97, 116, 101]⟩, i, s, n, q, y⟩ : Dd).cells 27 (0, 0)) := ⟨_, rfl⟩
  have HB1 : Hid (Below w.heap.size w W1) := Lib.hid (hW1 ▸ below_alloc1 w _)
  have HAT : Hid ((⟨⟨#[115, 116, 97, 116, 101]⟩, i, s, n, q, y⟩ : Dd).At W1 w.heap.size) := Lib.hid (hW1 ▸ (⟨⟨#[115, 116, 97, 116, 101]⟩, i, s, n, q, y⟩ : Dd).box (Blk.new' w _ 27 rfl))
  clear b1 b2 b3 b4 b5 b6 b7
  go_enter Tryd.func26, Tryd.ntmps26
  go_upto_region 1 with (fail)
  rw [← hW1]
  clear hW1
  obtain ⟨f0, f1, f2, f3, f4, f5⟩ := HAT.out
  simp only at f0 f1 f2 f3 f4 f5
  go_wp2_with (go_at_call 32; refine (hdi _).mono ?_; rintro r w3 ⟨rfl, hb⟩; have HB3 := Lib.hid (bt HB1.out hb); clear hb)
  go_ret
  exact ⟨by rw [← HTX.out]; rfl, HB3.out⟩
end Go.Proofs.YtkodepckfdpaiaaDoor
