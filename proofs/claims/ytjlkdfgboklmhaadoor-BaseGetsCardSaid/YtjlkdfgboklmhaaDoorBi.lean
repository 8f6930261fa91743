/- The law BaseOnes: of every two bytes, it answers yes. -/
import Derived.Test.YtjlkdfgboklmhaaDoorBf
import Derived.BigQuiet
namespace Go.Proofs.YtjlkdfgboklmhaaDoor
set_option linter.unusedSimpArgs false
set_option linter.unusedVariables false
open Go.RowKit
theorem u8_nat {m : Nat} (h : m ≤ 255) : (m.toUInt8).toNat = m := by
  show (UInt8.ofNat m).toNat = m
  rw [UInt8.toNat_ofNat']; omega
theorem letN_ne (n : Nat) : letN n ≠ 61 := by
  unfold letN
  repeat' split
  all_goals omega
theorem bys_blk {w : World} {g : Nat} {cs : Array Value} {t : TypeId} (h : Blk w g cs t) (l : List UInt8) (he : cs = (bcells l).toArray) : Bys w (some ⟨g, 0, none⟩) l := fun i hi => by
  refine ⟨g, 0, rfl, ?_⟩
  rw [h.cell, he, Nat.zero_add]
  show ((bcells l).toArray)[i]? = _
  rw [List.getElem?_toArray]
  show (l.map _)[i]? = _
  rw [List.getElem?_map, List.getElem?_eq_getElem hi]; rfl
theorem put_new (w : World) (l : List UInt8) (hl : l.length ≤ 1000) : Calls Tryd.prog 12 #[.slice (some ⟨w.heap.size, 0, none⟩) l.length l.length] (w.alloc (.cells (bcells l).toArray 5)) fun e w' =>
    e = .returned (.string ⟨(putB l).toArray⟩) ∧ Below w.heap.size w w' :=
  (Put_calls (some ⟨w.heap.size, 0, none⟩) l l.length _ hl (Nat.le_refl _) (by unfold maxLen; omega) (bys_blk (Blk.new' w _ _ rfl) l rfl)).mono fun e w' ⟨he, hb⟩ => ⟨he, (below_alloc1 w _).trans (hb.mono (below_alloc1 w _).size)⟩
set_option maxRecDepth 100000 in
set_option maxHeartbeats 4000000 in
theorem BaseOnes_calls (a b : UInt8) (w : World) :
    Calls Tryd.prog 10 #[.int .u8 a.toNat, .int .u8 b.toNat] w fun e w' => e = .returned (.bool true) ∧ Below w.heap.size w w' := by
  have p1 : ∀ w : World, Calls Tryd.prog 12 #[.slice (some ⟨w.heap.size, 0, none⟩) 1 1] (w.alloc (.cells #[.int .u8 a.toNat] 5)) fun e w' => e = .returned (.string ⟨(putB [a]).toArray⟩) ∧ Below w.heap.size w w' := fun w => put_new w [a] (by show (_ : Nat) ≤ 1000; simp)
  have p2 : ∀ w : World, Calls Tryd.prog 12 #[.slice (some ⟨w.heap.size, 0, none⟩) 2 2] (w.alloc (.cells #[.int .u8 a.toNat, .int .u8 b.toNat] 5)) fun e w' => e = .returned (.string ⟨(putB [a, b]).toArray⟩) ∧ Below w.heap.size w w' := fun w => put_new w [a, b] (by show (_ : Nat) ≤ 1000; simp)
  have p3 : ∀ w : World, Calls Tryd.prog 12 #[.slice (some ⟨w.heap.size, 0, none⟩) 3 3] (w.alloc (.cells #[.int .u8 a.toNat, .int .u8 b.toNat, .int .u8 0] 5)) fun e w' => e = .returned (.string ⟨(putB [a, b, 0]).toArray⟩) ∧ Below w.heap.size w w' := fun w => put_new w [a, b, 0] (by show (_ : Nat) ≤ 1000; simp)
  obtain ⟨x, hx⟩ : ∃ x : ByteArray, x = ⟨(putB [a]).toArray⟩ := ⟨_, rfl⟩
  obtain ⟨y, hy⟩ : ∃ y : ByteArray, y = ⟨(putB [a, b]).toArray⟩ := ⟨_, rfl⟩
  obtain ⟨z, hz⟩ : ∃ z : ByteArray, z = ⟨(putB [a, b, 0]).toArray⟩ := ⟨_, rfl⟩
  rw [← hx] at p1
  rw [← hy] at p2
  rw [← hz] at p3
  have ha := UInt8.toNat_lt a
  have hb := UInt8.toNat_lt b
  have sx : x.size = 4 := by rw [hx]; rfl
  have sy : y.size = 4 := by rw [hy]; rfl
  have sz : z.size = 4 := by rw [hz]; rfl
  have ex : x.extract 2 4 = ⟨#[61, 61]⟩ := by rw [hx]; rfl
  have ey : y.extract 3 4 = ⟨#[61]⟩ := by rw [hy]; rfl
  have ez : z.extract 0 3 = y.extract 0 3 := by rw [hz, hy]; rfl
  have iy : (((y[2]'(by omega)).toNat : Int) != 61) = true := by
    rw [bne_iff_ne]
    have e : (y[2]'(by omega)).toNat = letN ((a.toNat * 65536 + b.toNat * 256 + 0) / 64 % 64) := by subst hy; exact u8_let _
    rw [e]
    have := letN_ne ((a.toNat * 65536 + b.toNat * 256 + 0) / 64 % 64)
    omega
  have ixy : (((x[0]'(by omega)).toNat : Int) == ((y[0]'(by omega)).toNat : Int)) = true := by
    rw [beq_iff_eq]
    have e1 : (x[0]'(by omega)).toNat = letN ((a.toNat * 65536 + 0 * 256 + 0) / 262144) := by subst hx; exact u8_let _
    have e2 : (y[0]'(by omega)).toNat = letN ((a.toNat * 65536 + b.toNat * 256 + 0) / 262144) := by subst hy; exact u8_let _
    rw [e1, e2, show (a.toNat * 65536 + 0 * 256 + 0) / 262144 = (a.toNat * 65536 + b.toNat * 256 + 0) / 262144 by omega]
  have iz : (((z[3]'(by omega)).toNat : Int) == 65) = true := by
    rw [beq_iff_eq]
    have e1 : (z[3]'(by omega)).toNat = letN ((a.toNat * 65536 + b.toNat * 256 + 0) % 64) := by subst hz; exact u8_let _
    rw [e1, show (a.toNat * 65536 + b.toNat * 256 + 0) % 64 = 0 by omega]; rfl
  clear hx hy hz
  go_enter Tryd.func10, Tryd.ntmps10
  go_upto_region 3 with (first
    | (go_at_call 12; (with_reducible refine (p1 _).mono ?_); rintro e w1 ⟨rfl, hb1⟩; have H1 := Lib.hid hb1; clear hb1)
    | (go_at_call 12; (with_reducible refine (p2 _).mono ?_); rintro e w2 ⟨rfl, hb2⟩; have H2 := Lib.hid hb2; clear hb2)
    | (go_at_call 12; (with_reducible refine (p3 _).mono ?_); rintro e w3 ⟨rfl, hb3⟩; have H3 := Lib.hid hb3; clear hb3))
  have HB3 := Lib.hid ((H1.out.trans (H2.out.mono H1.out.size)).trans (H3.out.mono (Nat.le_trans H1.out.size H2.out.size)))
  clear p1 p2 p3
  go_region_held3 (fun wx => Hid (Below w.heap.size w wx))
    (first
      | assumption
      | exact Lib.hid (below_drew1 (Hid.out (by assumption))))
    (first
      | (go_at_call 11; refine (awake_calls _).mono ?_; rintro e w4 ⟨rfl, hb4⟩
         have HB4 : Hid (Below w.heap.size w w4) := Lib.hid (Below.trans (by repeat' first | exact Hid.out (by assumption) | refine below_drew1 ?_) (hb4.mono (Below.size (by repeat' first | exact Hid.out (by assumption) | refine below_drew1 ?_))))
         clear hb4)
      | fail)
  all_goals
    go_wp2
    go_ret
    exact ⟨rfl, Hid.out (by assumption)⟩
end Go.Proofs.YtjlkdfgboklmhaaDoor
