/- Bytes as digits, numbers as digits, by the document; conditions: strings of lengths that a world can hold. -/
import Derived.Test.YtkodepckfdpaiaaDoorSb
namespace Go.Proofs.YtkodepckfdpaiaaDoor
set_option linter.unusedSimpArgs false
set_option linter.unusedVariables false
open Go.RowKit
structure Drawn2 (w w' : World) : Prop where mk :: (out : ∃ n, w' = w.drewN n)
theorem slice_hex (i : Int) (n : Nat) (hi : i = n) (h : n < 16) (w : World) : (Instr.slice 9 (.string ⟨#[48, 49, 50, 51, 52, 53, 54, 55, 56, 57, 97, 98, 99, 100, 101, 102]⟩) (some (.int .u8 i)) (some (.int .u8 (i + 1))) none).run Tryd.prog w = .ok (.string ⟨#[hexD.getD n 0]⟩) w := by
  subst hi
  have hs : (⟨#[48, 49, 50, 51, 52, 53, 54, 55, 56, 57, 97, 98, 99, 100, 101, 102]⟩ : ByteArray).size = 16 := rfl
  have e := run_slice_string (P := Tryd.prog) w 9 ⟨#[48, 49, 50, 51, 52, 53, 54, 55, 56, 57, 97, 98, 99, 100, 101, 102]⟩ .u8 .u8 (n : Int) ((n : Int) + 1) Tryd.underlying9 (by omega) (by omega) (by rw [hs]; omega)
  rw [e, Int.toNat_natCast, show ((n : Int) + 1).toNat = n + 1 by omega]
  have hall : ∀ n : Fin 16, (⟨#[48, 49, 50, 51, 52, 53, 54, 55, 56, 57, 97, 98, 99, 100, 101, 102]⟩ : ByteArray).extract n.val (n.val + 1) = ⟨#[hexD.getD n.val 0]⟩ := by decide +kernel
  rw [hall ⟨n, h⟩]
set_option maxRecDepth 100000 in
set_option maxHeartbeats 1000000 in
theorem refhex_calls (s : ByteArray) (w : World) (hs : s.size ≤ 100000) :
    Calls Tryd.prog 33 #[.string s] w fun e w' => e = .returned (.string (mk (hexB (bs s)))) ∧ ∃ n, w' = w.drewN n := by
  go_enter Tryd.func33, Tryd.ntmps33
  go_wp2
  go_loopg [3, 4] s.size (fun gh v3 v4 wx => ∃ (k : Nat) (t : ByteArray), v4 = .int .i64 k ∧ k + gh = s.size ∧ v3 = .string t ∧ t.size ≤ 200001 ∧ Hid (bs t = hexB ((bs s).take k)) ∧ Hid (Drawn2 w wx))
  case atStart => exact ⟨0, ⟨#[120]⟩, rfl, by omega, rfl, by decide, Lib.hid rfl, Lib.hid ⟨0, rfl⟩⟩
  case round =>
    obtain ⟨k, t, rfl, hk, rfl, ht, HT, HD⟩ := hrel
    obtain ⟨m, rfl⟩ := HD.out.out
    by_cases hlt : k < s.size
    · have hc := s[k].toNat_lt
      have hi1 := fun w => slice_hex ((s[k].toNat : Int) / 16) (s[k].toNat / 16) (by omega) (by omega) w
      have hi2 := fun w => slice_hex ((s[k].toNat : Int) % 16) (s[k].toNat % 16) (by omega) (by omega) w
      have HE := Lib.hid (hexB_take s k hlt)
      have HC := Lib.hid (hexC_def s[k])
      have HLN := Lib.hid (hexB_len ((bs s).take (k + 1)))
      have hx1 : (⟨#[hexD.getD (s[k].toNat / 16) 0]⟩ : ByteArray).size = 1 := rfl
      have hx2 : (⟨#[hexD.getD (s[k].toNat % 16) 0]⟩ : ByteArray).size = 1 := rfl
      have HX1 : Hid (bs ⟨#[hexD.getD (s[k].toNat / 16) 0]⟩ = [hexD.getD (s[k].toNat / 16) 0]) := Lib.hid rfl
      have HX2 : Hid (bs ⟨#[hexD.getD (s[k].toNat % 16) 0]⟩ = [hexD.getD (s[k].toNat % 16) 0]) := Lib.hid rfl
      generalize (⟨#[hexD.getD (s[k].toNat / 16) 0]⟩ : ByteArray) = x1 at hi1 hx1 HX1
      generalize (⟨#[hexD.getD (s[k].toNat % 16) 0]⟩ : ByteArray) = x2 at hi2 hx2 HX2
      have hx1' : x1.size ≤ 1 := by omega
      have hx2' : x2.size ≤ 1 := by omega
      clear hx1 hx2
      go_upto_region 5 with (fail)
      go_quiet (fail)
      go_wp2
      go_roundg (s.size - (k + 1))
      case measure => omega
      case rel =>
        have hb : bs (t ++ (x1 ++ x2)) = hexB ((bs s).take (k + 1)) := by
          rw [HE.out, HC.out, bs_app, bs_app, HT.out, HX1.out, HX2.out]; rfl
        refine ⟨k + 1, _, by go_num, by omega, rfl, ?_, Lib.hid hb, Lib.hid ⟨_, rfl⟩⟩
        have := HLN.out
        rw [← hb, bs_length, List.length_take, bs_length] at this
        omega
    · have HE : Hid (t = mk (hexB (bs s))) := Lib.hid (bs_inj (HT.out.trans (by
        rw [List.take_of_length_le (by rw [bs_length]; omega)])))
      go_wp2
      go_ret
      exact ⟨by rw [HE.out]; rfl, m, rfl⟩
theorem dec_next (n : Nat) : Lib.decDigits n = (if n / 10 = 0 then [] else Lib.decDigits (n / 10)) ++ [UInt8.ofNat (48 + n % 10)] := by
  by_cases h : n < 10
  · rw [Lib.decDigits, dif_pos h, if_pos (by omega), Nat.mod_eq_of_lt h]; rfl
  · rw [Lib.decDigits, dif_neg h, if_neg (by omega)]
theorem ten25 {n : Nat} (h : n ≤ 4611686018427387904) : n < 10 ^ 25 := by
  have : (10 : Nat) ^ 25 = 10000000000000000000000000 := by decide
  omega
set_option maxRecDepth 100000 in
set_option maxHeartbeats 1000000 in
theorem digits_pos (n : Nat) (w : World) (hn : n ≤ 4611686018427387904) :
    Calls Tryd.prog 32 #[.int .i64 (n : Int)] w fun e w' => e = .returned (.string (mk (Lib.itoa n))) ∧ Below w.heap.size w w' := by
  have HR := Lib.hid (itoa_nat n)
  generalize Lib.itoa (n : Int) = R at HR ⊢
  go_enter Tryd.func32, Tryd.ntmps32
  go_wp2
  go_loopg [0, 3] 25 (fun gh v0 v3 wx => ∃ (m : Nat) (t : ByteArray), v0 = .int .i64 m ∧ v3 = .string t ∧ t.size + gh = 25 ∧ m ≤ 4611686018427387904 ∧ Hid (m < 10 ^ gh) ∧ Hid ((t.size = 0 ∧ m = n) ∨ (0 < t.size ∧ Lib.decDigits n = (if m = 0 then [] else Lib.decDigits m) ++ bs t)) ∧ Hid (Below w.heap.size w wx))
  case atStart => exact ⟨n, ⟨#[]⟩, rfl, rfl, rfl, hn, Lib.hid (ten25 hn), Lib.hid (.inl ⟨rfl, rfl⟩), Lib.hid (Below.refl _ _)⟩
  case round =>
    obtain ⟨m, t, rfl, rfl, ht, hm, HP, HS, HB⟩ := hrel
    by_cases hgo : t.size = 0 ∨ 0 < m
    · have hg1 : 1 ≤ gk := by
        rcases hgo with h | h
        · omega
        · have := HP.out
          rcases Nat.eq_zero_or_pos gk with h0 | h0
          · rw [h0] at this; omega
          · exact h0
      obtain ⟨d, hd⟩ : ∃ d, d = UInt8.ofNat (48 + m % 10) := ⟨_, rfl⟩
      have hdn : d.toNat = 48 + m % 10 := by rw [hd]; simp; omega
      have hX : (48 : Int) + (m : Int) % 10 = (d.toNat : Int) := by omega
      have hW : IntKind.u8.wrap (d.toNat : Int) = (d.toNat : Int) := by rw [IntKind.wrap_u8]; omega
      have HN : Hid ((if m = 0 then [] else Lib.decDigits m) = (if m / 10 = 0 then [] else Lib.decDigits (m / 10)) ++ [d] ∨ m = 0) := Lib.hid (by
        by_cases h0 : m = 0
        · exact .inr h0
        · refine .inl ?_
          rw [if_neg h0, dec_next m, hd])
      have HN2 := Lib.hid (dec_next m)
      rw [← hd] at HN2
      have hcv : (convert 49 9 (.slice (some ⟨wr.heap.size, 0, none⟩) 1 1)).run Tryd.prog (wr.alloc (.cells #[.int .u8 d.toNat] 5 (0, 0))) = .ok (.string ⟨[d].toArray⟩) (wr.alloc (.cells #[.int .u8 d.toNat] 5 (0, 0))) := conv_str (w := wr.alloc (.cells #[.int .u8 d.toNat] 5 (0, 0))) (A := some ⟨wr.heap.size, 0, none⟩) (l := [d]) 1 (bys_blk (Blk.new' _ _ _ rfl) _ rfl)
      have hsz : (⟨[d].toArray⟩ : ByteArray).size = 1 := rfl
      have HD1 : Hid (bs ⟨[d].toArray⟩ = [d]) := Lib.hid rfl
      generalize (⟨[d].toArray⟩ : ByteArray) = x at hcv hsz HD1
      have HSZ := Lib.hid hsz
      have hsz1 : x.size ≤ 1 := by omega
      have HDN := Lib.hid hdn
      clear hd hdn hsz
      have htz : t.size ≤ 25 := by omega
      by_cases h0 : t.size = 0
      all_goals
        first
          | (have he : t.toList.isEmpty = true := by
               rw [isEmpty_iff, List.isEmpty_iff]; exact List.eq_nil_of_length_eq_zero (by rw [bs_length]; exact h0))
          | (have he : t.toList.isEmpty = false := by
               rw [isEmpty_iff, List.isEmpty_eq_false_iff]; exact fun e => h0 (by rw [← bs_length, e]; rfl)
             have hmp : 0 < m := hgo.resolve_left h0)
        have HH0 := Lib.hid h0
        have HHG := Lib.hid hgo
        clear h0 hgo
        go_wp2
        go_roundg (gk - 1)
        case measure => omega
        case rel =>
          refine ⟨m / 10, x ++ t, by go_num, rfl, ?_, by omega, Lib.hid ?_, Lib.hid (.inr ⟨?_, ?_⟩), Lib.hid (below_al HB.out _)⟩
          · rw [ByteArray.size_append, HSZ.out]; omega
          · have := HP.out
            obtain ⟨g, rfl⟩ : ∃ g, gk = g + 1 := ⟨gk - 1, by omega⟩
            rw [Nat.pow_succ] at this
            rw [Nat.add_sub_cancel]
            omega
          · rw [ByteArray.size_append, HSZ.out]; omega
          · rw [bs_app, HD1.out]
            rcases HS.out with ⟨hs1, hs2⟩ | ⟨hs1, hs2⟩
            · have hbt : bs t = [] := List.eq_nil_of_length_eq_zero (by rw [bs_length]; exact hs1)
              rw [hbt, List.append_nil, ← hs2, HN2.out]
            · rw [hs2]
              rcases HN.out with h | h
              · rw [h, List.append_assoc]
              · exfalso
                have := HHG.out
                omega
    · have hm0 : m = 0 := by omega
      have he : t.toList.isEmpty = false := by
        rw [isEmpty_iff, List.isEmpty_eq_false_iff]; exact fun e => hgo (.inl (by rw [← bs_length, e]; rfl))
      have hR : t = mk R := bs_inj (by
        refine Eq.trans ?_ (bs_mk R).symm
        rw [HR.out]
        rcases HS.out with ⟨hs1, hs2⟩ | ⟨hs1, hs2⟩
        · exact absurd (.inl hs1) hgo
        · rw [hs2, if_pos hm0]; rfl)
      have HRR := Lib.hid hR
      clear hR hgo HS
      subst hm0
      go_wp2
      go_ret
      exact ⟨by rw [HRR.out]; rfl, HB.out⟩
end Go.Proofs.YtkodepckfdpaiaaDoor
