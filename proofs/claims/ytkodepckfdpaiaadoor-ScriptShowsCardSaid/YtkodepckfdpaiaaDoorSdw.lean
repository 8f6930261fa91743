/- Numbers as digits by the document, to the type's own bound (Sc, Sd have them to a smaller one). -/
import Derived.Test.YtkodepckfdpaiaaDoorSd
namespace Go.Proofs.YtkodepckfdpaiaaDoor
set_option linter.unusedSimpArgs false
set_option linter.unusedVariables false
open Go.RowKit
theorem ten25W {n : Nat} (h : n ≤ 9223372036854775807) : n < 10 ^ 25 := by
  have : (10 : Nat) ^ 25 = 10000000000000000000000000 := by decide
  omega
set_option maxRecDepth 100000 in
set_option maxHeartbeats 1000000 in
theorem digits_posW (n : Nat) (w : World) (hn : n ≤ 9223372036854775807) :
    Calls Tryd.prog 32 #[.int .i64 (n : Int)] w fun e w' => e = .returned (.string (mk (Lib.itoa n))) ∧ Below w.heap.size w w' := by
  have HR := Lib.hid (itoa_nat n)
  generalize Lib.itoa (n : Int) = R at HR ⊢
  go_enter Tryd.func32, Tryd.ntmps32
  go_wp2
  go_loopg [0, 3] 25 (fun gh v0 v3 wx => ∃ (m : Nat) (t : ByteArray), v0 = .int .i64 m ∧ v3 = .string t ∧ t.size + gh = 25 ∧ m ≤ 9223372036854775807 ∧ Hid (m < 10 ^ gh) ∧ Hid ((t.size = 0 ∧ m = n) ∨ (0 < t.size ∧ Lib.decDigits n = (if m = 0 then [] else Lib.decDigits m) ++ bs t)) ∧ Hid (Below w.heap.size w wx))
  case atStart => exact ⟨n, ⟨#[]⟩, rfl, rfl, rfl, hn, Lib.hid (ten25W hn), Lib.hid (.inl ⟨rfl, rfl⟩), Lib.hid (Below.refl _ _)⟩
  case round =>
    obtain ⟨m, t, rfl, rfl, ht, hm, HP, HS, HB⟩ := hrel
    by_cases hgo : t.size = 0 ∨ 0 < m
    · have hg1 : 1 ≤ gk := by
        rcases hgo with h | h
        · omega
        · have := HP.out
          rcases Nat.eq_zero_or_pos gk with h0 | h0
          · rw [h0] at this; omega
          · exact h0
      obtain ⟨d, hd⟩ : ∃ d, d = UInt8.ofNat (48 + m % 10) := ⟨_, rfl⟩
      have hdn : d.toNat = 48 + m % 10 := by rw [hd]; simp; omega
      have hX : (48 : Int) + (m : Int) % 10 = (d.toNat : Int) := by omega
      have hW : IntKind.u8.wrap (d.toNat : Int) = (d.toNat : Int) := by rw [IntKind.wrap_u8]; omega
      have HN : Hid ((if m = 0 then [] else Lib.decDigits m) = (if m / 10 = 0 then [] else Lib.decDigits (m / 10)) ++ [d] ∨ m = 0) := Lib.hid (by
        by_cases h0 : m = 0
        · exact .inr h0
        · refine .inl ?_
          rw [if_neg h0, dec_next m, hd])
      have HN2 := Lib.hid (dec_next m)
      rw [← hd] at HN2
      have hcv : (convert 49 9 (.slice (some ⟨wr.heap.size, 0, none⟩) 1 1)).run Tryd.prog (wr.alloc (.cells #[.int .u8 d.toNat] 5 (0, 0))) = .ok (.string ⟨[d].toArray⟩) (wr.alloc (.cells #[.int .u8 d.toNat] 5 (0, 0))) := conv_str (w := wr.alloc (.cells #[.int .u8 d.toNat] 5 (0, 0))) (A := some ⟨wr.heap.size, 0, none⟩) (l := [d]) 1 (bys_blk (Blk.new' _ _ _ rfl) _ rfl)
      have hsz : (⟨[d].toArray⟩ : ByteArray).size = 1 := rfl
      have HD1 : Hid (bs ⟨[d].toArray⟩ = [d]) := Lib.hid rfl
      generalize (⟨[d].toArray⟩ : ByteArray) = x at hcv hsz HD1
      have HSZ := Lib.hid hsz
      have hsz1 : x.size ≤ 1 := by omega
      have HDN := Lib.hid hdn
      clear hd hdn hsz
      have htz : t.size ≤ 25 := by omega
      by_cases h0 : t.size = 0
      all_goals
        first
          | (have he : t.toList.isEmpty = true := by
               rw [isEmpty_iff, List.isEmpty_iff]; exact List.eq_nil_of_length_eq_zero (by rw [bs_length]; exact h0))
          | (have he : t.toList.isEmpty = false := by
               rw [isEmpty_iff, List.isEmpty_eq_false_iff]; exact fun e => h0 (by rw [← bs_length, e]; rfl)
             have hmp : 0 < m := hgo.resolve_left h0)
        have HH0 := Lib.hid h0
        have HHG := Lib.hid hgo
        clear h0 hgo
        go_wp2
        go_roundg (gk - 1)
        case measure => omega
        case rel =>
          refine ⟨m / 10, x ++ t, by go_num, rfl, ?_, by omega, Lib.hid ?_, Lib.hid (.inr ⟨?_, ?_⟩), Lib.hid (below_al HB.out _)⟩
          · rw [ByteArray.size_append, HSZ.out]; omega
          · have := HP.out
            obtain ⟨g, rfl⟩ : ∃ g, gk = g + 1 := ⟨gk - 1, by omega⟩
            rw [Nat.pow_succ] at this
            rw [Nat.add_sub_cancel]
            omega
          · rw [ByteArray.size_append, HSZ.out]; omega
          · rw [bs_app, HD1.out]
            rcases HS.out with ⟨hs1, hs2⟩ | ⟨hs1, hs2⟩
            · have hbt : bs t = [] := List.eq_nil_of_length_eq_zero (by rw [bs_length]; exact hs1)
              rw [hbt, List.append_nil, ← hs2, HN2.out]
            · rw [hs2]
              rcases HN.out with h | h
              · rw [h, List.append_assoc]
              · exfalso
                have := HHG.out
                omega
    · have hm0 : m = 0 := by omega
      have he : t.toList.isEmpty = false := by
        rw [isEmpty_iff, List.isEmpty_eq_false_iff]; exact fun e => hgo (.inl (by rw [← bs_length, e]; rfl))
      have hR : t = mk R := bs_inj (by
        refine Eq.trans ?_ (bs_mk R).symm
        rw [HR.out]
        rcases HS.out with ⟨hs1, hs2⟩ | ⟨hs1, hs2⟩
        · exact absurd (.inl hs1) hgo
        · rw [hs2, if_pos hm0]; rfl)
      have HRR := Lib.hid hR
      clear hR hgo HS
      subst hm0
      go_wp2
      go_ret
      exact ⟨by rw [HRR.out]; rfl, HB.out⟩
theorem itoa_lenW (n : Nat) (h : n ≤ 9223372036854775807) : (Lib.itoa (n : Int)).length ≤ 100 := by
  rw [itoa_nat]
  have : ∀ k m : Nat, m < 10 ^ (k + 1) → (Lib.decDigits m).length ≤ k + 1 := by
    intro k
    induction k with
    | zero =>
      intro m hm
      rw [Lib.decDigits, dif_pos (by simpa using hm)]; simp
    | succ k ih =>
      intro m hm
      rw [Lib.decDigits]
      split
      · simp
      · rw [List.length_append]
        have := ih (m / 10) (by rw [Nat.pow_succ] at hm; omega)
        simp only [List.length_cons, List.length_nil]
        omega
  have h2 := this 24 n (ten25W h)
  omega
set_option maxRecDepth 100000 in
theorem digits_callsW (n : Int) (w : World) (h0 : -9223372036854775807 ≤ n) (h1 : n ≤ 9223372036854775807) :
    Calls Tryd.prog 32 #[.int .i64 n] w fun e w' => e = .returned (.string (mk (Lib.itoa n))) ∧ Below w.heap.size w w' := by
  by_cases hn : n < 0
  · obtain ⟨m, hm⟩ : ∃ m : Nat, -n = m := ⟨n.natAbs, by omega⟩
    have hd := fun w => digits_posW m w (by omega)
    have he : Lib.itoa n = 45 :: Lib.itoa (m : Int) := by
      rw [itoa_nat]
      unfold Lib.itoa
      rw [if_pos hn, show n.natAbs = m by omega]
    have hl := itoa_lenW m (by omega)
    have HE := Lib.hid (show bs (⟨#[45]⟩ ++ mk (Lib.itoa (m : Int))) = Lib.itoa n by rw [bs_app, bs_mk, he]; rfl)
    have hz : (mk (Lib.itoa (m : Int))).size ≤ 100 := by rw [mk_size]; exact hl
    generalize mk (Lib.itoa (m : Int)) = x at hd HE hz
    clear he hl
    go_enter Tryd.func32, Tryd.ntmps32
    go_wp2_with (go_at_call 32; refine (hd _).mono ?_; rintro e w1 ⟨rfl, hb⟩; have HB := Lib.hid hb; clear hb)
    go_ret
    refine ⟨?_, HB.out⟩
    have : mk (Lib.itoa n) = ⟨#[45]⟩ ++ x := bs_inj ((bs_mk _).trans HE.out.symm)
    rw [this]; rfl
  · obtain ⟨m, rfl⟩ : ∃ m : Nat, n = m := ⟨n.toNat, by omega⟩
    exact digits_posW m w (by omega)
end Go.Proofs.YtkodepckfdpaiaaDoor
