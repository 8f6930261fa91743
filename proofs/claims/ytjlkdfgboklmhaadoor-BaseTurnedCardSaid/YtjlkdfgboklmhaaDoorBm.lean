/- The law BaseTurned: of every text, place and byte, it answers yes. -/
import Derived.Test.YtjlkdfgboklmhaaDoorBl
namespace Go.Proofs.YtjlkdfgboklmhaaDoor
set_option linter.unusedSimpArgs false
set_option linter.unusedVariables false
open Go.RowKit
theorem bys_set {w : World} {g i : Nat} {l : List UInt8} {b : UInt8} (h : Bys w (some ⟨g, 0, none⟩) l) (hi : i < l.length) : Bys (w.setCell ⟨g, i, none⟩ (.int .u8 b.toNat)) (some ⟨g, 0, none⟩) (l.set i b) := fun j hj => by
  rw [List.length_set] at hj
  obtain ⟨g', off, e, hc⟩ := h j hj
  cases e
  refine ⟨g, 0, rfl, ?_⟩
  rw [Nat.zero_add] at hc ⊢
  by_cases hij : i = j
  · subst hij
    rw [List.getElem_set_self]
    exact World.cell?_setCell_same _ _ _ hc
  · rw [List.getElem_set_ne hij]
    rw [World.cell?_setCell_other _ _ _ _ (fun e => hij (congrArg Addr.off e))]
    exact hc
set_option maxRecDepth 100000 in
set_option maxHeartbeats 4000000 in
theorem BaseTurned_calls (a : ByteArray) (at' : Nat) (c : UInt8) (w : World) (ha : a.size ≤ maxLen) (hat : at' ≤ 65535) :
    Calls Tryd.prog 8 #[.string a, .int .u16 at', .int .u8 c.toNat] w fun e w' => e = .returned (.bool true) ∧ Below w.heap.size w w' := by
  unfold maxLen at ha
  by_cases h4 : a.size ≤ 200 ∧ 0 < a.size
  · obtain ⟨ha4, ha0⟩ := h4
    have hd1 : decide (200 < (a.size : Int)) = false := decide_eq_false (by omega)
    have hd2 : ((a.size : Int) == 0) = false := beq_eq_false_iff_ne.2 (by omega)
    have hcv := fun (w : World) (s : ByteArray) => conv_bytes w s
    have hpa := fun w => put_str w a (by omega)
    obtain ⟨x, hx⟩ : ∃ x : ByteArray, x = ⟨(putB (bs a)).toArray⟩ := ⟨_, rfl⟩
    rw [← hx] at hpa
    have hbx : bs x = putB (bs a) := by rw [hx]
    have hxs : x.size = 4 * ((a.size + 2) / 3) := by rw [← bs_length, hbx, put_len, bs_length]
    have HBX := Lib.hid hbx
    clear hx hbx
    have hx0 : 0 < x.size := by omega
    have hxl : x.size ≤ 1000 := by omega
    have hd3 : ((x.size : Int) == 0) = false := beq_eq_false_iff_ne.2 (by omega)
    obtain ⟨i, hi⟩ : ∃ i, i = at' % x.size := ⟨_, rfl⟩
    have hil : i < x.size := by rw [hi]; exact Nat.mod_lt _ hx0
    have him : (at' : Int) % (x.size : Int) = (i : Int) := by rw [hi, Int.natCast_emod]
    clear hi hxs
    have i0 : (0 : Int) ≤ (i : Int) := Int.natCast_nonneg _
    have i1 : (i : Int) < (x.size : Int) := by omega
    go_enter Tryd.func8, Tryd.ntmps8
    go_upto_region 4 with (first
      | (go_at_call 12; (with_reducible refine (hpa _).mono ?_); rintro e w2 ⟨rfl, hb2⟩; have H2 := Lib.hid hb2; clear hb2)
      | (go_at_call 11; refine (awake_calls _).mono ?_; rintro e w1 ⟨rfl, hb1⟩; have H1 := Lib.hid hb1; clear hb1))
    have HB2 := Lib.hid (bt (bt H1.out H2.out) (cv_below w2 x))
    have HBY := Lib.hid (cv_bys w2 x)
    have hfr := cv_frozen w2 x i hil
    have hcl : (cvW w2 x).cell? ⟨w2.heap.size, i, none⟩ = some (.int .u8 x[i].toNat) := by
      obtain ⟨g', off, e, hc⟩ := HBY.out i (by rw [bs_length]; exact hil)
      cases e
      rw [Nat.zero_add] at hc; exact hc
    have hcp := cv_cap w2 x (by unfold maxLen; omega)
    obtain ⟨hcp1, hcp2⟩ := hcp
    unfold maxLen at hcp2
    have HL2 : Hid (w.heap.size ≤ w2.heap.size) := Lib.hid (bt H1.out H2.out).size
    generalize cvC w2 x = cap at hcp1 hcp2 ⊢
    generalize cvW w2 x = W at HB2 HBY hfr hcl ⊢
    clear hcv hpa
    have hby2 := bys_set (b := c) HBY.out (show i < (bs x).length by rw [bs_length]; exact hil)
    have hcs := conv_str (w := W.setCell ⟨w2.heap.size, i, none⟩ (.int .u8 c.toNat)) cap hby2
    rw [List.length_set, bs_length] at hcs
    obtain ⟨y, hy⟩ : ∃ y : ByteArray, y = ⟨((bs x).set i c).toArray⟩ := ⟨_, rfl⟩
    rw [← hy] at hcs
    have hbyb : bs y = (bs x).set i c := by rw [hy]
    have hyl : y.size ≤ 1000 := by rw [← bs_length, hbyb, List.length_set, bs_length]; exact hxl
    have hg := fun w => Get_calls y w hyl
    have HBW : Hid (Below w.heap.size w (W.setCell ⟨w2.heap.size, i, none⟩ (.int .u8 c.toNat))) := Lib.hid (below_set HB2.out HL2.out _ _)
    have hxi : (bs x)[i]'(by rw [bs_length]; exact hil) = x[i] := rfl
    clear hy hby2
    have HAA : Hid ((⟨(bs a).toArray⟩ : ByteArray) = a) := Lib.hid (bs_inj rfl)
    by_cases hsame : x[i] = c
    · have hyx : bs y = bs x := by rw [hbyb, ← hsame, ← hxi]; exact List.set_getElem_self _
      have hgy : getB (bs y) = some (bs a) := by rw [hyx, HBX.out]; exact get_put _ (by rw [bs_length]; omega)
      rw [hgy] at hg
      have hds : ((x[i].toNat : Int) == (c.toNat : Int)) = true := by rw [hsame]; simp
      clear hsame hyx hgy hbyb hxi
      go_wp2_with (go_at_call 13; refine (hg _).mono ?_; rintro e w3 ⟨A2, c2, rfl, hby, _, _, hb3⟩
                   have H3 := Lib.hid hb3
                   have hcv2 := conv_str (w := w3) c2 hby
                   clear hb3 hby
                   simp only [codeG, Option.getD_some] at hcv2 ⊢
                   rw [HAA.out, bs_length] at hcv2)
      go_ret
      exact ⟨rfl, bt HBW.out H3.out⟩
    · have hds : ((x[i].toNat : Int) == (c.toNat : Int)) = false := beq_eq_false_iff_ne.2 fun e => hsame (UInt8.toNat_inj.1 (by omega))
      have HNE : Hid (bs y ≠ putB (bs a)) := Lib.hid fun e => hsame (by
        rw [hbyb, ← HBX.out] at e
        have h1 : ((bs x).set i c)[i]'(by rw [List.length_set, bs_length]; exact hil) = c := List.getElem_set_self ..
        rw [← hxi, ← h1]
        congr 1
        exact e.symm)
      clear hsame hxi
      cases hgy : getB (bs y) with
      | none =>
        rw [hgy] at hg
        clear hgy hbyb
        go_wp2_with (go_at_call 13; refine (hg _).mono ?_; rintro e w3 ⟨A2, c2, rfl, _, _, _, hb3⟩; have H3 := Lib.hid hb3; clear hb3; simp only [codeG, Option.getD_none, List.length_nil])
        go_ret
        exact ⟨rfl, bt HBW.out H3.out⟩
      | some out =>
        have hpg := put_get (s := bs y) (by rw [bs_length]; exact hyl) hgy
        rw [hgy] at hg
        have hse := str_beq ⟨out.toArray⟩ a
        rw [decide_eq_false (fun e => HNE.out (by rw [← hpg, ← e]))] at hse
        rw [toList_bs ⟨out.toArray⟩] at hse
        have hse2 : (out == a.toList) = false := hse
        clear hgy hbyb hpg hse
        go_wp2_with (go_at_call 13; refine (hg _).mono ?_; rintro e w3 ⟨A2, c2, rfl, hby, _, _, hb3⟩
                     have H3 := Lib.hid hb3
                     have hcv2 := conv_str (w := w3) c2 hby
                     clear hb3 hby
                     simp only [codeG, Option.getD_some] at hcv2 ⊢)
        go_ret
        exact ⟨rfl, bt HBW.out H3.out⟩
  · have hdd : decide (200 < (a.size : Int)) = true ∨ (decide (200 < (a.size : Int)) = false ∧ ((a.size : Int) == 0) = true) := by
      by_cases h2 : 200 < a.size
      · exact .inl (decide_eq_true (by omega))
      · exact .inr ⟨decide_eq_false (by omega), beq_iff_eq.2 (by omega)⟩
    clear h4
    rcases hdd with hd1 | ⟨hd1, hd2⟩
    all_goals
      go_enter Tryd.func8, Tryd.ntmps8
      go_wp2_with (go_at_call 11; refine (awake_calls _).mono ?_; rintro e w1 ⟨rfl, hb1⟩; have HB1 := Lib.hid hb1; clear hb1)
      go_ret
      exact ⟨rfl, Below.trans (Hid.out ‹Hid (Below w.heap.size w _)›) (HB1.out.mono (Below.size (Hid.out ‹Hid (Below w.heap.size w _)›)))⟩
end Go.Proofs.YtjlkdfgboklmhaaDoor
