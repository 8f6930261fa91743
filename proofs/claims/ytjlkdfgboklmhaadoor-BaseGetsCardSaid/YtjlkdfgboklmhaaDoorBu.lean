/- pendentiveref02.Get: letters as bytes, by bits; conditions: at most 1000 letters. -/
import Derived.Test.YtjlkdfgboklmhaaDoorBt
import Derived.Test.YtjlkdfgboklmhaaDoorBi
namespace Go.Proofs.YtjlkdfgboklmhaaDoor
set_option linter.unusedSimpArgs false
set_option linter.unusedVariables false
open Go.RowKit
theorem bits6L_take (s : List UInt8) (i : Nat) (h : i < s.length) : bits6L (s.take (i + 1)) = bits6L (s.take i) ++ bits6 (valN s[i].toNat).toNat := by
  unfold bits6L
  rw [List.take_succ_eq_append_getElem h, List.flatMap_append]
  simp
theorem bits6L_le (l : List UInt8) : ∀ x ∈ bits6L l, x ≤ 1 := fun x hx => by
  obtain ⟨b, _, hb⟩ := List.mem_flatMap.1 hx
  simp only [bits6, List.mem_cons, List.not_mem_nil, or_false] at hb
  rcases hb with rfl | rfl | rfl | rfl | rfl | rfl <;> omega
theorem eight_step (l : List Nat) (h : 8 ≤ l.length) : eight l = (val6 (l.take 8)).toUInt8 :: eight (l.drop 8) := by
  match l, h with
  | a :: b :: c :: d :: e :: f :: g :: i :: t, _ => rfl
theorem eight_nil (l : List Nat) (h : l.length < 8) : eight l = [] := by
  match l, h with
  | [], _ | [_], _ | [_, _], _ | [_, _, _], _ | [_, _, _, _], _ | [_, _, _, _, _], _ | [_, _, _, _, _, _], _ | [_, _, _, _, _, _, _], _ => rfl
  | a :: b :: c :: d :: e :: f :: g :: i :: t, h => simp at h; omega
def goesB (s : ByteArray) (i : Nat) : Bool := if h : i < s.size then s[i].toNat != 61 else false
theorem ret_sb {a a' : ByteArray} {b b' : Bool} (h1 : a = a') (h2 : b = b') : Ending.returned (.tuple #[.string a, .bool b]) = .returned (.tuple #[.string a', .bool b']) := by rw [h1, h2]
theorem numB_cases (c : Nat) : (numB c = -1 ∧ valB c = false) ∨ ∃ x : Nat, numB c = x ∧ x < 64 ∧ (valN c).toNat = x := by
  unfold numB
  cases valB c with
  | false => exact .inl ⟨rfl, rfl⟩
  | true =>
    obtain ⟨x, hx, hl⟩ := valN_range (c : Int)
    exact .inr ⟨x, by rw [if_pos rfl, hx], hl, by rw [hx]; rfl⟩
theorem cells_below {w w' : World} {A : Option Addr} {acc : List Nat} (h : ∀ i (hi : i < acc.length), ∃ b, A = some ⟨b, 0, none⟩ ∧ w.cell? ⟨b, i, none⟩ = some (.int .i64 acc[i])) (hb : Below w.heap.size w w') :
    ∀ i (hi : i < acc.length), ∃ b, A = some ⟨b, 0, none⟩ ∧ w'.cell? ⟨b, i, none⟩ = some (.int .i64 acc[i]) := fun i hi => by
  obtain ⟨b, e, hc⟩ := h i hi
  exact ⟨b, e, (hb.cell (p := ⟨b, i, none⟩) (World.block_lt_of_cell? w _ hc)).trans hc⟩
theorem refGet_end {s o : List UInt8} {i : Nat} (hs : s.length ≤ 1000) (hi : i ≤ s.length) (hne : ∀ b ∈ s.take i, b ≠ 61) (he : i = s.length ∨ ∃ h : i < s.length, s[i] = 61) (ho : o = eight (bits6L (s.take i))) : getB s = if putB o = s then some o else none := by
  cases h : getB s with
  | some o' =>
    have e := get_body hs h hi hne he
    have : o = o' := by rw [ho, e]; exact eight_lets o'
    subst this
    rw [if_pos (put_get hs h)]
  | none =>
    split
    · rename_i hp
      exfalso
      have hol : o.length ≤ 1000 := by
        have h1 : (putB o).length ≤ 1000 := by rw [hp]; exact hs
        rw [put_lets, List.length_append, lets_len] at h1
        split at h1 <;> omega
      have := get_put o hol
      rw [hp, h] at this; cases this
    · rfl
set_option maxRecDepth 100000 in
set_option maxHeartbeats 8000000 in
theorem refGet_calls (s : ByteArray) (w : World) (hs : s.size ≤ 1000) :
    Calls Tryd.prog 17 #[.string s] w fun e w' => e = .returned (.tuple #[.string ⟨((getB (bs s)).getD []).toArray⟩, .bool (getB (bs s)).isSome]) ∧ Below w.heap.size w w' := by
  go_enter Tryd.func17, Tryd.ntmps17
  go_wp2
  go_loopg [4, 5] s.size (fun gh v4 v5 wx => ∃ (i : Nat) (acc : List Nat), v5 = .int .i64 i ∧ i + gh = s.size ∧ Hid (acc = bits6L ((bs s).take i)) ∧ acc.length = 6 * i ∧ Hid (∀ b ∈ (bs s).take i, b ≠ 61) ∧ Hid (OwnI w.heap.size wx v4 acc ∧ Below w.heap.size w wx))
  case atStart => exact ⟨0, [], rfl, by omega, Lib.hid rfl, rfl, Lib.hid (by simp), Lib.hid ⟨OwnI.new w, below_alloc1 w _⟩⟩
  case round =>
    obtain ⟨i, acc, rfl, hi, hacc, hal, hne, hx⟩ := hrel
    go_upto_region 3 with (fail)
    go_cut [22] (fun v22 wx => ∃ q : Bool, v22 = .bool q ∧ Hid (q = goesB s i) ∧ wx = wr)
    case first =>
      by_cases hlt : i < s.size
      · have hb := u8_lt s[i]
        obtain ⟨q, hq⟩ : ∃ q : Bool, ((s[i].toNat : Int) != 61) = q := ⟨_, rfl⟩
        have HQ : Hid (q = goesB s i) := Lib.hid (by
          unfold goesB
          rw [dif_pos hlt, ← hq]
          rw [Bool.eq_iff_iff, bne_iff_ne, bne_iff_ne]
          omega)
        go_wp2
        go_meet
        exact ⟨q, rfl, HQ, rfl⟩
      · have HQ : Hid (false = goesB s i) := Lib.hid (by unfold goesB; rw [dif_neg hlt])
        go_wp2
        go_meet
        exact ⟨false, rfl, HQ, rfl⟩
    case rest =>
    obtain ⟨q, rfl, hq, hww⟩ := hcut
    rw [hww]
    clear hww
    cases q with
    | true =>
      have hlt : i < s.size := by
        have h := hq.out
        unfold goesB at h
        by_cases h1 : i < s.size
        · exact h1
        · rw [dif_neg h1] at h; cases h
      have hb := u8_lt s[i]
      have HNE : Hid (s[i].toNat ≠ 61) := Lib.hid (by
        have h := hq.out
        unfold goesB at h
        rw [dif_pos hlt] at h
        exact bne_iff_ne.1 h.symm)
      have hnum := fun w => number_calls s[i].toNat w hb
      rcases numB_cases s[i].toNat with ⟨hn, hv⟩ | ⟨x, hn, hxl, hv⟩
      · rw [hn] at hnum
        have HR : Hid (getB (bs s) = none) := Lib.hid (get_bad (s := bs s) (i := i) (by rw [bs_length]; exact hs) (by rw [bs_length]; exact hlt) hv (fun e => HNE.out (by rw [show s[i] = (bs s)[i]'(by rw [bs_length]; exact hlt) from rfl, e]; rfl)))
        clear hn hv
        go_wp2_with (go_at_call 24; refine (hnum _).mono ?_; rintro e w' ⟨rfl, hw⟩; rw [hw]; clear hw w')
        go_ret2
        exact ⟨by rw [HR.out]; rfl, hx.out.2⟩
      · rw [hn] at hnum
        have HV : Hid ((valN s[i].toNat).toNat = x) := Lib.hid hv
        clear hn hv
        go_wp2_with (go_at_call 24; refine (hnum _).mono ?_; rintro e w' ⟨rfl, hw⟩; rw [hw]; clear hw w')
        go_loopg [4, 7] 6 (fun gh v4 v7 wx => ∃ (j : Nat) (acc : List Nat), v7 = .int .i64 (5 - (j : Int)) ∧ j + gh = 6 ∧ Hid (acc = bits6L ((bs s).take i) ++ (bits6 x).take j) ∧ acc.length = 6 * i + j ∧ Hid (OwnI w.heap.size wx v4 acc ∧ Below w.heap.size w wx))
        case atStart => exact ⟨0, acc, rfl, by omega, Lib.hid (by rw [hacc.out]; simp), by omega, hx⟩
        case round =>
          clear hx hacc hal
          obtain ⟨j, acc, rfl, hj, hacc, hal, hx⟩ := hrel
          by_cases hj6 : j < 6
          · rcases (by omega : j = 0 ∨ j = 1 ∨ j = 2 ∨ j = 3 ∨ j = 4 ∨ j = 5) with rfl | rfl | rfl | rfl | rfl | rfl
            · obtain ⟨nn0, hnn0⟩ : ∃ nn, nn = x / 32 % 2 := ⟨_, rfl⟩
              go_wp2_with (at_builtin
                           refine wpList_app rfl _ _ _ rfl u4 (.slice (some ⟨wr.heap.size, 0, none⟩) 1 1) (by rfl) (by rfl) (OwnI.app1 (hx.out.1.al _) _ wr.heap.size nn0 _ ?h1 (Blk.new' _ _ _ rfl) ?h2 ?h3) ?_
                           case h1 => omega
                           case h2 => omega
                           case h3 => exact (Nat.le_trans hx.out.2.size (below_alloc1 _ _).size)
                           intro v2 w2 hF
                           have HF := Lib.hid hF
                           clear hF)
              go_roundg (6 - (0 + 1))
              case measure => omega
              case rel => exact ⟨1, acc ++ [nn0], rfl, by omega, Lib.hid (by rw [hacc.out, List.append_assoc, hnn0]; rfl), by rw [List.length_append]; show acc.length + 1 = _; omega, Lib.hid ⟨HF.out.1, (hx.out.2.trans ((below_alloc1 _ _).mono hx.out.2.size)).trans HF.out.2⟩⟩
            · obtain ⟨nn1, hnn1⟩ : ∃ nn, nn = x / 16 % 2 := ⟨_, rfl⟩
              go_wp2_with (at_builtin
                           refine wpList_app rfl _ _ _ rfl u4 (.slice (some ⟨wr.heap.size, 0, none⟩) 1 1) (by rfl) (by rfl) (OwnI.app1 (hx.out.1.al _) _ wr.heap.size nn1 _ ?h1 (Blk.new' _ _ _ rfl) ?h2 ?h3) ?_
                           case h1 => omega
                           case h2 => omega
                           case h3 => exact (Nat.le_trans hx.out.2.size (below_alloc1 _ _).size)
                           intro v2 w2 hF
                           have HF := Lib.hid hF
                           clear hF)
              go_roundg (6 - (1 + 1))
              case measure => omega
              case rel => exact ⟨2, acc ++ [nn1], rfl, by omega, Lib.hid (by rw [hacc.out, List.append_assoc, hnn1]; rfl), by rw [List.length_append]; show acc.length + 1 = _; omega, Lib.hid ⟨HF.out.1, (hx.out.2.trans ((below_alloc1 _ _).mono hx.out.2.size)).trans HF.out.2⟩⟩
            · obtain ⟨nn2, hnn2⟩ : ∃ nn, nn = x / 8 % 2 := ⟨_, rfl⟩
              go_wp2_with (at_builtin
                           refine wpList_app rfl _ _ _ rfl u4 (.slice (some ⟨wr.heap.size, 0, none⟩) 1 1) (by rfl) (by rfl) (OwnI.app1 (hx.out.1.al _) _ wr.heap.size nn2 _ ?h1 (Blk.new' _ _ _ rfl) ?h2 ?h3) ?_
                           case h1 => omega
                           case h2 => omega
                           case h3 => exact (Nat.le_trans hx.out.2.size (below_alloc1 _ _).size)
                           intro v2 w2 hF
                           have HF := Lib.hid hF
                           clear hF)
              go_roundg (6 - (2 + 1))
              case measure => omega
              case rel => exact ⟨3, acc ++ [nn2], rfl, by omega, Lib.hid (by rw [hacc.out, List.append_assoc, hnn2]; rfl), by rw [List.length_append]; show acc.length + 1 = _; omega, Lib.hid ⟨HF.out.1, (hx.out.2.trans ((below_alloc1 _ _).mono hx.out.2.size)).trans HF.out.2⟩⟩
            · obtain ⟨nn3, hnn3⟩ : ∃ nn, nn = x / 4 % 2 := ⟨_, rfl⟩
              go_wp2_with (at_builtin
                           refine wpList_app rfl _ _ _ rfl u4 (.slice (some ⟨wr.heap.size, 0, none⟩) 1 1) (by rfl) (by rfl) (OwnI.app1 (hx.out.1.al _) _ wr.heap.size nn3 _ ?h1 (Blk.new' _ _ _ rfl) ?h2 ?h3) ?_
                           case h1 => omega
                           case h2 => omega
                           case h3 => exact (Nat.le_trans hx.out.2.size (below_alloc1 _ _).size)
                           intro v2 w2 hF
                           have HF := Lib.hid hF
                           clear hF)
              go_roundg (6 - (3 + 1))
              case measure => omega
              case rel => exact ⟨4, acc ++ [nn3], rfl, by omega, Lib.hid (by rw [hacc.out, List.append_assoc, hnn3]; rfl), by rw [List.length_append]; show acc.length + 1 = _; omega, Lib.hid ⟨HF.out.1, (hx.out.2.trans ((below_alloc1 _ _).mono hx.out.2.size)).trans HF.out.2⟩⟩
            · obtain ⟨nn4, hnn4⟩ : ∃ nn, nn = x / 2 % 2 := ⟨_, rfl⟩
              go_wp2_with (at_builtin
                           refine wpList_app rfl _ _ _ rfl u4 (.slice (some ⟨wr.heap.size, 0, none⟩) 1 1) (by rfl) (by rfl) (OwnI.app1 (hx.out.1.al _) _ wr.heap.size nn4 _ ?h1 (Blk.new' _ _ _ rfl) ?h2 ?h3) ?_
                           case h1 => omega
                           case h2 => omega
                           case h3 => exact (Nat.le_trans hx.out.2.size (below_alloc1 _ _).size)
                           intro v2 w2 hF
                           have HF := Lib.hid hF
                           clear hF)
              go_roundg (6 - (4 + 1))
              case measure => omega
              case rel => exact ⟨5, acc ++ [nn4], rfl, by omega, Lib.hid (by rw [hacc.out, List.append_assoc, hnn4]; rfl), by rw [List.length_append]; show acc.length + 1 = _; omega, Lib.hid ⟨HF.out.1, (hx.out.2.trans ((below_alloc1 _ _).mono hx.out.2.size)).trans HF.out.2⟩⟩
            · obtain ⟨nn5, hnn5⟩ : ∃ nn, nn = x % 2 := ⟨_, rfl⟩
              go_wp2_with (at_builtin
                           refine wpList_app rfl _ _ _ rfl u4 (.slice (some ⟨wr.heap.size, 0, none⟩) 1 1) (by rfl) (by rfl) (OwnI.app1 (hx.out.1.al _) _ wr.heap.size nn5 _ ?h1 (Blk.new' _ _ _ rfl) ?h2 ?h3) ?_
                           case h1 => omega
                           case h2 => omega
                           case h3 => exact (Nat.le_trans hx.out.2.size (below_alloc1 _ _).size)
                           intro v2 w2 hF
                           have HF := Lib.hid hF
                           clear hF)
              go_roundg (6 - (5 + 1))
              case measure => omega
              case rel => exact ⟨6, acc ++ [nn5], rfl, by omega, Lib.hid (by rw [hacc.out, List.append_assoc, hnn5]; rfl), by rw [List.length_append]; show acc.length + 1 = _; omega, Lib.hid ⟨HF.out.1, (hx.out.2.trans ((below_alloc1 _ _).mono hx.out.2.size)).trans HF.out.2⟩⟩
          · obtain rfl : j = 6 := by omega
            go_wp2
            go_roundg (s.size - (i + 1))
            case measure => omega
            case rel =>
              refine ⟨i + 1, acc, by go_num, by omega, Lib.hid ?_, by omega, Lib.hid fun b hb' => ?_, hx⟩
              · rw [hacc.out, bits6L_take _ _ (by rw [bs_length]; exact hlt)]
                show _ = _ ++ bits6 (valN s[i].toNat).toNat
                rw [HV.out]; rfl
              · rw [List.take_succ_eq_append_getElem (by rw [bs_length]; exact hlt)] at hb'
                rcases List.mem_append.1 hb' with h | h
                · exact hne.out b h
                · rw [List.mem_singleton.1 h]
                  exact fun e => HNE.out (by rw [show s[i] = (bs s)[i]'(by rw [bs_length]; exact hlt) from rfl, e]; rfl)
    | false =>
      have HEND : Hid (∀ o, o = eight acc → getB (bs s) = if putB o = bs s then some o else none) := Lib.hid fun o ho => by
        refine refGet_end (i := i) (by rw [bs_length]; exact hs) (by rw [bs_length]; omega) hne.out ?_ (by rw [ho, hacc.out])
        by_cases h1 : i < s.size
        · refine .inr ⟨by rw [bs_length]; exact h1, ?_⟩
          have h := hq.out
          unfold goesB at h
          rw [dif_pos h1] at h
          have h2 : s[i].toNat = 61 := by
            rcases Nat.decEq s[i].toNat 61 with h3 | h3
            · rw [bne_iff_ne.2 h3] at h; cases h
            · exact h3
          exact UInt8.toNat_inj.1 h2
        · exact .inl (by rw [bs_length]; omega)
      have HBIT : Hid (∀ x ∈ acc, x ≤ 1) := Lib.hid fun x hx => by
        rw [hacc.out] at hx
        exact bits6L_le _ x hx
      have hll : acc.length ≤ 6000 := by omega
      obtain ⟨A4, c4, rfl, hc1, hc2, hcl⟩ := hx.out.1.form
      have HCL := Lib.hid (And.intro hc1 (And.intro hc2 hcl))
      have HBW := Lib.hid hx.out.2
      clear hc1 hc2 hcl hx hacc hal hne hq hi
      obtain ⟨W0, hW0⟩ : ∃ W0, W0 = wr := ⟨_, rfl⟩
      rw [← hW0] at HBW HCL ⊢
      clear hW0
      obtain ⟨G, hG⟩ : ∃ G, 8 * G ≤ acc.length ∧ acc.length < 8 * G + 8 := ⟨acc.length / 8, by omega⟩
      have hGl : G ≤ 750 := by omega
      have HG := Lib.hid hG
      clear hG
      go_wp2
      go_loopg [8, 9] G (fun gh v8 v9 wx => ∃ (g q : Nat) (so : ByteArray), v8 = .string so ∧ v9 = .int .i64 q ∧ q = 8 * g ∧ g + gh = G ∧ Hid (bs so ++ eight (acc.drop q) = eight acc) ∧ so.size = g ∧ Hid (Below W0.heap.size W0 wx))
      case atStart => exact ⟨0, 0, ⟨#[]⟩, rfl, rfl, rfl, by omega, Lib.hid rfl, rfl, Lib.hid (Below.refl _ _)⟩
      case round =>
        obtain ⟨g, q, so, rfl, rfl, hq, hg, hso, hss, hwr⟩ := hrel
        have HQ := Lib.hid hq
        have HCR := Lib.hid (cells_below HCL.out.2.2 hwr.out)
        by_cases hgG : g < G
        · have hql : q + 8 ≤ acc.length := by have := HG.out; omega
          clear hq
          have hqlt : (q : Int) + 8 ≤ (acc.length : Int) := by omega
          go_wp2
          go_loopg [10, 11] 8 (fun gh v10 v11 wx => ∃ (k n : Nat), v11 = .int .i64 k ∧ v10 = .int .i64 n ∧ k + gh = 8 ∧ Hid (n = val6 ((acc.drop q).take k)) ∧ n < 256 ∧ wx = wr)
          case atStart => exact ⟨0, 0, rfl, rfl, by omega, Lib.hid rfl, by omega, rfl⟩
          case round =>
            obtain ⟨k, n, rfl, rfl, hk, hn, hn256, rfl⟩ := hrel
            by_cases hk8 : k < 8
            · obtain ⟨b, rfl, hc⟩ := HCR.out (q + k) (by omega)
              have hdl : k < (acc.drop q).length := by rw [List.length_drop]; omega
              have HVT := Lib.hid (val6_take (acc.drop q) k hdl)
              have hxe : (acc.drop q)[k] = acc[q + k] := List.getElem_drop ..
              have hx1 : acc[q + k] ≤ 1 := HBIT.out _ (List.getElem_mem _)
              rw [hxe] at HVT
              generalize acc[q + k] = xk at hc hx1 HVT
              clear hxe
              have i0 : (0 : Int) ≤ (q : Int) + (k : Int) := by omega
              have i1 : (q : Int) + (k : Int) < (acc.length : Int) := by omega
              have i2 : ((q : Int) + (k : Int)).toNat = q + k := by omega
              go_wp2
              go_roundg (8 - (k + 1))
              case measure => omega
              case rel =>
                have hv : 2 * n + xk = val6 ((acc.drop q).take (k + 1)) := by rw [HVT.out, ← hn.out]
                refine ⟨k + 1, 2 * n + xk, by go_num, by go_num, by omega, Lib.hid hv, ?_, rfl⟩
                rw [hv]
                exact Nat.lt_of_lt_of_le (val6_lt _ (fun x hx => HBIT.out x (List.mem_of_mem_drop (List.mem_of_mem_take hx)))) (Nat.pow_le_pow_right (n := 2) (by omega) (show _ ≤ 8 by rw [List.length_take]; omega))
            · obtain rfl : k = 8 := by omega
              have hw8 : IntKind.u8.wrap (n : Int) = (n : Int) := by rw [IntKind.wrap_u8]; omega
              have hu8 : (UInt8.ofNat n).toNat = n := by rw [UInt8.toNat_ofNat']; omega
              have hcv := conv_str (w := wr.alloc (.cells #[.int .u8 (n : Int)] 5)) (A := some ⟨wr.heap.size, 0, none⟩) (l := [n.toUInt8]) 1 (bys_blk (Blk.new' _ _ _ rfl) _ (by
                show #[Value.int .u8 (n : Int)] = #[Value.int .u8 (((UInt8.ofNat n).toNat : Nat) : Int)]
                rw [hu8]))
              simp only [List.length_cons, List.length_nil, Nat.zero_add] at hcv
              have HST := Lib.hid (eight_step (acc.drop q) (by rw [List.length_drop]; omega))
              have hq1 : (so ++ ⟨#[n.toUInt8]⟩).size = so.size + 1 := ByteArray.size_append
              clear hu8
              go_wp2
              go_roundg (G - (g + 1))
              case measure => omega
              case rel =>
                refine ⟨g + 1, q + 8, so ++ ⟨#[n.toUInt8]⟩, rfl, by go_num, by have := HQ.out; omega, by omega, Lib.hid ?_, by rw [hq1]; omega, Lib.hid (below_al hwr.out _)⟩
                rw [bs_app, List.append_assoc, ← hso.out, HST.out, hn.out, List.drop_drop]; rfl
        · obtain rfl : g = G := by omega
          have HSO : Hid (bs so = eight acc) := Lib.hid (by
            have h := hso.out
            rw [eight_nil (acc.drop q) (by rw [List.length_drop]; have := HG.out; omega)] at h
            rw [← h]; exact (List.append_nil _).symm)
          have hsl : so.size ≤ 1000 := by omega
          have hput := fun w => refPut_calls so w hsl
          have hq6 : q ≤ 6000 := by have := HG.out; omega
          have hqn : ¬ ((q : Int) + 8 ≤ (acc.length : Int)) := by have := HG.out; omega
          have HWR := Lib.hid (HBW.out.trans (hwr.out.mono HBW.out.size))
          clear hq HQ hso HG hss
          by_cases hp : putB (bs so) = bs s
          · rw [hp] at hput
            have HP : Hid (getB (bs s) = some (bs so)) := Lib.hid (by rw [HEND.out _ HSO.out, if_pos hp])
            clear hp
            rw [mk_bs2] at hput
            go_wp2_with (go_at_call 14; refine (hput _).mono ?_; rintro e w1 ⟨rfl, hb1⟩; have H1 := Lib.hid hb1; clear hb1)
            all_goals
              go_ret2
              refine ⟨ret_sb ?_ ?_, HWR.out.trans (H1.out.mono HWR.out.size)⟩
              · rw [HP.out]; exact (mk_bs2 so).symm
              · rw [HP.out]; rfl
          · have HP : Hid (getB (bs s) = none) := Lib.hid (by rw [HEND.out _ HSO.out, if_neg hp])
            obtain ⟨x, hx⟩ : ∃ x : ByteArray, x = ⟨(putB (bs so)).toArray⟩ := ⟨_, rfl⟩
            rw [← hx] at hput
            have hd : (x.toList == s.toList) = false := by
              rw [beq_eq_false_iff_ne]
              intro e
              apply hp
              rw [ByteArray.toList_eq, ByteArray.toList_eq, hx] at e
              exact e
            clear hx
            clear hp
            go_wp2_with (go_at_call 14; refine (hput _).mono ?_; rintro e w1 ⟨rfl, hb1⟩; have H1 := Lib.hid hb1; clear hb1)
            go_ret2
            refine ⟨ret_sb ?_ ?_, HWR.out.trans (H1.out.mono HWR.out.size)⟩
            · rw [HP.out]; rfl
            · rw [HP.out]; rfl
end Go.Proofs.YtjlkdfgboklmhaaDoor
