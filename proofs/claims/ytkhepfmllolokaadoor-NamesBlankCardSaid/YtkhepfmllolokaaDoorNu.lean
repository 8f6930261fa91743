/- The law NamesBlank: of every slice and blanks, it answers yes; conditions: the slice can be read. -/
import Derived.Test.YtkhepfmllolokaaDoorNs
namespace Go.Proofs.YtkhepfmllolokaaDoor
set_option linter.unusedSimpArgs false
set_option linter.unusedVariables false
open Go.RowKit
theorem joined_len (pre post : By) (r : List ByteArray) : (joined pre post (bss r)).length ≤ cntB r + r.length * (pre.length + post.length) := by
  induction r with
  | nil => simp [joined]
  | cons x r ih =>
    have e : cntB (x :: r) = (x.size + 1) + cntB r := by simp [cntB]
    show (joined pre post (bs x :: bss r)).length ≤ _
    rw [joined, List.length_append, List.length_append, List.length_append, List.length_cons, bs_length, e, List.length_cons, Nat.succ_mul]; omega
set_option maxRecDepth 100000 in
set_option maxHeartbeats 8000000 in
theorem NamesBlank_calls (A : Option Addr) (l : List ByteArray) (c : Nat) (t : ByteArray) (w : World) (hm : l.length ≤ maxLen) (ht : t.size ≤ maxLen) (hA : Strs w A l) :
    Calls Tryd.prog 8 #[.slice A l.length c, .string t] w fun e w' => e = .returned (.bool true) ∧ Below w.heap.size w w' := by
  have HL := Lib.hid hA
  have hF := fun (w' : World) (h : Strs w' A l) => Few_calls A l c w' hm h
  have HTM := Lib.hid ht
  have HMX := Lib.hid hm
  clear hA
  unfold maxLen at hm ht
  by_cases hfew : fewB l = true
  · rw [hfew] at hF
    obtain ⟨hb1, hb2, hb3⟩ := few_bounds hfew
    have HS : Hid (∀ s ∈ l, s.size ≤ 300) := Lib.hid hb3
    clear hfew hb3
    by_cases h3 : t.size ≤ 20
    · have hd : decide (20 < (t.size : Int)) = false := decide_eq_false (by omega)
      go_enter Tryd.func8, Tryd.ntmps8
      have HB := Lib.hid (Below.refl w.heap.size w)
      go_wp2_with (first
        | (go_at_call 9; refine (awake_calls _).mono ?_; rintro e w1 ⟨rfl, hb⟩; replace HB := Lib.hid (bt HB.out hb); clear hb)
        | (go_at_call 10; refine (hF _ (HL.out.below HB.out)).mono ?_; rintro e w1' ⟨rfl, rfl⟩))
      go_loopg [5] t.size (fun gh v5 wx => ∃ k : Nat, v5 = .int .i64 k ∧ k + gh = t.size ∧ Hid (((bs t).take k).all padC = true) ∧ wx = w1')
      case atStart => exact ⟨0, rfl, by omega, Lib.hid rfl, rfl⟩
      case round =>
        obtain ⟨k, rfl, hk, hall, rfl⟩ := hrel
        by_cases hlt : k < t.size
        · by_cases hp : padC t[k] = true
          · have HP : Hid (((bs t).take (k + 1)).all padC = true) := Lib.hid (by rw [take_all t k hlt, hall.out, hp]; rfl)
            simp only [padC, Bool.or_eq_true, beq_iff_eq] at hp
            by_cases e1 : t[k] = 32
            · have d1 : ((t[k].toNat : Int) != 32) = false := by rw [e1]; rfl
              clear e1 hp
              go_wp2
              go_roundg (t.size - (k + 1))
              case measure => omega
              case rel => exact ⟨k + 1, by go_num, by omega, HP, rfl⟩
            · have d1 : ((t[k].toNat : Int) != 32) = true := by rw [bne, show (32 : Int) = (((32 : UInt8).toNat : Nat) : Int) from rfl, show (((t[k].toNat : Int) == (((32 : UInt8).toNat : Nat) : Int)) : Bool) = false from beq_eq_false_iff_ne.2 fun e => e1 (UInt8.toNat_inj.1 (by omega))]; rfl
              by_cases e2 : t[k] = 9
              · have d2 : ((t[k].toNat : Int) != 9) = false := by rw [e2]; rfl
                clear e1 e2 hp
                go_wp2
                go_roundg (t.size - (k + 1))
                case measure => omega
                case rel => exact ⟨k + 1, by go_num, by omega, HP, rfl⟩
              · have d2 : ((t[k].toNat : Int) != 9) = true := by rw [bne, show (9 : Int) = (((9 : UInt8).toNat : Nat) : Int) from rfl, show (((t[k].toNat : Int) == (((9 : UInt8).toNat : Nat) : Int)) : Bool) = false from beq_eq_false_iff_ne.2 fun e => e2 (UInt8.toNat_inj.1 (by omega))]; rfl
                have e3 : t[k] = 44 := by
                  rcases hp with (h | h) | h
                  · exact absurd h e1
                  · exact absurd h e2
                  · exact h
                have d3 : ((t[k].toNat : Int) != 44) = false := by rw [e3]; rfl
                clear e1 e2 e3 hp
                go_wp2
                go_roundg (t.size - (k + 1))
                case measure => omega
                case rel => exact ⟨k + 1, by go_num, by omega, HP, rfl⟩
          · have hne : ∀ d : UInt8, padC d = true → (((t[k].toNat : Int) == (d.toNat : Int)) : Bool) = false := fun d hd => beq_eq_false_iff_ne.2 fun e => hp (by rw [UInt8.toNat_inj.1 (show t[k].toNat = d.toNat by omega)]; exact hd)
            have d1 : ((t[k].toNat : Int) != 32) = true := by rw [bne]; exact congrArg (!·) (hne 32 (by decide))
            have d2 : ((t[k].toNat : Int) != 9) = true := by rw [bne]; exact congrArg (!·) (hne 9 (by decide))
            have d3 : ((t[k].toNat : Int) != 44) = true := by rw [bne]; exact congrArg (!·) (hne 44 (by decide))
            clear hne hp
            go_wp2
            go_ret
            exact ⟨rfl, HB.out⟩
        · have hP : (bs t).all padC = true := by
            have := hall.out
            rwa [List.take_of_length_le (by rw [bs_length]; omega)] at this
          have HJ : Hid (listB [joined (bs t) (bs t) (bss l)] = listB [joined [] [] (bss l)]) := Lib.hid (joined_eq hP _)
          clear hP hall
          go_wp2
          go_loopg [6, 7, 8] l.length (fun gh v6 v7 v8 wx => ∃ (j : Nat) (x y : ByteArray), v8 = .int .i64 j ∧ v6 = .string x ∧ v7 = .string y ∧ j + gh = l.length ∧ Hid (bs x = joined [] [] (bss (l.take j)) ∧ bs y = joined (bs t) (bs t) (bss (l.take j))) ∧ wx = wr)
          case atStart => exact ⟨0, ⟨#[]⟩, ⟨#[]⟩, rfl, rfl, rfl, by omega, Lib.hid ⟨rfl, rfl⟩, rfl⟩
          case round =>
            clear hk hlt
            obtain ⟨j, x, y, rfl, rfl, rfl, hj, HXY, hwx⟩ := hrel
            have hxs : x.size ≤ 9030 := by
              rw [← bs_length, HXY.out.1]
              have h1 := joined_len [] [] (l.take j)
              have h2 := cnt_le l j
              simp only [List.length_nil, Nat.add_zero, Nat.mul_zero] at h1; omega
            have hys : y.size ≤ 10230 := by
              rw [← bs_length, HXY.out.2]
              have h1 := joined_len (bs t) (bs t) (l.take j)
              have h2 := cnt_le l j
              have h4 : (l.take j).length ≤ 30 := by rw [List.length_take]; omega
              rw [bs_length] at h1
              have h5 : (l.take j).length * (t.size + t.size) ≤ 30 * 40 := Nat.mul_le_mul h4 (by omega)
              omega
            subst hwx
            by_cases hlt : j < l.length
            · obtain ⟨g, off, rfl, hy⟩ := HL.out j hlt
              have hcy : wr.cell? ⟨g, off + j, none⟩ = some (.string l[j]) := ((bcell HB.out).1 g _ (cell_lt hy)).trans hy
              have hls := HS.out _ (List.getElem_mem hlt)
              have hbt : bss (l.take (j + 1)) = bss (l.take j) ++ [bs l[j]] := by rw [List.take_succ_eq_append_getElem hlt]; simp only [bss, List.map_append, List.map_cons, List.map_nil]
              have HE : Hid (bs (x ++ (l[j] ++ ⟨#[44]⟩)) = joined [] [] (bss (l.take (j + 1))) ∧ bs (y ++ (t ++ l[j] ++ t ++ ⟨#[44]⟩)) = joined (bs t) (bs t) (bss (l.take (j + 1)))) := Lib.hid (by
                rw [hbt, joined_app, joined_app, bs_app, bs_app, bs_app, bs_app, bs_app, bs_app, HXY.out.1, HXY.out.2]
                exact ⟨by simp, rfl⟩)
              have hz1 : (t ++ l[j]).size ≤ 320 := by rw [ByteArray.size_append]; omega
              have hz2 : (t ++ l[j] ++ t).size ≤ 340 := by rw [ByteArray.size_append, ByteArray.size_append]; omega
              clear hy hbt
              go_wp2
              go_roundg (l.length - (j + 1))
              case measure => omega
              case rel => exact ⟨j + 1, _, _, by go_num, rfl, rfl, by omega, HE, rfl⟩
            · have hX : bs x = joined [] [] (bss l) := by rw [HXY.out.1, List.take_of_length_le (by omega)]
              have hY : bs y = joined (bs t) (bs t) (bss l) := by rw [HXY.out.2, List.take_of_length_le (by omega)]
              rw [← hX, ← hY] at HJ
              have one : ∀ (s : ByteArray) (w' : World), s.size ≤ 20000 → Strs (w'.alloc (.cells #[.string s] 9)) (some ⟨w'.heap.size, 0, none⟩) [s] := fun s w' _ => strs_lit w' [s] 9 rfl
              have bnd : ∀ (s : ByteArray), s.size ≤ 20000 → cntB [s] ≤ 900000 ∧ [s].length ≤ maxLen ∧ ∀ u ∈ [s], u.size ≤ 900000 := fun s hs => ⟨by simp [cntB]; omega, by show 1 ≤ maxLen; unfold maxLen; omega, fun u hu => by rw [List.mem_singleton] at hu; rw [hu]; omega⟩
              cases h : listB [bs x] with
              | none =>
                have hno : ∀ s : ByteArray, s.size ≤ 20000 → listB [bs s] = none → ∀ w' : World, Calls Tryd.prog 11 #[.slice (some ⟨w'.heap.size, 0, none⟩) 1 1] (w'.alloc (.cells #[.string s] 9)) fun e w'' => e = .returned (.tuple #[.slice none 0 0, .int .i64 60]) ∧ Below w'.heap.size w' w'' := fun s hs hn w' =>
                  cal_b (List_no (A := some ⟨w'.heap.size, 0, none⟩) (l := [s]) (c := 1) hn (bnd s hs).1 (bnd s hs).2.1 (bnd s hs).2.2 (one s w' hs))
                have h1 := hno x (by omega) h
                have h2 := hno y (by omega) (by rw [HJ.out, h])
                have hR := fun (w' : World) => cal_d (Row_calls none none [] [] 0 0 w' (by decide) (by decide) (Strs.nil _ _) (Strs.nil _ _))
                rw [show rowB [] [] = true from rfl] at hR
                clear h hno one bnd hX hY
                go_wp2_with (first
                  | (go_at_call 11; ((with_reducible refine (h1 _).mono ?_); rintro e w2 ⟨rfl, hb⟩; replace HB := Lib.hid (bt HB.out hb); clear hb))
                  | (go_at_call 11; ((with_reducible refine (h2 _).mono ?_); rintro e w3 ⟨rfl, hb⟩; replace HB := Lib.hid (bt HB.out hb); clear hb))
                  | (go_at_call 15; refine (hR _).mono ?_; rintro e w4 ⟨rfl, hb⟩; replace HB := Lib.hid (bt HB.out hb); clear hb))
                go_ret
                exact ⟨rfl, HB.out⟩
              | some r0 =>
                obtain ⟨r, rfl⟩ := unbss r0
                have hrl : r.length ≤ maxLen := by
                  have := listB_len (l := [x]) h
                  have h2 := (bnd x (by omega)).1
                  unfold maxLen; omega
                have hye : ∀ s : ByteArray, s.size ≤ 20000 → listB [bs s] = some (bss r) → ∀ w' : World, Calls Tryd.prog 11 #[.slice (some ⟨w'.heap.size, 0, none⟩) 1 1] (w'.alloc (.cells #[.string s] 9)) fun e w'' => ∃ A' c', e = .returned (.tuple #[.slice A' r.length c', .int .i64 0]) ∧ Strs w'' A' r ∧ Below w'.heap.size w' w'' := fun s hs hn w' =>
                  (List_yes (A := some ⟨w'.heap.size, 0, none⟩) (l := [s]) (c := 1) hn (bnd s hs).1 (bnd s hs).2.1 (bnd s hs).2.2 (one s w' hs)).mono fun e w'' ⟨A', c', g1, _, _, g4, g5⟩ => ⟨A', c', g1, g4, bt (below_alloc1 _ _) g5⟩
                have h1 := hye x (by omega) h
                have h2 := hye y (by omega) (by rw [HJ.out, h])
                have hR := fun (w' : World) A1 c1 A2 c2 (g1 : Strs w' A1 r) (g2 : Strs w' A2 r) => cal_d (Row_calls A1 A2 r r c1 c2 w' hrl hrl g1 g2)
                rw [show rowB r r = true by unfold rowB; simp] at hR
                clear h hye one bnd hX hY hrl
                go_wp2_with (first
                  | (go_at_call 11; ((with_reducible refine (h1 _).mono ?_); rintro e w2 ⟨A2, c2, rfl, hst, hb⟩; replace HB := Lib.hid (bt HB.out hb); have H2 := Lib.hid hst; clear hb hst))
                  | (go_at_call 11; ((with_reducible refine (h2 _).mono ?_); rintro e w3 ⟨A3, c3, rfl, hst, hb⟩; replace HB := Lib.hid (bt HB.out hb); replace H2 := Lib.hid (H2.out.below hb); have H3 := Lib.hid hst; clear hb hst))
                  | (go_at_call 15; refine (hR _ _ _ _ _ H2.out H3.out).mono ?_; rintro e w4 ⟨rfl, hb⟩; replace HB := Lib.hid (bt HB.out hb); clear hb))
                go_ret
                exact ⟨rfl, HB.out⟩
    · have hd : decide (20 < (t.size : Int)) = true := decide_eq_true (by omega)
      go_enter Tryd.func8, Tryd.ntmps8
      have HB := Lib.hid (Below.refl w.heap.size w)
      go_wp2_with (first
        | (go_at_call 9; refine (awake_calls _).mono ?_; rintro e w1 ⟨rfl, hb⟩; replace HB := Lib.hid (bt HB.out hb); clear hb)
        | (go_at_call 10; refine (hF _ (HL.out.below HB.out)).mono ?_; rintro e w1' ⟨rfl, rfl⟩))
      go_ret
      exact ⟨rfl, HB.out⟩
  · have hf2 : fewB l = false := by simpa using hfew
    rw [hf2] at hF
    clear hfew hf2
    go_enter Tryd.func8, Tryd.ntmps8
    have HB := Lib.hid (Below.refl w.heap.size w)
    go_wp2_with (first
      | (go_at_call 9; refine (awake_calls _).mono ?_; rintro e w1 ⟨rfl, hb⟩; replace HB := Lib.hid (bt HB.out hb); clear hb)
      | (go_at_call 10; refine (hF _ (HL.out.below HB.out)).mono ?_; rintro e w1' ⟨rfl, rfl⟩))
    go_ret
    exact ⟨rfl, HB.out⟩
end Go.Proofs.YtkhepfmllolokaaDoor
