/- The statements' own upper: a to z as A to Z; conditions: the string is of a length that a world can hold. -/
import Derived.Test.YtkhepfmllolokaaDoorNk
namespace Go.Proofs.YtkhepfmllolokaaDoor
set_option linter.unusedSimpArgs false
set_option linter.unusedVariables false
open Go.RowKit
def curU (l : By) (k : Nat) : By := (l.take k).map upC ++ l.drop k
theorem curU_len (l : By) (k : Nat) : (curU l k).length = l.length := by
  unfold curU
  rw [List.length_append, List.length_map, List.length_take, List.length_drop]; omega
theorem curU_at (l : By) (k : Nat) (h : k < l.length) : (curU l k)[k]? = some l[k] := by
  unfold curU
  rw [List.getElem?_append_right (by rw [List.length_map, List.length_take]; omega), List.length_map, List.length_take, Nat.min_eq_left (by omega), Nat.sub_self, List.getElem?_drop, Nat.add_zero, List.getElem?_eq_getElem h]
theorem curU_set (l : By) (k : Nat) (h : k < l.length) : (curU l k).set k (upC l[k]) = curU l (k + 1) := by
  unfold curU
  rw [List.set_append_right _ _ (by rw [List.length_map, List.length_take]; omega), List.length_map, List.length_take, Nat.min_eq_left (by omega), Nat.sub_self, List.drop_eq_getElem_cons h, List.set_cons_zero,
    List.take_succ_eq_append_getElem h, List.map_append, List.append_assoc]; rfl
theorem curU_same (l : By) (k : Nat) (h : k < l.length) (he : upC l[k] = l[k]) : curU l (k + 1) = curU l k := by
  rw [← curU_set l k h, he]
  have h1 := curU_at l k h
  obtain ⟨h2, h3⟩ := List.getElem?_eq_some_iff.1 h1
  rw [← h3]
  exact List.set_getElem_self _
theorem curU_end (l : By) : curU l l.length = l.map upC := by
  unfold curU
  rw [List.take_length, List.drop_length, List.append_nil]
/-- The bytes in memory, some of them turned. -/
structure UpAt (g : Nat) (s : ByteArray) (k : Nat) (w w' : World) : Prop where
  by_ : Bys w' (some ⟨g, 0, none⟩) (curU (bs s) k)
  fr : ∀ i, i < s.size → w'.frozen? ⟨g, i, none⟩ = false
  be : Below w.heap.size w w'
set_option maxRecDepth 100000 in
set_option maxHeartbeats 4000000 in
theorem upper_calls (s : ByteArray) (w : World) (hs : s.size ≤ maxLen) :
    Calls Tryd.prog 21 #[.string s] w fun e w' => e = .returned (.string (mk ((bs s).map upC))) ∧ Below w.heap.size w w' := by
  have hcv := fun w => conv_bytes w s
  have hcp := cv_cap w s hs
  have H0 : Hid (UpAt w.heap.size s 0 w (cvW w s)) := Lib.hid ⟨by rw [show curU (bs s) 0 = bs s by simp [curU]]; exact cv_bys w s, cv_frozen w s, cv_below w s⟩
  have hfin : ∀ W, UpAt w.heap.size s s.size w W → (convert 47 9 (.slice (some ⟨w.heap.size, 0, none⟩) s.size (cvC w s))).run Tryd.prog W = .ok (.string (mk ((bs s).map upC))) W := fun W h => by
    have := conv_str (w := W) (cvC w s) h.by_
    have he : curU (bs s) s.size = (bs s).map upC := by rw [← bs_length]; exact curU_end _
    rw [curU_len, bs_length, he] at this
    exact this
  have HF := Lib.hid hfin
  obtain ⟨hcp1, hcp2⟩ := hcp
  clear hfin
  unfold maxLen at hs hcp2
  go_enter Tryd.func21, Tryd.ntmps21
  go_wp2
  clear hcv
  generalize cvC w s = cap at hcp1 hcp2 HF ⊢
  generalize cvW w s = W0 at H0 ⊢
  go_loopg [4] s.size (fun gh v4 wx => ∃ k : Nat, v4 = .int .i64 k ∧ k + gh = s.size ∧ Hid (UpAt w.heap.size s k w wx))
  case atStart => exact ⟨0, rfl, by omega, H0⟩
  case round =>
    obtain ⟨k, rfl, hk, HU⟩ := hrel
    by_cases hlt : k < s.size
    · have hkl : k < (bs s).length := by rw [bs_length]; exact hlt
      obtain ⟨g', off, e, hc⟩ := HU.out.by_ k (by rw [curU_len]; exact hkl)
      cases e
      have hck : (curU (bs s) k)[k]'(by rw [curU_len]; exact hkl) = s[k] := by
        have := curU_at (bs s) k hkl
        obtain ⟨_, h3⟩ := List.getElem?_eq_some_iff.1 this
        rw [h3]; rfl
      rw [hck, Nat.zero_add] at hc
      have hfr := HU.out.fr k hlt
      have hc256 := s[k].toNat_lt
      have hu := upC_nat s[k]
      have HS := Lib.hid (curU_set (bs s) k hkl)
      have HSA := Lib.hid (curU_same (bs s) k hkl)
      have e0 : (bs s)[k]'hkl = s[k] := rfl
      rw [e0] at HS HSA
      clear hck e0
      by_cases h1 : 97 ≤ s[k].toNat
      · by_cases h2 : s[k].toNat ≤ 122
        · rw [if_pos ⟨h1, h2⟩] at hu
          have HX := Lib.hid hu
          clear hu
          go_wp2
          go_roundg (s.size - (k + 1))
          case measure => omega
          case rel =>
            refine ⟨k + 1, by go_num, by omega, Lib.hid ?_⟩
            have hv : (s[k].toNat : Int) - 32 = ((upC s[k]).toNat : Int) := by rw [HX.out]; omega
            rw [hv]
            refine ⟨by rw [← HS.out]; exact bys_set HU.out.by_ (by rw [curU_len]; exact hkl), fun i hi => by rw [World.frozen?_setCell]; exact HU.out.fr i hi, below_set HU.out.be (Nat.le_refl _) _ _⟩
        · rw [if_neg (by omega)] at hu
          have HX := Lib.hid (HSA.out (UInt8.toNat_inj.1 hu))
          clear hu
          have h3 : 122 < s[k].toNat := by omega
          go_wp2
          go_roundg (s.size - (k + 1))
          case measure => omega
          case rel => exact ⟨k + 1, by go_num, by omega, Lib.hid ⟨by rw [HX.out]; exact HU.out.by_, HU.out.fr, HU.out.be⟩⟩
      · rw [if_neg (by omega)] at hu
        have HX := Lib.hid (HSA.out (UInt8.toNat_inj.1 hu))
        clear hu
        go_wp2
        go_roundg (s.size - (k + 1))
        case measure => omega
        case rel => exact ⟨k + 1, by go_num, by omega, Lib.hid ⟨by rw [HX.out]; exact HU.out.by_, HU.out.fr, HU.out.be⟩⟩
    · obtain rfl : k = s.size := by omega
      have hf := HF.out wr HU.out
      go_wp2
      go_ret
      exact ⟨rfl, HU.out.be⟩
end Go.Proofs.YtkhepfmllolokaaDoor
