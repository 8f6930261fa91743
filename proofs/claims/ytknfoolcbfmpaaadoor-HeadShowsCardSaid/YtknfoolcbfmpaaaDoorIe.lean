/- The document's trim: a text without blanks at its ends; conditions: strings of lengths that a world can hold. -/
import Derived.Test.YtknfoolcbfmpaaaDoorHs
import Derived.Lib.SlTrimSet
import Derived.Lib.IndexBytes
namespace Go.Proofs.YtknfoolcbfmpaaaDoor
set_option linter.unusedSimpArgs false
set_option linter.unusedVariables false
open Go.RowKit
def blk2 (c : UInt8) : Bool := ([32, 9] : List UInt8).contains c
def trL (l : List UInt8) : List UInt8 := l.dropWhile blk2
def trR (l : List UInt8) : List UInt8 := (l.reverse.dropWhile blk2).reverse
theorem trR_cons (x : UInt8) (l : List UInt8) : trR (x :: l) = if (trR l).isEmpty then (if blk2 x then [] else [x]) else x :: trR l := by
  unfold trR
  rw [List.reverse_cons, List.dropWhile_append]
  cases h : l.reverse.dropWhile blk2 with
  | nil =>
    simp only [List.isEmpty_nil, if_true, List.reverse_nil]
    rw [List.dropWhile_cons]
    cases blk2 x <;> rfl
  | cons y r => simp
theorem trL_nil_of (l : List UInt8) : trR l = [] → trL l = [] := by
  induction l with
  | nil => exact fun _ => rfl
  | cons x l ih =>
    rw [trR_cons]
    intro h
    cases hr : trR l with
    | nil =>
      rw [hr] at h
      cases hb : blk2 x with
      | false => rw [hb] at h; simp at h
      | true =>
        have := ih hr
        unfold trL at this ⊢
        rw [List.dropWhile_cons, if_pos hb]
        exact this
    | cons y r => rw [hr] at h; simp at h
theorem tr_comm (l : List UInt8) : trR (trL l) = trL (trR l) := by
  induction l with
  | nil => rfl
  | cons x l ih =>
    have e : trL (x :: l) = if blk2 x then trL l else x :: l := by
      unfold trL
      rw [List.dropWhile_cons]
    rw [e]
    cases hb : blk2 x with
    | true =>
      rw [if_pos rfl, trR_cons, hb]
      cases hr : trR l with
      | nil =>
        rw [trL_nil_of l hr]; rfl
      | cons y r =>
        rw [ih, hr]
        have e2 : trL (x :: y :: r) = trL (y :: r) := by
          unfold trL
          rw [List.dropWhile_cons, if_pos hb]
        simp [e2]
    | false =>
      rw [if_neg (by simp), trR_cons, hb]
      have e2 : ∀ r, trL (x :: r) = x :: r := fun r => by
        unfold trL
        rw [List.dropWhile_cons, if_neg (by simp [hb])]
      cases hr : (trR l).isEmpty
      · simp [e2]
      · simp [e2]
theorem trimS_tr (l : List UInt8) : Lib.trimS l [32, 9] = trR (trL l) := by
  rw [tr_comm]; rfl
theorem blk2_iff (c : UInt8) : blk2 c = true ↔ (c.toNat : Int) = 32 ∨ (c.toNat : Int) = 9 := by
  have h1 : (c.toNat : Int) = 32 ↔ c = 32 := ⟨fun h => UInt8.toNat_inj.1 (by show c.toNat = 32; omega), fun h => by rw [h]; rfl⟩
  have h2 : (c.toNat : Int) = 9 ↔ c = 9 := ⟨fun h => UInt8.toNat_inj.1 (by show c.toNat = 9; omega), fun h => by rw [h]; rfl⟩
  rw [h1, h2]
  unfold blk2
  simp
theorem bs_first (s : ByteArray) (h : 0 < s.size) : bs s = s[0] :: (bs s).drop 1 := by
  have h0 := bs_get? s 0 h
  cases hb : bs s with
  | nil => rw [hb] at h0; simp at h0
  | cons x l => rw [hb] at h0; simp at h0; simp [h0]
theorem bs_tail (s : ByteArray) : bs (s.extract 1 s.size) = (bs s).drop 1 := Lib.extract_to_end s 1
theorem bs_init (s : ByteArray) : bs (s.extract 0 (s.size - 1)) = (bs s).take (s.size - 1) := Lib.extract_from_zero s _
theorem bs_lastc (s : ByteArray) (h : s.size - 1 < s.size) : bs s = (bs s).take (s.size - 1) ++ [s[s.size - 1]'h] := by
  have h1 := List.take_succ_eq_append_getElem (l := bs s) (i := s.size - 1) (by rw [bs_length]; exact h)
  rw [show s.size - 1 + 1 = s.size by omega, take_size] at h1
  exact h1
theorem trR_snoc (l : List UInt8) (x : UInt8) : trR (l ++ [x]) = if blk2 x then trR l else l ++ [x] := by
  unfold trR
  rw [List.reverse_append, List.reverse_cons, List.reverse_nil, List.nil_append, List.singleton_append, List.dropWhile_cons]
  split
  · rfl
  · simp
set_option maxHeartbeats 2000000 in
theorem reftrim_calls (s : ByteArray) (w : World) (hs : s.size ≤ maxLen) :
    Calls Tryd.prog 41 #[.string s] w fun e w' => ∃ t : ByteArray, e = .returned (.string t) ∧ t.size ≤ s.size ∧ Hid (bs t = Lib.trimS (bs s) [32, 9]) ∧ w' = w := by
  unfold maxLen at hs
  have HS := Lib.hid (trimS_tr (bs s))
  generalize Lib.trimS (bs s) [32, 9] = R at HS ⊢
  go_enter Tryd.func41, Tryd.ntmps41
  go_wp2
  go_loopg [0] s.size (fun gh v0 wx => ∃ t : ByteArray, v0 = .string t ∧ t.size = gh ∧ t.size ≤ s.size ∧ Hid (trL (bs t) = trL (bs s)) ∧ wx = w)
  case atStart => exact ⟨s, rfl, rfl, Nat.le_refl _, Lib.hid rfl, rfl⟩
  case round =>
    obtain ⟨t, rfl, hg, hle, HT, rfl⟩ := hrel
    subst hg
    have HN : Hid (∀ h : 0 < t.size, (blk2 t[0] = true → trL (bs (t.extract 1 t.size)) = trL (bs s)) ∧ (blk2 t[0] = false → trL (bs s) = bs t)) := Lib.hid fun h => by
      have e := bs_first t h
      have e2 := HT.out
      unfold trL at e2 ⊢
      refine ⟨fun hb => ?_, fun hb => ?_⟩
      · rw [e, List.dropWhile_cons, if_pos hb, ← bs_tail] at e2
        exact e2
      · rw [e, List.dropWhile_cons, if_neg (by simp [hb]), ← e] at e2
        exact e2.symm
    have HM : Hid (∀ u : ByteArray, (u.size = 0 ∨ ∃ h : u.size - 1 < u.size, blk2 (u[u.size - 1]'h) = false) → trR (bs u) = bs u) := Lib.hid fun u h => by
      rcases h with h | ⟨h, hb⟩
      · have : bs u = [] := List.eq_nil_of_length_eq_zero (by rw [bs_length]; exact h)
        rw [this]; rfl
      · rw [bs_lastc u h, trR_snoc, hb]; rfl
    by_cases h0 : 0 < t.size
    · have hc := t[0].toNat_lt
      by_cases hb : (t[0].toNat : Int) = 32 ∨ (t[0].toNat : Int) = 9
      · have HX := Lib.hid ((HN.out h0).1 ((blk2_iff _).2 hb))
        have hsz : (t.extract 1 t.size).size = t.size - 1 := by rw [ByteArray.size_extract]; omega
        clear HN HM HT
        by_cases hx : (t[0].toNat : Int) = 32
        all_goals
          first
            | (have e1 : ((t[0].toNat : Int) == 32) = true := beq_iff_eq.2 hx)
            | (have e1 : ((t[0].toNat : Int) == 32) = false := beq_eq_false_iff_ne.2 hx
               have e2 : ((t[0].toNat : Int) == 9) = true := beq_iff_eq.2 (hb.resolve_left hx))
          clear hx hb
          go_wp2
          go_roundg (t.size - 1)
          case measure => omega
          case rel => exact ⟨t.extract 1 t.size, rfl, hsz, by omega, HX, rfl⟩
      · have h1 : ((t[0].toNat : Int) == 32) = false := beq_eq_false_iff_ne.2 fun e => hb (.inl e)
        have h2 : ((t[0].toNat : Int) == 9) = false := beq_eq_false_iff_ne.2 fun e => hb (.inr e)
        have HX := Lib.hid ((HN.out h0).2 (by rw [Bool.eq_false_iff, Ne, blk2_iff]; exact hb))
        clear HN HT hb
        go_wp2
        go_loopg [0] t.size (fun gh v0 wx => ∃ u : ByteArray, v0 = .string u ∧ u.size = gh ∧ u.size ≤ t.size ∧ Hid (trR (bs u) = trR (bs t)) ∧ wx = wr)
        case atStart => exact ⟨t, rfl, rfl, Nat.le_refl _, Lib.hid rfl, rfl⟩
        case round =>
          obtain ⟨u, rfl, hg, hlu, HU, rfl⟩ := hrel
          subst hg
          by_cases g0 : 0 < u.size
          · have gl : u.size - 1 < u.size := by omega
            have gc := (u[u.size - 1]'gl).toNat_lt
            by_cases gb : ((u[u.size - 1]'gl).toNat : Int) = 32 ∨ ((u[u.size - 1]'gl).toNat : Int) = 9
            · have HY : Hid (trR (bs (u.extract 0 (u.size - 1))) = trR (bs t)) := Lib.hid (by
                have e := HU.out
                rw [bs_lastc u gl, trR_snoc, if_pos ((blk2_iff _).2 gb)] at e
                rw [bs_init]; exact e)
              have hsz : (u.extract 0 (u.size - 1)).size = u.size - 1 := by rw [ByteArray.size_extract]; omega
              clear HM HU HX HS
              by_cases hx : ((u[u.size - 1]'gl).toNat : Int) = 32
              all_goals
                first
                  | (have e1 : (((u[u.size - 1]'gl).toNat : Int) == 32) = true := beq_iff_eq.2 hx)
                  | (have e1 : (((u[u.size - 1]'gl).toNat : Int) == 32) = false := beq_eq_false_iff_ne.2 hx
                     have e2 : (((u[u.size - 1]'gl).toNat : Int) == 9) = true := beq_iff_eq.2 (gb.resolve_left hx))
                clear hx gb
                go_wp2
                go_roundg (u.size - 1)
                case measure => omega
                case rel => exact ⟨u.extract 0 (u.size - 1), rfl, hsz, by omega, HY, rfl⟩
            · have h3 : (((u[u.size - 1]'gl).toNat : Int) == 32) = false := beq_eq_false_iff_ne.2 fun e => gb (.inl e)
              have h4 : (((u[u.size - 1]'gl).toNat : Int) == 9) = false := beq_eq_false_iff_ne.2 fun e => gb (.inr e)
              have HY : Hid (bs u = R) := Lib.hid (by
                rw [HS.out, HX.out, ← HU.out]
                exact (HM.out u (.inr ⟨gl, by rw [Bool.eq_false_iff, Ne, blk2_iff]; exact gb⟩)).symm)
              clear HM HU HX HS gb
              go_wp2
              go_ret
              exact ⟨u, rfl, by omega, HY, rfl⟩
          · have HY : Hid (bs u = R) := Lib.hid (by
              rw [HS.out, HX.out, ← HU.out]
              exact (HM.out u (.inl (by omega))).symm)
            clear HM HU HX HS
            go_wp2
            go_ret
            exact ⟨u, rfl, by omega, HY, rfl⟩
    · have HX : Hid (trL (bs s) = bs t) := Lib.hid (by
        have e : bs t = [] := List.eq_nil_of_length_eq_zero (by rw [bs_length]; omega)
        rw [← HT.out, e]; rfl)
      clear HN HT
      go_wp2
      go_loopg [0] t.size (fun gh v0 wx => ∃ u : ByteArray, v0 = .string u ∧ u.size = gh ∧ u.size ≤ t.size ∧ Hid (trR (bs u) = trR (bs t)) ∧ wx = wr)
      case atStart => exact ⟨t, rfl, rfl, Nat.le_refl _, Lib.hid rfl, rfl⟩
      case round =>
        obtain ⟨u, rfl, hg, hlu, HU, rfl⟩ := hrel
        subst hg
        by_cases g0 : 0 < u.size
        · exact absurd g0 (by omega)
        · have HY : Hid (bs u = R) := Lib.hid (by
            rw [HS.out, HX.out, ← HU.out]
            exact (HM.out u (.inl (by omega))).symm)
          clear HM HU HX HS
          go_wp2
          go_ret
          exact ⟨u, rfl, by omega, HY, rfl⟩
end Go.Proofs.YtknfoolcbfmpaaaDoor
