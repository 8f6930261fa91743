/- Plain laws: the document's lines, first lines and fields are the program's: no program in sight. -/
import Derived.Test.YtknfoolcbfmpaaaDoorIa
import Derived.Test.YtknfoolcbfmpaaaDoorHs
namespace Go.Proofs.YtknfoolcbfmpaaaDoor
set_option linter.unusedSimpArgs false
set_option linter.unusedVariables false
def crlf : List UInt8 := [13, 10]
theorem occ_take {s sub : List UInt8} {j k : Nat} (h : j + sub.length ≤ k) (hs : j + sub.length ≤ s.length) : Lib.occAt (s.take k) sub j = Lib.occAt s sub j := by
  rw [Lib.occAt_iff_take _ _ _ (by rw [List.length_take]; omega), Lib.occAt_iff_take _ _ _ hs, List.drop_take, List.take_take, Nat.min_eq_left (by omega)]
theorem occ_drop (s sub : List UInt8) (a j : Nat) : Lib.occAt (s.drop a) sub j = Lib.occAt s sub (a + j) := by
  unfold Lib.occAt
  rw [List.drop_drop]
theorem end_hit {s : List UInt8} {k : Nat} (h : Lib.occAt s endB k = true) (hn : Lib.NoOcc s endB k) (h1 : k + 4 ≤ s.length) (h2 : k + 4 ≤ 2048) : Lib.index (s.take 2048) endB = k :=
  index_less (Lib.index_hit hn (by omega) h) h2 (by decide)
theorem end_no {s : List UInt8} {i : Nat} (hn : Lib.NoOcc s endB i) (h : ¬ (i + 4 ≤ s.length ∧ i + 4 ≤ 2048)) : Lib.index (s.take 2048) endB = -1 := by
  refine Lib.index_none fun j _ => ?_
  cases ho : Lib.occAt (s.take 2048) endB j with
  | false => rfl
  | true =>
    have hr : j + 4 ≤ (s.take 2048).length := by
      rcases Lib.occAt_room ho with h' | h'
      · exact h'
      · cases h'
    rw [List.length_take] at hr
    rw [occ_take (show j + 4 ≤ 2048 by omega) (show j + 4 ≤ s.length by omega), hn j (by omega)] at ho
    cases ho
/-- The lines that are left from a place on. -/
def Rem (s : List UInt8) (n from' : Nat) (R : List (List UInt8)) : Prop := (from' = n + 2 ∧ R = []) ∨ (from' ≤ n ∧ R = Lib.split ((s.take n).drop from') crlf)
theorem rem_start (s : List UInt8) (n : Nat) : Rem s n 0 (Lib.split (s.take n) [13, 10]) := .inr ⟨Nat.zero_le _, rfl⟩
theorem occ_crlf {s : List UInt8} {i : Nat} (h : Lib.occAt s crlf i = true) : s[i]? = some 13 ∧ s[i + 1]? = some 10 := ⟨Lib.occAt_head rfl h, Lib.occAt_second rfl h⟩
theorem rem_step {s : List UInt8} {n f : Nat} {R : List (List UInt8)} (hn : Lib.occAt s crlf n = true) (h : Rem s n f R) (hf : f < n + 2) :
    ∃ line R', R = line :: R' ∧ line = (s.drop f).take line.length ∧ f + line.length ≤ n ∧ Lib.occAt s crlf (f + line.length) = true ∧ (∀ j, j < line.length → Lib.occAt s crlf (f + j) = false) ∧ Rem s n (f + line.length + 2) R' := by
  have hlen : n + 2 ≤ s.length := by
    rcases Lib.occAt_room hn with h' | h'
    · exact h'
    · cases h'
  rcases h with ⟨h1, _⟩ | ⟨h1, rfl⟩
  · omega
  have hl : ((s.take n).drop f).length = n - f := by rw [List.length_drop, List.length_take]; omega
  have hto : ∀ j, f + j + 2 ≤ n → Lib.occAt ((s.take n).drop f) crlf j = Lib.occAt s crlf (f + j) := fun j hj => by
    rw [occ_drop, occ_take hj (by show f + j + 2 ≤ s.length; omega)]
  rcases Lib.index_spec ((s.take n).drop f) crlf with ⟨g1, g2⟩ | ⟨i, g1, g2, g3, g4⟩
  · refine ⟨(s.take n).drop f, [], split_no g1, ?_, by rw [hl]; omega, ?_, ?_, .inl ⟨by rw [hl]; omega, rfl⟩⟩
    · rw [hl, List.drop_take]
    · rw [hl, show f + (n - f) = n by omega]; exact hn
    · intro j hj
      rw [hl] at hj
      by_cases hj2 : f + j + 2 ≤ n
      · rw [← hto j hj2]
        exact g2 j (by rw [hl]; omega)
      · cases ho : Lib.occAt s crlf (f + j) with
        | false => rfl
        | true =>
          have e1 := (occ_crlf ho).2
          have e2 := (occ_crlf hn).1
          rw [show f + j + 1 = n by omega, e2] at e1
          cases e1
  · have hroom : i + 2 ≤ n - f := by
      rcases Lib.occAt_room g3 with h' | h'
      · rw [hl] at h'; exact h'
      · cases h'
    have hi : (((s.take n).drop f).take i).length = i := by rw [List.length_take, hl]; omega
    refine ⟨((s.take n).drop f).take i, Lib.split (((s.take n).drop f).drop (i + crlf.length)) crlf, split_hit (by decide) g1, ?_, by rw [hi]; omega, ?_, ?_, .inr ⟨by rw [hi]; omega, ?_⟩⟩
    · rw [hi, List.drop_take, List.take_take, Nat.min_eq_left (by omega)]
    · rw [hi, ← hto i (by omega)]; exact g3
    · intro j hj
      rw [hi] at hj
      rw [← hto j (by omega)]
      exact g4 j hj
    · rw [hi, List.drop_drop]; rfl
/-- Where a byte is first; the length, if it isn't there. -/
theorem atB_le (l : List UInt8) (c : UInt8) : atB l c ≤ l.length := by
  unfold atB
  exact (List.takeWhile_sublist _).length_le
theorem atB_idx (l : List UInt8) (c : UInt8) : (atB l c = l.length ∧ Lib.index l [c] = -1) ∨ (atB l c < l.length ∧ Lib.index l [c] = atB l c) := by
  induction l with
  | nil => exact .inl ⟨rfl, rfl⟩
  | cons x l ih =>
    by_cases hx : x = c
    · subst hx
      refine .inr ⟨by simp [atB], ?_⟩
      unfold Lib.index atB
      simp
    · have e : atB (x :: l) c = atB l c + 1 := by unfold atB; simp [hx]
      have e2 : Lib.index (x :: l) [c] = if Lib.index l [c] == -1 then -1 else Lib.index l [c] + 1 := by
        conv => lhs; unfold Lib.index
        have hp : ([c] : List UInt8).isPrefixOf (x :: l) = false := by
          simp [List.isPrefixOf, Ne.symm hx]
        rw [hp]; rfl
      rcases ih with ⟨h1, h2⟩ | ⟨h1, h2⟩
      · exact .inl ⟨by rw [e, h1]; rfl, by rw [e2, h2]; rfl⟩
      · refine .inr ⟨by rw [e, List.length_cons]; omega, ?_⟩
        have hb : ((atB l c : Int) == -1) = false := by rw [beq_eq_false_iff_ne]; omega
        rw [e2, h2, hb, e]
        simp
/-- The document's first line. -/
def refFirst (l : List UInt8) : Option (List UInt8 × List UInt8 × List UInt8) :=
  if atB l 32 = l.length then none
  else if atB l 32 + 1 + atB (l.drop (atB l 32 + 1)) 32 = l.length then none
  else some (l.take (atB l 32), (l.drop (atB l 32 + 1)).take (atB (l.drop (atB l 32 + 1)) 32), l.drop (atB l 32 + 1 + atB (l.drop (atB l 32 + 1)) 32 + 1))
/-- The document's field of a line. -/
def refFld (l : List UInt8) : Option (List UInt8 × List UInt8) :=
  if atB l 58 = l.length then none else some (l.take (atB l 58), trimW (l.drop (atB l 58 + 1)))
theorem first_ref (l : List UInt8) : firstB l = match refFirst l with
    | none => none
    | some (a, b, c) => if wordB a && wordB b && valueB c then some (a, b, c) else none := by
  unfold firstB refFirst Lib.splitN
  rcases atB_idx l 32 with ⟨h1, h2⟩ | ⟨h1, h2⟩
  · rw [if_pos h1, splitK_no _ h2]
  · rw [if_neg (by omega)]
    by_cases hl : l.length = 1
    · have e0 : atB l 32 = 0 := by omega
      rw [hl, e0]
      have e1 : l.drop (0 + 1) = [] := List.drop_of_length_le (by omega)
      rw [e1]
      have e2 : Lib.splitK [32] 0 (min 3 (1 + 1) - 1) l = [[], []] := by
        rw [show min 3 (1 + 1) - 1 = 0 + 1 by omega, splitK_hit _ (by rw [h2, e0]), show (0 : Nat) + [(32 : UInt8)].length = 0 + 1 from rfl, e1]
        rfl
      rw [e2, if_pos (by rfl)]
    · rw [show min 3 (l.length + 1) - 1 = 1 + 1 by omega, splitK_hit _ h2]
      have e : atB l 32 + [(32 : UInt8)].length = atB l 32 + 1 := rfl
      rw [e]
      have hd : (l.drop (atB l 32 + 1)).length = l.length - (atB l 32 + 1) := List.length_drop
      rcases atB_idx (l.drop (atB l 32 + 1)) 32 with ⟨g1, g2⟩ | ⟨g1, g2⟩
      · rw [if_pos (by omega), splitK_no _ g2]
      · rw [if_neg (by omega), splitK_hit (k := 0) (by rw [g2])]
        have e3 : List.drop (atB (l.drop (atB l 32 + 1)) 32 + [(32 : UInt8)].length) (l.drop (atB l 32 + 1)) = l.drop (atB l 32 + 1 + atB (l.drop (atB l 32 + 1)) 32 + 1) := by
          rw [List.drop_drop]; congr 1
        rw [e3]
        rfl
theorem fld_ref (l : List UInt8) : (refFld l = none → okF l = false) ∧ (∀ f, refFld l = some f → fldB l = (f, !oddB f)) := by
  unfold refFld okF fldB Lib.cut
  rcases atB_idx l 58 with ⟨h1, h2⟩ | ⟨h1, h2⟩
  · rw [if_pos h1, h2]
    exact ⟨fun _ => rfl, fun f h => (by cases h)⟩
  · rw [if_neg (by omega), h2, if_pos (Int.natCast_nonneg _), Int.toNat_natCast]
    refine ⟨fun h => (by cases h), fun f h => ?_⟩
    cases h
    unfold oddB
    simp
/-- What the document's Read tells of lines. -/
def refLines (ls : List (List UInt8)) (n : Int) : Rd :=
  match ls with
  | [] => ⟨nilP, 0, 52⟩
  | l :: ls => match refFirst l with
    | none => ⟨nilP, 0, 52⟩
    | some (a, b, c) => if ls.all (fun l => (refFld l).isSome) then
        (if formP ⟨a, b, c, ls.filterMap refFld⟩ then (if 32 < ls.length then ⟨nilP, 0, 51⟩ else ⟨⟨a, b, c, ls.filterMap refFld⟩, n + 4, 0⟩) else ⟨nilP, 0, 52⟩)
      else ⟨nilP, 0, 52⟩
theorem fields_ref (ls : List (List UInt8)) : fieldsB ls = if ls.all (fun l => (refFld l).isSome) && !(ls.filterMap refFld).any oddB then some (ls.filterMap refFld) else none := by
  induction ls with
  | nil => rfl
  | cons l ls ih =>
    obtain ⟨h1, h2⟩ := fld_ref l
    have hc : fieldsB (l :: ls) = if okF l then (fieldsB ls).map ((fldB l).1 :: ·) else none := by
      unfold fieldsB
      rw [List.all_cons]
      cases okF l
      · rfl
      · cases ls.all okF <;> rfl
    rw [hc, ih]
    cases hr : refFld l with
    | none => rw [h1 hr, List.all_cons, hr]; rfl
    | some f =>
      have e := h2 f hr
      have e2 : okF l = !oddB f := by unfold okF; rw [e]
      rw [e2, e, List.all_cons, hr, List.filterMap_cons_some hr, List.any_cons]
      cases oddB f
      · cases (ls.all fun l => (refFld l).isSome) <;> cases ((ls.filterMap refFld).any oddB) <;> rfl
      · simp
theorem filt_len (ls : List (List UInt8)) (h : (ls.all fun l => (refFld l).isSome) = true) : (ls.filterMap refFld).length = ls.length := by
  induction ls with
  | nil => rfl
  | cons l ls ih =>
    rw [List.all_cons, Bool.and_eq_true] at h
    obtain ⟨f, hf⟩ := Option.isSome_iff_exists.1 h.1
    rw [List.filterMap_cons_some hf, List.length_cons, List.length_cons, ih h.2]
theorem refl_no {l : List UInt8} (ls : List (List UInt8)) (n : Int) (h : refFirst l = none) : refLines (l :: ls) n = ⟨nilP, 0, 52⟩ := by
  unfold refLines
  simp only [h]
theorem refl_yes {l a b c : List UInt8} (ls : List (List UInt8)) (n : Int) (h : refFirst l = some (a, b, c)) : refLines (l :: ls) n = if ls.all (fun l => (refFld l).isSome) then
        (if formP ⟨a, b, c, ls.filterMap refFld⟩ then (if 32 < ls.length then ⟨nilP, 0, 51⟩ else ⟨⟨a, b, c, ls.filterMap refFld⟩, n + 4, 0⟩) else ⟨nilP, 0, 52⟩)
      else ⟨nilP, 0, 52⟩ := by
  unfold refLines
  simp only [h]
theorem lines_ref (ls : List (List UInt8)) (n : Int) : linesB ls n = refLines ls n := by
  cases ls with
  | nil => rfl
  | cons l ls =>
    have hf := first_ref l
    cases hr : refFirst l with
    | none =>
      rw [hr] at hf
      rw [lines_no _ _ hf, refl_no _ _ hr]
    | some q =>
      obtain ⟨a, b, c⟩ := q
      rw [hr] at hf
      simp only at hf
      rw [refl_yes _ _ hr]
      have hform : formP ⟨a, b, c, ls.filterMap refFld⟩ = (wordB a && wordB b && valueB c && !(ls.filterMap refFld).any oddB) := rfl
      rw [hform]
      cases hq : (wordB a && wordB b && valueB c) with
      | false =>
        rw [hq] at hf
        rw [lines_no _ _ hf]
        simp
      | true =>
        rw [hq] at hf
        rw [lines_yes _ _ hf, fields_ref]
        cases hall : (ls.all fun l => (refFld l).isSome) with
        | false => simp
        | true =>
          cases hodd : (ls.filterMap refFld).any oddB with
          | true => simp
          | false => simp [filt_len ls hall]
end Go.Proofs.YtknfoolcbfmpaaaDoor
