/- Plain laws: lines, and what is between them; a head's text is read as itself; what is cut off: no program in sight. -/
import Derived.Test.YtknfoolcbfmpaaaDoorHg
namespace Go.Proofs.YtknfoolcbfmpaaaDoor
set_option linter.unusedSimpArgs false
set_option linter.unusedVariables false
/-- Lines, each with its end. -/
def catL (ls : List (List UInt8)) : List UInt8 := ls.flatMap (· ++ [13, 10])
theorem nocc {s : List UInt8} {c : UInt8} {t : List UInt8} {j : Nat} (h : s[j]? ≠ some c) : Lib.occAt s (c :: t) j = false := by
  cases ho : Lib.occAt s (c :: t) j with
  | false => rfl
  | true => exact absurd (Lib.occAt_head rfl ho) h
theorem occ_app (pre sub r : List UInt8) : Lib.occAt (pre ++ (sub ++ r)) sub pre.length = true := by
  unfold Lib.occAt
  rw [List.drop_left, List.isPrefixOf_iff_prefix]
  exact List.prefix_append _ _
theorem get_pre {l r : List UInt8} {c : UInt8} {j : Nat} (h : c ∉ l) (hj : j < l.length) : (l ++ r)[j]? ≠ some c := fun e => by
  rw [List.getElem?_append_left hj] at e
  exact h (List.mem_of_getElem? e)
theorem idx_at (l r t : List UInt8) (c : UInt8) (h : c ∉ l) : Lib.index (l ++ (c :: t ++ r)) (c :: t) = l.length :=
  Lib.index_first (by simp) (occ_app l (c :: t) r) fun j hj => nocc (get_pre h hj)
theorem idx_no (l t : List UInt8) (c : UInt8) (h : c ∉ l) : Lib.index l (c :: t) = -1 :=
  Lib.index_none fun j _ => nocc fun e => h (List.mem_of_getElem? e)
theorem splitK_hit {s sep : List UInt8} {i : Nat} (k : Nat) (h : Lib.index s sep = i) : Lib.splitK sep 0 (k + 1) s = s.take i :: Lib.splitK sep 0 k (s.drop (i + sep.length)) := by
  have hm : ¬ (Lib.index s sep == -1) = true := fun e => by have := beq_iff_eq.1 e; omega
  rw [Lib.splitK, if_neg hm, show (Lib.index s sep).toNat = i by omega, Nat.add_zero]
theorem splitK_no {s sep : List UInt8} (k : Nat) (h : Lib.index s sep = -1) : Lib.splitK sep 0 k s = [s] := by
  cases k with
  | zero => rfl
  | succ k => rw [Lib.splitK, if_pos (beq_iff_eq.2 h)]
theorem split_hit {s sep : List UInt8} {i : Nat} (hs : sep ≠ []) (h : Lib.index s sep = i) : Lib.split s sep = s.take i :: Lib.split (s.drop (i + sep.length)) sep := by
  unfold Lib.split
  rw [Lib.count_hit hs h, Nat.add_comm 1, splitK_hit _ h]
theorem split_no {s sep : List UInt8} (h : Lib.index s sep = -1) : Lib.split s sep = [s] := by
  unfold Lib.split
  rw [Lib.count_miss h]; rfl
theorem split_line (l r : List UInt8) (h : 13 ∉ l) : Lib.split (l ++ ([13, 10] ++ r)) [13, 10] = l :: Lib.split r [13, 10] := by
  have e := split_hit (sep := [13, 10]) (by simp) (idx_at l r [10] 13 h)
  rw [e, List.take_left]
  congr 2
  rw [← List.drop_drop, List.drop_left]; rfl
theorem end_at (ls : List (List UInt8)) (more : List UInt8) (hne : ls ≠ []) (h : ∀ l ∈ ls, 13 ∉ l ∧ l ≠ []) : Lib.index (catL ls ++ ([13, 10] ++ more)) endB = ((catL ls).length : Int) - 2 ∧ 2 ≤ (catL ls).length := by
  induction ls with
  | nil => exact absurd rfl hne
  | cons l ls ih =>
    obtain ⟨h1, h2⟩ := h l List.mem_cons_self
    cases ls with
    | nil =>
      have e := idx_at l more [10, 13, 10] 13 h1
      have e2 : catL [l] ++ ([13, 10] ++ more) = l ++ (13 :: [10, 13, 10] ++ more) := by simp [catL]
      rw [e2]
      refine ⟨e.trans ?_, ?_⟩ <;> simp [catL]
    | cons l2 ls =>
      obtain ⟨i1, i2⟩ := ih (by simp) fun x hx => h x (List.mem_cons_of_mem _ hx)
      obtain ⟨g1, g2⟩ := h l2 (by simp)
      have e2 : catL (l :: l2 :: ls) = l ++ ([13, 10] ++ catL (l2 :: ls)) := by simp [catL]
      have e3 : ∃ x r, catL (l2 :: ls) ++ ([13, 10] ++ more) = x :: r ∧ x ≠ 13 := by
        cases l2 with
        | nil => exact absurd rfl g2
        | cons x l2 => exact ⟨x, l2 ++ ([13, 10] ++ (catL ls ++ ([13, 10] ++ more))), by simp [catL], fun e => g1 (by simp [e])⟩
      obtain ⟨x, r, e3, hx⟩ := e3
      have e4 : catL (l :: l2 :: ls) ++ ([13, 10] ++ more) = l ++ ([13, 10] ++ (x :: r)) := by rw [e2, ← e3]; simp
      rw [e4]
      have hno : Lib.NoOcc (l ++ ([13, 10] ++ (x :: r))) endB (l.length + 2) := fun j hj => by
        by_cases hj1 : j < l.length
        · exact nocc (get_pre h1 hj1)
        · rcases Nat.lt_or_ge l.length j with hj2 | hj2
          · obtain rfl : j = l.length + 1 := by omega
            refine nocc ?_
            rw [List.getElem?_append_right (by omega), Nat.add_sub_cancel_left]
            simp
          · obtain rfl : j = l.length := by omega
            unfold Lib.occAt
            rw [List.drop_left]
            simp [endB, List.isPrefixOf, Ne.symm hx]
      have hd := Lib.index_drop hno (by simp)
      rw [hd, ← List.drop_drop, List.drop_left, show List.drop 2 ([13, 10] ++ (x :: r)) = x :: r from rfl, ← e3, i1, e2]
      have hb : (((catL (l2 :: ls)).length : Int) - 2 == -1) = false := by rw [beq_eq_false_iff_ne]; omega
      simp only [hb, Bool.false_eq_true, if_false, List.length_append, List.length_cons, List.length_nil]
      omega
theorem split_cat (ls : List (List UInt8)) (hne : ls ≠ []) (h : ∀ l ∈ ls, 13 ∉ l) : Lib.split ((catL ls).take ((catL ls).length - 2)) [13, 10] = ls := by
  induction ls with
  | nil => exact absurd rfl hne
  | cons l ls ih =>
    have h1 := h l List.mem_cons_self
    cases ls with
    | nil =>
      have e : (catL [l]).take ((catL [l]).length - 2) = l := by simp [catL]
      rw [e]
      exact split_no (idx_no l [10] 13 h1)
    | cons l2 ls =>
      have i1 := ih (by simp) fun x hx => h x (List.mem_cons_of_mem _ hx)
      have e2 : catL (l :: l2 :: ls) = l ++ ([13, 10] ++ catL (l2 :: ls)) := by simp [catL]
      have hl : 2 ≤ (catL (l2 :: ls)).length := by simp [catL]; omega
      have e : (catL (l :: l2 :: ls)).take ((catL (l :: l2 :: ls)).length - 2) = l ++ ([13, 10] ++ (catL (l2 :: ls)).take ((catL (l2 :: ls)).length - 2)) := by
        rw [e2]
        have : (l ++ ([13, 10] ++ catL (l2 :: ls))).length - 2 = l.length + (2 + ((catL (l2 :: ls)).length - 2)) := by
          simp only [List.length_append, List.length_cons, List.length_nil]; omega
        rw [this, List.take_length_add_append, show 2 + ((catL (l2 :: ls)).length - 2) = ([13, 10] : List UInt8).length + ((catL (l2 :: ls)).length - 2) from rfl, List.take_length_add_append]
      rw [e, split_line _ _ h1, i1]
theorem u8_all (p : UInt8 → Bool) (h : ((List.range 256).all fun n => p (UInt8.ofNat n)) = true) (c : UInt8) : p c = true := by
  have := List.all_eq_true.1 h c.toNat (List.mem_range.2 c.toNat_lt)
  rwa [show UInt8.ofNat c.toNat = c by simp] at this
theorem tokC_byte (c : UInt8) (h : tokC c = true) : c ≠ 13 ∧ c ≠ 58 := by
  have := u8_all (fun c => !tokC c || (c != 13 && c != 58)) (by decide +kernel) c
  simpa [h] using this
theorem word_byte (c : UInt8) (h : inC 33 126 c = true) : c ≠ 13 ∧ c ≠ 32 := by
  have := u8_all (fun c => !inC 33 126 c || (c != 13 && c != 32)) (by decide +kernel) c
  simpa [h] using this
theorem value_byte (c : UInt8) (h : inC 32 126 c = true) : c ≠ 13 ∧ c ≠ 9 := by
  have := u8_all (fun c => !inC 32 126 c || (c != 13 && c != 9)) (by decide +kernel) c
  simpa [h] using this
theorem word_no {l : List UInt8} (h : wordB l = true) : 13 ∉ l ∧ 32 ∉ l ∧ l ≠ [] := by
  unfold wordB within at h
  simp only [Bool.and_eq_true, Bool.not_eq_true', List.isEmpty_eq_false_iff] at h
  have hw := fun c hc => word_byte c (List.all_eq_true.1 h.2 c hc)
  exact ⟨fun hm => (hw _ hm).1 rfl, fun hm => (hw _ hm).2 rfl, h.1⟩
theorem tok_no {l : List UInt8} (h : tokB l = true) : 13 ∉ l ∧ 58 ∉ l ∧ l ≠ [] := by
  unfold tokB at h
  simp only [Bool.and_eq_true, Bool.not_eq_true', List.isEmpty_eq_false_iff] at h
  have hw := fun c hc => tokC_byte c (List.all_eq_true.1 h.2 c hc)
  exact ⟨fun hm => (hw _ hm).1 rfl, fun hm => (hw _ hm).2 rfl, h.1⟩
theorem value_no {l : List UInt8} (h : valueB l = true) : 13 ∉ l ∧ 9 ∉ l := by
  unfold valueB within at h
  simp only [Bool.and_eq_true] at h
  have hw := fun c hc => value_byte c (List.all_eq_true.1 h.1 c hc)
  exact ⟨fun hm => (hw _ hm).1 rfl, fun hm => (hw _ hm).2 rfl⟩
theorem trim_value {l : List UInt8} (h : valueB l = true) : trimW (32 :: l) = l := by
  have h9 := (value_no h).2
  unfold valueB endsOk at h
  simp only [Bool.and_eq_true, Bool.or_eq_true, bne_iff_ne, ne_eq] at h
  cases l with
  | nil => rfl
  | cons x l =>
    obtain ⟨_, h1 | ⟨h1, h2⟩⟩ := h
    · cases h1
    unfold trimW Lib.trimS Lib.trimLeftS Lib.trimRightS
    rw [List.getLast?_eq_some_getLast (show x :: l ≠ [] by simp)] at h2
    have hb : ∀ y ∈ x :: l, ¬ some y = some 32 → ([32, 9] : List UInt8).contains y = false := fun y hy hn => by
      have : y ≠ 9 := fun e => h9 (e ▸ hy)
      have h3 : y ≠ 32 := fun e => hn (by rw [e])
      simp [this, h3]
    have h3 : (32 :: x :: l).reverse.dropWhile (([32, 9] : List UInt8).contains ·) = (32 :: x :: l).reverse := by
      rw [dw_id]
      intro y hy
      rw [List.head?_reverse, List.getLast?_eq_some_getLast (show 32 :: x :: l ≠ [] by simp), List.getLast_cons (show x :: l ≠ [] by simp)] at hy
      cases hy
      exact hb _ (List.getLast_mem _) h2
    rw [h3, List.reverse_reverse, List.dropWhile_cons_of_pos (by rfl), dw_id]
    intro y hy
    cases hy
    exact hb _ List.mem_cons_self h1
@[reducible] def lineF (f : List UInt8 × List UInt8) : List UInt8 := f.1 ++ (58 :: [] ++ (32 :: f.2))
@[reducible] def lineT (p : Pd) : List UInt8 := p.a ++ (32 :: [] ++ (p.b ++ (32 :: [] ++ p.c)))
theorem textP_cat (p : Pd) : textP p = catL (lineT p :: p.fs.map lineF) ++ ([13, 10] ++ []) := by
  unfold textP topB catL
  rw [List.flatMap_cons, List.flatMap_map, List.append_nil]
  congr 2
  congr 1; funext f; simp [lineB]
theorem fld_line {f : List UInt8 × List UInt8} (h1 : tokB f.1 = true) (h2 : valueB f.2 = true) : fldB (lineF f) = (f, true) := by
  obtain ⟨n, v⟩ := f
  simp only at h1 h2
  have hi := idx_at n (32 :: v) [] 58 (tok_no h1).2.1
  have hc : Lib.cut (lineF (n, v)) [58] = (n, 32 :: v, true) := by
    unfold Lib.cut
    rw [hi, if_pos (Int.natCast_nonneg _), Int.toNat_natCast, List.take_left, ← List.drop_drop, List.drop_left]; rfl
  unfold fldB
  rw [hc]
  simp only [trim_value h2, h1, h2, Bool.and_self]
theorem first_line {p : Pd} (h1 : wordB p.a = true) (h2 : wordB p.b = true) (h3 : valueB p.c = true) : firstB (lineT p) = some (p.a, p.b, p.c) := by
  have e : Lib.splitN (lineT p) [32] 3 = [p.a, p.b, p.c] := by
    unfold Lib.splitN
    have : min 3 ((lineT p).length + 1) - 1 = 1 + 1 := by
      simp only [List.length_append, List.length_cons, List.length_nil]; omega
    rw [this, splitK_hit _ (idx_at p.a _ [] 32 (word_no h1).2.1), List.take_left, ← List.drop_drop, List.drop_left]
    have e2 : List.drop ([32] : List UInt8).length (32 :: [] ++ (p.b ++ (32 :: [] ++ p.c))) = p.b ++ (32 :: [] ++ p.c) := rfl
    rw [e2, splitK_hit _ (idx_at p.b _ [] 32 (word_no h2).2.1), List.take_left, ← List.drop_drop, List.drop_left]
    rfl
  unfold firstB
  rw [e]
  simp only [h1, h2, h3, Bool.and_self, if_true]
theorem text_len (p : Pd) : (textP p).length = sizeP p := by
  have hf : ∀ l : List (List UInt8 × List UInt8), (l.flatMap lineB).length = (l.map fun f => f.1.length + f.2.length + 4).sum := fun l => by
    induction l with
    | nil => rfl
    | cons f l ih =>
      rw [List.flatMap_cons, List.length_append, ih, List.map_cons, List.sum_cons]
      unfold lineB
      simp only [List.length_append, List.length_cons, List.length_nil]
      omega
  unfold textP topB sizeP
  rw [List.length_append, List.length_append, hf]
  simp only [List.length_append, List.length_cons, List.length_nil]
  omega
theorem check_zero {p : Pd} (h : checkP p = 0) : formP p = true ∧ p.fs.length ≤ 32 ∧ sizeP p ≤ 2048 := by
  unfold checkP at h
  split at h
  · omega
  · split at h
    · omega
    · rename_i h1 h2
      exact ⟨by simpa using h1, by omega, by omega⟩
theorem form_parts {p : Pd} (h : formP p = true) : wordB p.a = true ∧ wordB p.b = true ∧ valueB p.c = true ∧ ∀ f ∈ p.fs, tokB f.1 = true ∧ valueB f.2 = true := by
  unfold formP at h
  simp only [Bool.and_eq_true, Bool.not_eq_true', List.any_eq_false] at h
  obtain ⟨⟨⟨h1, h2⟩, h3⟩, h4⟩ := h
  refine ⟨h1, h2, h3, fun f hf => ?_⟩
  have := h4 f hf
  unfold oddB at this
  simpa using this
theorem lines_cat {p : Pd} (h : formP p = true) : ∀ l ∈ lineT p :: p.fs.map lineF, 13 ∉ l ∧ l ≠ [] := by
  obtain ⟨h1, h2, h3, h4⟩ := form_parts h
  intro l hl
  rcases List.mem_cons.1 hl with rfl | hl
  · refine ⟨?_, by simp⟩
    have a1 := (word_no h1).1
    have a2 := (word_no h2).1
    have a3 := (value_no h3).1
    simp [a1, a2, a3]
  · obtain ⟨f, hf, rfl⟩ := List.mem_map.1 hl
    refine ⟨?_, by simp⟩
    have a1 := (tok_no (h4 f hf).1).1
    have a2 := (value_no (h4 f hf).2).1
    simp [a1, a2]
/-- A head's text, whatever stands behind, is read as itself. -/
theorem read_text (p : Pd) (more : List UInt8) (h : checkP p = 0) : readB (textP p ++ more) = ⟨p, (textP p).length, 0⟩ := by
  obtain ⟨hf, hl, hz⟩ := check_zero h
  obtain ⟨h1, h2, h3, h4⟩ := form_parts hf
  have hlen : (textP p).length ≤ 2048 := by rw [text_len]; exact hz
  have hcat := lines_cat hf
  have ht : (textP p ++ more).take 2048 = catL (lineT p :: p.fs.map lineF) ++ ([13, 10] ++ more.take (2048 - (textP p).length)) := by
    rw [List.take_append, List.take_of_length_le hlen, textP_cat]; simp
  obtain ⟨hi, hi2⟩ := end_at (lineT p :: p.fs.map lineF) (more.take (2048 - (textP p).length)) (by simp) hcat
  have hL : (textP p).length = (catL (lineT p :: p.fs.map lineF)).length + 2 := by rw [textP_cat]; simp
  unfold readB
  rw [ht, hi, if_neg (by omega), show (((catL (lineT p :: p.fs.map lineF)).length : Int) - 2).toNat = (catL (lineT p :: p.fs.map lineF)).length - 2 by omega]
  have ht2 : (textP p ++ more).take ((catL (lineT p :: p.fs.map lineF)).length - 2) = (catL (lineT p :: p.fs.map lineF)).take ((catL (lineT p :: p.fs.map lineF)).length - 2) := by
    rw [textP_cat, List.append_assoc, List.take_append_of_le_length (by omega)]
  rw [ht2, split_cat _ (by simp) fun l hl => (hcat l hl).1, lines_yes _ _ (first_line h1 h2 h3)]
  have hfl : fieldsB (p.fs.map lineF) = some p.fs := by
    unfold fieldsB
    have hall : (p.fs.map lineF).all okF = true := by
      rw [List.all_map, List.all_eq_true]
      intro f hf
      show (fldB (lineF f)).2 = true
      rw [fld_line (h4 f hf).1 (h4 f hf).2]
    rw [if_pos hall, List.map_map]
    congr 1
    conv => rhs; rw [← List.map_id p.fs]
    refine List.map_congr_left fun f hf => ?_
    show (fldB (lineF f)).1 = f
    rw [fld_line (h4 f hf).1 (h4 f hf).2]
  rw [hfl]
  simp only [if_neg (show ¬ 32 < p.fs.length by omega)]
  rw [hL]
  simp only [Rd.mk.injEq, and_true, true_and]
  push_cast
  omega
theorem first_some {l a b c : List UInt8} (h : firstB l = some (a, b, c)) : wordB a = true ∧ wordB b = true ∧ valueB c = true := by
  unfold firstB at h
  split at h
  · split at h
    · rename_i hq
      cases h
      simp only [Bool.and_eq_true] at hq
      exact ⟨hq.1.1, hq.1.2, hq.2⟩
    · cases h
  · cases h
theorem lines_cases (ls : List (List UInt8)) (n : Int) : ((linesB ls n).e ≠ 0 ∧ (linesB ls n).e ≠ 50 ∧ (linesB ls n).p = nilP ∧ (linesB ls n).n = 0) ∨ ((linesB ls n).e = 0 ∧ formP (linesB ls n).p = true ∧ (linesB ls n).p.fs.length ≤ 32 ∧ (linesB ls n).n = n + 4) := by
  cases ls with
  | nil => exact .inl ⟨(by decide : (52 : Int) ≠ 0), (by decide : (52 : Int) ≠ 50), rfl, rfl⟩
  | cons l ls =>
    cases hf : firstB l with
    | none => rw [lines_no _ _ hf]; exact .inl ⟨by decide, by decide, rfl, rfl⟩
    | some q =>
      obtain ⟨a, b, c⟩ := q
      rw [lines_yes _ _ hf]
      obtain ⟨h1, h2, h3⟩ := first_some hf
      unfold fieldsB
      split
      · exact .inl ⟨by decide, by decide, rfl, rfl⟩
      · rename_i fs hfs
        split at hfs
        · cases hfs
          rename_i hall
          split
          · exact .inl ⟨by decide, by decide, rfl, rfl⟩
          · refine .inr ⟨rfl, ?_, by simp only; omega, rfl⟩
            unfold formP
            simp only [h1, h2, h3, Bool.true_and, Bool.not_eq_true', List.any_eq_false]
            intro f hf
            obtain ⟨x, hx, rfl⟩ := List.mem_map.1 hf
            have := List.all_eq_true.1 hall x hx
            unfold okF fldB at this
            simp only [Bool.and_eq_true] at this
            unfold oddB fldB
            simp [this.1.2, this.2]
        · cases hfs
theorem read_cases (s : List UInt8) : ((readB s).e ≠ 0 ∧ (readB s).p = nilP ∧ (readB s).n = 0) ∨ ((readB s).e = 0 ∧ formP (readB s).p = true ∧ (readB s).p.fs.length ≤ 32) := by
  unfold readB
  split
  · exact .inl ⟨by simp only; split <;> decide, rfl, rfl⟩
  · rcases lines_cases (Lib.split (s.take (Lib.index (s.take 2048) endB).toNat) [13, 10]) (Lib.index (s.take 2048) endB) with h | h
    · exact .inl ⟨h.1, h.2.2⟩
    · exact .inr ⟨h.1, h.2.1, h.2.2.1⟩
/-- A head that is read may be, but for its size. -/
theorem read_check {s : List UInt8} (h : (readB s).e = 0) : checkP (readB s).p = 0 ∨ checkP (readB s).p = 51 := by
  rcases read_cases s with h1 | h1
  · exact absurd h h1.1
  · unfold checkP
    rw [if_neg (by rw [h1.2.1]; simp)]
    split
    · exact .inr rfl
    · exact .inl rfl
/-- A sublist's first place is the same with more behind. -/
theorem index_more {s sub : List UInt8} {i : Nat} (r : List UInt8) (h : Lib.index s sub = i) (hs : sub ≠ []) : Lib.index (s ++ r) sub = i := by
  rcases Lib.index_spec s sub with ⟨h1, _⟩ | ⟨j, h1, h2, h3, h4⟩
  · omega
  · obtain rfl : j = i := by omega
    have hroom : j + sub.length ≤ s.length := by
      rcases Lib.occAt_room h3 with h' | h'
      · exact h'
      · exact absurd h' hs
    have ho : ∀ k, k ≤ j → Lib.occAt (s ++ r) sub k = Lib.occAt s sub k := fun k hk => by
      rw [Lib.occAt_iff_take _ _ _ (by rw [List.length_append]; omega), Lib.occAt_iff_take _ _ _ (by omega), List.drop_append_of_le_length (by omega), List.take_append_of_le_length (by rw [List.length_drop]; omega)]
    exact Lib.index_first (by rw [List.length_append]; omega) ((ho j (Nat.le_refl _)).trans h3) fun k hk => (ho k (by omega)).trans (h4 k hk)
theorem index_less {s sub : List UInt8} {i k : Nat} (h : Lib.index s sub = i) (hk : i + sub.length ≤ k) (hs : sub ≠ []) : Lib.index (s.take k) sub = i := by
  rcases Lib.index_spec s sub with ⟨h1, _⟩ | ⟨j, h1, h2, h3, h4⟩
  · omega
  · obtain rfl : j = i := by omega
    have hroom : j + sub.length ≤ s.length := by
      rcases Lib.occAt_room h3 with h' | h'
      · exact h'
      · exact absurd h' hs
    have hl : j + sub.length ≤ (s.take k).length := by rw [List.length_take]; omega
    have ho : ∀ m, m ≤ j → Lib.occAt (s.take k) sub m = Lib.occAt s sub m := fun m hm => by
      rw [Lib.occAt_iff_take _ _ _ (by omega), Lib.occAt_iff_take _ _ _ (by omega), List.drop_take, List.take_take, Nat.min_eq_left (by omega)]
    exact Lib.index_first (by omega) ((ho j (Nat.le_refl _)).trans h3) fun m hm => (ho m (by omega)).trans (h4 m hm)
theorem read_less (s : List UInt8) (h : Lib.index (s.take 2048) endB < 0) : readB s = ⟨nilP, 0, if 2048 ≤ s.length then 51 else 50⟩ := by
  unfold readB; rw [if_pos h]
theorem read_hit (s : List UInt8) (i : Nat) (h : Lib.index (s.take 2048) endB = i) : readB s = linesB (Lib.split (s.take i) [13, 10]) i := by
  unfold readB; rw [h, if_neg (by omega), Int.toNat_natCast]
/-- What isn't there to its end yet is nothing yet; what is, is the same with more behind. -/
theorem read_cut (s : List UInt8) (k : Nat) (hk : k < s.length) :
    ((readB (s.take k)).e = 50 → (readB (s.take k)).n = 0 ∧ ((readB s).e ≠ 0 ∨ (k : Int) < (readB s).n)) ∧
    ((readB (s.take k)).e ≠ 50 → (readB s).n = (readB (s.take k)).n ∧ (readB s).e = (readB (s.take k)).e) := by
  have hlk : (s.take k).length = k := by rw [List.length_take]; omega
  by_cases hn : Lib.index ((s.take k).take 2048) endB < 0
  · rw [read_less _ hn, hlk]
    by_cases h2 : 2048 ≤ k
    · rw [if_pos h2]
      refine ⟨fun h => absurd h (by decide), fun _ => ?_⟩
      rw [List.take_take, Nat.min_eq_left h2] at hn
      rw [read_less s hn, if_pos (by omega)]
      exact ⟨rfl, rfl⟩
    · rw [if_neg h2]
      refine ⟨fun _ => ⟨rfl, ?_⟩, fun h => absurd rfl h⟩
      by_cases hs : Lib.index (s.take 2048) endB < 0
      · refine .inl ?_
        rw [read_less s hs]
        simp only; split <;> decide
      · obtain ⟨i, hi⟩ := Int.eq_ofNat_of_zero_le (Int.not_lt.1 hs)
        rw [read_hit s i hi]
        rcases lines_cases (Lib.split (s.take i) [13, 10]) i with h | h
        · exact .inl h.1
        · refine .inr ?_
          rw [h.2.2.2]
          refine Int.lt_of_not_ge fun hge => ?_
          have := index_less (k := k) hi (by show i + 4 ≤ k; omega) (by decide)
          rw [List.take_take, Nat.min_comm, ← List.take_take] at this
          omega
  · obtain ⟨i, hi⟩ := Int.eq_ofNat_of_zero_le (Int.not_lt.1 hn)
    rw [read_hit _ i hi]
    have hroom := Lib.index_room ((s.take k).take 2048) endB (by omega)
    rw [hi, List.length_take, hlk] at hroom
    have hr4 : endB.length = 4 := rfl
    have hi2 : Lib.index (s.take 2048) endB = i := by
      rw [List.take_take, Nat.min_comm, ← List.take_take] at hi
      have := index_more ((s.take 2048).drop k) hi (by decide)
      rwa [List.take_append_drop] at this
    rw [read_hit s i hi2, List.take_take, Nat.min_eq_left (by omega)]
    refine ⟨fun h => ?_, fun _ => ⟨rfl, rfl⟩⟩
    rcases lines_cases (Lib.split (s.take i) [13, 10]) i with g | g
    · exact absurd h g.2.1
    · rw [g.1] at h; exact absurd h (by decide)
end Go.Proofs.YtknfoolcbfmpaaaDoor
