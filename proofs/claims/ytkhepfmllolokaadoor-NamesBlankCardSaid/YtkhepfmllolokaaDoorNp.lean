/- Plain facts of layer 6: pieces between commas, stripped of blanks; the tokens of lists, by the program and byte by byte; no program in sight. -/
import Derived.Test.YtkhepfmllolokaaDoorTok
import Derived.Lib.SlTrimSet
import Derived.Lib.IndexBytes
namespace Go.Proofs.YtkhepfmllolokaaDoor
set_option linter.unusedSimpArgs false
abbrev By := List UInt8
/-- The pieces between bytes c. -/
def splitC (c : UInt8) : By → List By
  | [] => [[]]
  | x :: l => if x = c then [] :: splitC c l else (x :: (splitC c l).headD []) :: (splitC c l).tail
theorem splitC_ne (c : UInt8) (l : By) : splitC c l ≠ [] := by
  cases l with
  | nil => simp [splitC]
  | cons x l => unfold splitC; split <;> simp
theorem splitC_form (c : UInt8) (l : By) : ∃ h t, splitC c l = h :: t := by
  cases e : splitC c l with
  | nil => exact absurd e (splitC_ne c l)
  | cons h t => exact ⟨h, t, rfl⟩
theorem splitC_cons {c x : UInt8} (hx : x ≠ c) {l : By} {h : By} {t : List By} (e : splitC c l = h :: t) : splitC c (x :: l) = (x :: h) :: t := by
  rw [splitC, if_neg hx, e]; rfl
theorem splitC_no {c : UInt8} {l : By} (h : c ∉ l) : splitC c l = [l] := by
  induction l with
  | nil => rfl
  | cons x l ih =>
    have hx : x ≠ c := fun e => h (by rw [e]; exact List.mem_cons_self)
    exact splitC_cons hx (ih fun hm => h (List.mem_cons_of_mem _ hm))
theorem splitC_app (c : UInt8) (a b : By) : splitC c (a ++ c :: b) = splitC c a ++ splitC c b := by
  induction a with
  | nil => simp [splitC]
  | cons x a ih =>
    by_cases hx : x = c
    · subst hx
      rw [List.cons_append, splitC, if_pos rfl, ih, splitC, if_pos rfl]; rfl
    · obtain ⟨h, t, e⟩ := splitC_form c a
      rw [e] at ih
      rw [List.cons_append, splitC_cons hx ih, splitC_cons hx e]; rfl
theorem splitC_pre {c : UInt8} {a : By} (ha : c ∉ a) {l h : By} {t : List By} (e : splitC c l = h :: t) : splitC c (a ++ l) = (a ++ h) :: t := by
  induction a with
  | nil => exact e
  | cons x a ih => exact splitC_cons (fun e' => ha (by rw [e']; exact List.mem_cons_self)) (ih fun hm => ha (List.mem_cons_of_mem _ hm))
abbrev cuts : By := [32, 9]
def blk (c : UInt8) : Bool := cuts.contains c
def trimL (l : By) : By := Lib.trimS l cuts
theorem trimR_eq (l : By) : Lib.trimRightS l cuts = (l.reverse.dropWhile blk).reverse := rfl
theorem trimLft_eq (l : By) : Lib.trimLeftS l cuts = l.dropWhile blk := rfl
theorem dw_all {p : UInt8 → Bool} {l : By} (h : l.all p = true) : l.dropWhile p = [] := by
  induction l with
  | nil => rfl
  | cons x l ih =>
    rw [List.all_cons, Bool.and_eq_true] at h
    rw [List.dropWhile_cons, if_pos h.1, ih h.2]
theorem dw_pre {p : UInt8 → Bool} {a l : By} (h : a.all p = true) : (a ++ l).dropWhile p = l.dropWhile p := by
  induction a with
  | nil => rfl
  | cons x a ih =>
    rw [List.all_cons, Bool.and_eq_true] at h
    rw [List.cons_append, List.dropWhile_cons, if_pos h.1, ih h.2]
theorem all_rev {p : UInt8 → Bool} (l : By) : l.reverse.all p = l.all p := List.all_reverse
theorem trim_all {l : By} (h : l.all blk = true) : trimL l = [] := by
  unfold trimL Lib.trimS
  have e : l.reverse.dropWhile blk = [] := dw_all (by rw [all_rev]; exact h)
  rw [trimR_eq, trimLft_eq, e]; rfl
theorem trim_mid {a b : By} (ha : a.all blk = true) (hb : b.all blk = true) {x y : UInt8} {t : By} (hx : blk x = false) (hy : blk y = false) : trimL (a ++ (x :: (t ++ [y])) ++ b) = x :: (t ++ [y]) := by
  unfold trimL Lib.trimS
  rw [trimR_eq, trimLft_eq]
  have e : (a ++ (x :: (t ++ [y])) ++ b).reverse.dropWhile blk = (a ++ (x :: (t ++ [y]))).reverse := by
    rw [List.reverse_append, dw_pre (by rw [all_rev]; exact hb)]
    rw [show (a ++ (x :: (t ++ [y]))).reverse = y :: (a ++ (x :: t)).reverse by simp, List.dropWhile_cons, if_neg (by rw [hy]; simp)]
  rw [e, List.reverse_reverse, dw_pre ha, List.dropWhile_cons, if_neg (by rw [hx]; simp)]
theorem trim_mid1 {a b : By} (ha : a.all blk = true) (hb : b.all blk = true) {x : UInt8} (hx : blk x = false) : trimL (a ++ [x] ++ b) = [x] := by
  unfold trimL Lib.trimS
  rw [trimR_eq, trimLft_eq]
  have e : (a ++ [x] ++ b).reverse.dropWhile blk = (a ++ [x]).reverse := by
    rw [List.reverse_append, dw_pre (by rw [all_rev]; exact hb)]
    rw [show (a ++ [x]).reverse = x :: a.reverse by simp, List.dropWhile_cons, if_neg (by rw [hx]; simp)]
  rw [e, List.reverse_reverse, dw_pre ha, List.dropWhile_cons, if_neg (by rw [hx]; simp)]
/-- Bytes that begin and end with no blank, and are some. -/
def Core (t : By) : Prop := t ≠ [] ∧ (∀ x, t.head? = some x → blk x = false) ∧ (∀ x, t.getLast? = some x → blk x = false)
theorem trim_core {a b t : By} (ha : a.all blk = true) (hb : b.all blk = true) (ht : Core t) : trimL (a ++ t ++ b) = t := by
  obtain ⟨h0, h1, h2⟩ := ht
  cases t with
  | nil => exact absurd rfl h0
  | cons x t =>
    have hx := h1 x rfl
    rcases List.eq_nil_or_concat t with rfl | ⟨t', y, rfl⟩
    · exact trim_mid1 ha hb hx
    · rw [List.concat_eq_append]
      rw [List.concat_eq_append] at h2
      exact trim_mid ha hb hx (h2 y (by rw [← List.cons_append, List.getLast?_concat]))
theorem dw_cases {p : UInt8 → Bool} (l : By) : ∃ a r, l = a ++ r ∧ a.all p = true ∧ l.dropWhile p = r ∧ (∀ x, r.head? = some x → p x = false) := by
  induction l with
  | nil => exact ⟨[], [], rfl, rfl, rfl, fun x h => by cases h⟩
  | cons c l ih =>
    by_cases hc : p c = true
    · obtain ⟨a, r, e, ha, hr, hx⟩ := ih
      exact ⟨c :: a, r, by rw [e]; rfl, by rw [List.all_cons, hc, ha]; rfl, by rw [List.dropWhile_cons, if_pos hc, hr], hx⟩
    · exact ⟨[], c :: l, rfl, rfl, by rw [List.dropWhile_cons, if_neg hc], fun x h => by cases h; simpa using hc⟩
/-- All blank, or something between blanks. -/
theorem by_cases' (l : By) : l.all blk = true ∨ ∃ a t b, l = a ++ t ++ b ∧ a.all blk = true ∧ b.all blk = true ∧ Core t := by
  obtain ⟨a, r, e, ha, -, hx⟩ := dw_cases (p := blk) l
  cases r with
  | nil => exact .inl (by rw [e, List.append_nil]; exact ha)
  | cons y r =>
    have hy := hx y rfl
    obtain ⟨b, t, e2, hb, -, hz⟩ := dw_cases (p := blk) (y :: r).reverse
    have e3 : y :: r = t.reverse ++ b.reverse := by
      have := congrArg List.reverse e2
      rwa [List.reverse_reverse, List.reverse_append] at this
    refine .inr ⟨a, t.reverse, b.reverse, by rw [e, e3, List.append_assoc], ha, by rw [all_rev]; exact hb, ?_, fun x h => ?_, fun x h => hz x (by rw [List.getLast?_reverse] at h; exact h)⟩
    · intro e4
      rw [e4, List.nil_append] at e3
      have : (y :: r).all blk = true := by rw [e3, all_rev]; exact hb
      rw [List.all_cons, hy] at this
      cases this
    · cases ht : t.reverse with
      | nil => rw [ht] at h; cases h
      | cons z s =>
        rw [ht] at h e3
        cases h
        rw [List.cons_append] at e3
        cases e3
        exact hy
theorem trim_cons {x : UInt8} (hx : blk x = true) (l : By) : trimL (x :: l) = trimL l := by
  rcases by_cases' l with h | ⟨a, t, b, rfl, ha, hb, ht⟩
  · rw [trim_all h, trim_all (by rw [List.all_cons, hx, h]; rfl)]
  · rw [trim_core ha hb ht, ← List.cons_append, ← List.cons_append, trim_core (by rw [List.all_cons, hx, ha]; rfl) hb ht]
theorem trim_snoc {x : UInt8} (hx : blk x = true) (l : By) : trimL (l ++ [x]) = trimL l := by
  rcases by_cases' l with h | ⟨a, t, b, rfl, ha, hb, ht⟩
  · rw [trim_all h, trim_all (by rw [List.all_append, h]; simp [hx])]
  · rw [trim_core ha hb ht, List.append_assoc (a ++ t), trim_core ha (by rw [List.all_append, hb]; simp [hx]) ht]
theorem trim_mem {x : UInt8} (hx : blk x = false) {l : By} (h : x ∈ l) : x ∈ trimL l := by
  rcases by_cases' l with h' | ⟨a, t, b, rfl, ha, hb, ht⟩
  · rw [List.all_eq_true] at h'
    rw [h' x h] at hx; cases hx
  · rw [trim_core ha hb ht]
    rw [List.mem_append, List.mem_append] at h
    rw [List.all_eq_true] at ha hb
    rcases h with (h | h) | h
    · rw [ha x h] at hx; cases hx
    · exact h
    · rw [hb x h] at hx; cases hx
theorem trim_len (l : By) : (trimL l).length ≤ l.length := by
  rcases by_cases' l with h' | ⟨a, t, b, rfl, ha, hb, ht⟩
  · rw [trim_all h']; exact Nat.zero_le _
  · rw [trim_core ha hb ht, List.length_append, List.length_append]; omega
/-- The token of a piece, if there is any; none: it is none. -/
def piece (p : By) : Option (List By) := if trimL p = [] then some [] else if tokB (trimL p) then some [trimL p] else none
/-- The tokens of pieces. -/
def seqB : List By → Option (List By)
  | [] => some []
  | p :: ps => (piece p).bind fun a => (seqB ps).map (a ++ ·)
theorem seqB_app (a b : List By) : seqB (a ++ b) = (seqB a).bind fun x => (seqB b).map (x ++ ·) := by
  induction a with
  | nil => simp [seqB]
  | cons p a ih =>
    rw [List.cons_append, seqB, seqB, ih]
    cases piece p with
    | none => rfl
    | some x =>
      cases seqB a with
      | none => rfl
      | some y =>
        cases seqB b with
        | none => rfl
        | some z => simp
theorem seqB_one (p : By) : seqB [p] = piece p := by
  rw [seqB, seqB]
  cases piece p <;> simp
theorem seqB_len (ps : List By) : ∀ l, seqB ps = some l → l.length ≤ ps.length := by
  induction ps with
  | nil => intro l h; cases h; exact Nat.le_refl _
  | cons p ps ih =>
    intro l h
    rw [seqB] at h
    cases hp : piece p with
    | none => rw [hp] at h; cases h
    | some a =>
      cases hs : seqB ps with
      | none => rw [hp, hs] at h; cases h
      | some b =>
        rw [hp, hs] at h
        cases h
        have h1 := ih b hs
        have h2 : a.length ≤ 1 := by
          unfold piece at hp
          split at hp
          · cases hp; simp
          · split at hp
            · cases hp; simp
            · cases hp
        rw [List.length_append, List.length_cons]; omega
/-- The tokens of lists. -/
def listB (vs : List By) : Option (List By) := seqB (vs.flatMap (splitC 44))
theorem listB_app (a b : List By) : listB (a ++ b) = (listB a).bind fun x => (listB b).map (x ++ ·) := by
  unfold listB
  rw [List.flatMap_append, seqB_app]
theorem listB_one (v : By) : listB [v] = seqB (splitC 44 v) := by simp [listB]
theorem u8_all (p : UInt8 → Bool) (h : ((List.range 256).all fun n => p (UInt8.ofNat n)) = true) (c : UInt8) : p c = true := by
  have := List.all_eq_true.1 h c.toNat (List.mem_range.2 c.toNat_lt)
  simpa using this
theorem tokC_not : ∀ c : UInt8, tokC c = true → c ≠ 44 ∧ blk c = false := fun c h => by
  have := u8_all (fun c => !tokC c || (c != 44 && !blk c)) (by decide +kernel) c
  rw [h] at this
  simpa using this
theorem tok_no {t : By} (h : t.all tokC = true) : (44 : UInt8) ∉ t := fun hm => (tokC_not _ (List.all_eq_true.1 h _ hm)).1 rfl
theorem tok_core {t : By} (h : t.all tokC = true) (h0 : t ≠ []) : Core t :=
  ⟨h0, fun x hx => (tokC_not x (List.all_eq_true.1 h x (List.mem_of_mem_head? hx))).2, fun x hx => (tokC_not x (List.all_eq_true.1 h x (List.mem_of_mem_getLast? hx))).2⟩
theorem tokB_iff (t : By) : tokB t = true ↔ t ≠ [] ∧ t.all tokC = true := by
  unfold tokB
  rw [Bool.and_eq_true]
  cases t <;> simp
theorem piece_tok {t a b : By} (ht : t.all tokC = true) (h0 : t ≠ []) (ha : a.all blk = true) (hb : b.all blk = true) : piece (a ++ t ++ b) = some [t] := by
  unfold piece
  rw [trim_core ha hb (tok_core ht h0), if_neg h0, if_pos ((tokB_iff t).2 ⟨h0, ht⟩)]
theorem piece_blank {p : By} (h : p.all blk = true) : piece p = some [] := by
  unfold piece
  rw [trim_all h, if_pos rfl]
theorem piece_cons {x : UInt8} (hx : blk x = true) (p : By) : piece (x :: p) = piece p := by unfold piece; rw [trim_cons hx]
theorem piece_snoc {x : UInt8} (hx : blk x = true) (p : By) : piece (p ++ [x]) = piece p := by unfold piece; rw [trim_snoc hx]
theorem piece_bad {x : UInt8} (hx : blk x = false) (hc : tokC x = false) {p : By} (h : x ∈ p) : piece p = none := by
  have hm := trim_mem hx h
  unfold piece
  rw [if_neg (fun e => by rw [e] at hm; cases hm), if_neg (fun e => by
    have := List.all_eq_true.1 ((tokB_iff _).1 e).2 x hm
    rw [hc] at this; cases this)]
theorem blk_tokC {x : UInt8} (h : blk x = true) : tokC x = false := by
  cases e : tokC x with
  | false => rfl
  | true => rw [(tokC_not x e).2] at h; cases h
/-- Behind a token and a blank: blanks alone. -/
theorem piece_gap {t y h : By} (ht : t.all tokC = true) (h0 : t ≠ []) (hy : y.all blk = true) (hy0 : y ≠ []) : piece (t ++ y ++ h) = if h.all blk then some [t] else none := by
  by_cases hh : h.all blk = true
  · rw [if_pos hh, List.append_assoc]
    exact piece_tok (a := []) ht h0 rfl (by rw [List.all_append, hy, hh]; rfl)
  · rw [if_neg hh]
    rcases by_cases' h with h' | ⟨a, s, b, rfl, ha, hb, hs⟩
    · exact absurd h' hh
    · have hc : Core (t ++ y ++ a ++ s) := by
        have h1 := tok_core ht h0
        refine ⟨by simp [h0], fun x hx => h1.2.1 x ?_, fun x hx => hs.2.2 x ?_⟩
        · rw [List.append_assoc, List.append_assoc, List.head?_append] at hx
          cases t with
          | nil => exact absurd rfl h0
          | cons z t => exact hx
        · rw [List.getLast?_append] at hx
          have : s.getLast? ≠ none := by rw [Ne, List.getLast?_eq_none_iff]; exact hs.1
          cases hz : s.getLast? with
          | none => exact absurd hz this
          | some z => rw [hz] at hx; exact hx
      have e : trimL (t ++ y ++ (a ++ s ++ b)) = t ++ y ++ a ++ s := by
        have := trim_core (a := []) (b := b) rfl hb hc
        rw [List.nil_append] at this
        rw [← this]; congr 1
        simp only [List.append_assoc]
      unfold piece
      rw [e, if_neg hc.1, if_neg]
      intro hk
      obtain ⟨z, y', rfl⟩ := List.exists_cons_of_ne_nil hy0
      rw [List.all_cons, Bool.and_eq_true] at hy
      have := List.all_eq_true.1 ((tokB_iff _).1 hk).2 z (by simp)
      rw [blk_tokC hy.1] at this; cases this
/-- The document's List, byte by byte. -/
def refGo : By → List By → By → Bool → Option (List By)
  | [], out, t, _ => some (if t = [] then out else out ++ [t])
  | c :: l, out, t, b => if c = 44 then refGo l (if t = [] then out else out ++ [t]) [] false
    else if c = 32 ∨ c = 9 then refGo l out t (!t.isEmpty)
    else if b = true ∨ tokC c = false then none
    else refGo l out (t ++ [c]) b
def cur (t : By) (b : Bool) : By := t ++ if b then [32] else []
theorem cur_no {t : By} (b : Bool) (ht : t.all tokC = true) : (44 : UInt8) ∉ cur t b := by
  unfold cur
  have := tok_no ht
  cases b <;> simp [this]
theorem piece_cur {t : By} (b : Bool) (ht : t.all tokC = true) : piece (cur t b) = some (if t = [] then [] else [t]) := by
  by_cases h0 : t = []
  · subst h0
    rw [if_pos rfl]
    cases b
    · exact piece_blank rfl
    · exact piece_blank (by decide)
  · rw [if_neg h0]
    cases b
    · exact piece_tok (a := []) (b := []) ht h0 rfl rfl
    · exact piece_tok (a := []) (b := [32]) ht h0 rfl (by decide)
theorem blk_iff (c : UInt8) : blk c = true ↔ c = 32 ∨ c = 9 := by
  unfold blk
  simp [cuts]
theorem refGo_eq (l : By) : ∀ (out : List By) (t : By) (b : Bool), t.all tokC = true → (b = true → t ≠ []) → refGo l out t b = (seqB (splitC 44 (cur t b ++ l))).map (out ++ ·) := by
  induction l with
  | nil =>
    intro out t b ht hb
    rw [List.append_nil, splitC_no (cur_no b ht), seqB_one, piece_cur b ht, refGo]
    by_cases h0 : t = [] <;> simp [h0]
  | cons c l ih =>
    intro out t b ht hb
    rw [refGo]
    by_cases hc : c = 44
    · subst hc
      rw [if_pos rfl, ih _ [] false rfl (fun h => by cases h), splitC_app, splitC_no (cur_no b ht), seqB_app, seqB_one, piece_cur b ht]
      show Option.map _ (seqB (splitC 44 ([] ++ l))) = _
      rw [List.nil_append]
      cases seqB (splitC 44 l) with
      | none => rfl
      | some z => by_cases h0 : t = [] <;> simp [h0]
    · rw [if_neg hc]
      obtain ⟨h, tl, e⟩ := splitC_form 44 l
      by_cases hbk : c = 32 ∨ c = 9
      · have hcb := (blk_iff c).2 hbk
        rw [if_pos hbk, ih out t _ ht (fun h0 e0 => by rw [e0] at h0; cases h0)]
        congr 1
        rw [splitC_pre (cur_no _ ht) e, splitC_pre (cur_no _ ht) (splitC_cons hc e), seqB, seqB]
        congr 1
        by_cases h0 : t = []
        · subst h0
          have : b = false := by cases b with | false => rfl | true => exact absurd rfl (hb rfl)
          subst this
          show piece h = piece (c :: h)
          rw [piece_cons hcb]
        · have e1 : (!t.isEmpty) = true := by cases t with | nil => exact absurd rfl h0 | cons _ _ => rfl
          rw [e1]
          have e2 := piece_gap (h := h) ht h0 (y := [32]) (by decide) (by simp)
          have e3 : cur t b ++ c :: h = t ++ ((if b then [32] else []) ++ [c]) ++ h := by simp [cur]
          have e4 := piece_gap (h := h) ht h0 (y := (if b then [32] else []) ++ [c]) (by cases b <;> simp [hcb] <;> decide) (by simp)
          rw [e3, e4, ← e2]; rfl
      · rw [if_neg hbk]
        have hcb : blk c = false := by rw [Bool.eq_false_iff, Ne, blk_iff]; exact hbk
        rw [splitC_pre (cur_no b ht) (splitC_cons hc e), seqB]
        by_cases hbad : b = true ∨ tokC c = false
        · rw [if_pos hbad]
          have : piece (cur t b ++ c :: h) = none := by
            rcases hbad with rfl | hk
            · have e2 := piece_gap (h := c :: h) ht (hb rfl) (y := [32]) (by decide) (by simp)
              rw [List.all_cons, hcb, Bool.false_and, if_neg (by simp)] at e2
              exact e2
            · exact piece_bad hcb hk (by simp)
          rw [this]; rfl
        · rw [if_neg hbad]
          have hb0 : b = false := by cases b with | false => rfl | true => exact absurd (.inl rfl) hbad
          have hk : tokC c = true := by cases hk : tokC c with | true => rfl | false => exact absurd (.inr hk) hbad
          subst hb0
          have ht2 : (t ++ [c]).all tokC = true := by rw [List.all_append, ht]; simp [hk]
          rw [ih out (t ++ [c]) false ht2 (fun h => by cases h), splitC_pre (cur_no _ ht2) e, seqB]
          simp [cur]
theorem refGo_all (l : By) : refGo l [] [] false = listB [l] := by
  rw [refGo_eq l [] [] false rfl (fun h => by cases h), listB_one]
  show Option.map _ (seqB (splitC 44 l)) = _
  cases seqB (splitC 44 l) <;> simp
end Go.Proofs.YtkhepfmllolokaaDoor
