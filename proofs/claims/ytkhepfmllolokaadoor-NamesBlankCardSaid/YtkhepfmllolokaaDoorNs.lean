/- Plain: tokens written with commas between are the same list; blanks and commas round them don't matter. -/
import Derived.Test.YtkhepfmllolokaaDoorNk
namespace Go.Proofs.YtkhepfmllolokaaDoor
set_option linter.unusedSimpArgs false
set_option linter.unusedVariables false
/-- Tokens, each behind a blank, with a blank and a comma behind it. -/
def written : List By → By
  | [] => []
  | t :: ts => 32 :: (t ++ 9 :: 44 :: written ts)
theorem written_app (a : List By) (t : By) : written (a ++ [t]) = written a ++ (32 :: (t ++ [9, 44])) := by
  induction a with
  | nil => simp [written]
  | cons x a ih => rw [List.cons_append, written, written, ih]; simp
theorem piece_toks {p : By} {a : List By} (h : piece p = some a) : ∀ t ∈ a, t ≠ [] ∧ t.all tokC = true := by
  unfold piece at h
  split at h
  · cases h; intro t ht; cases ht
  · split at h
    · rename_i hk
      cases h; intro t ht
      rw [List.mem_singleton] at ht
      rw [ht]; exact (tokB_iff _).1 hk
    · cases h
theorem seq_toks {ps a : List By} (h : seqB ps = some a) : ∀ t ∈ a, t ≠ [] ∧ t.all tokC = true := by
  induction ps generalizing a with
  | nil => cases h; intro t ht; cases ht
  | cons p ps ih =>
    rw [seqB] at h
    cases hp : piece p with
    | none => rw [hp] at h; cases h
    | some b =>
      cases hq : seqB ps with
      | none => rw [hp, hq] at h; cases h
      | some d =>
        rw [hp, hq] at h
        cases h
        intro t ht
        rcases List.mem_append.1 ht with ht | ht
        · exact piece_toks hp t ht
        · exact ih hq t ht
theorem list_written {ts : List By} (h : ∀ t ∈ ts, t ≠ [] ∧ t.all tokC = true) : listB [written ts] = some ts := by
  rw [listB_one]
  induction ts with
  | nil => decide
  | cons t ts ih =>
    have h1 := h t List.mem_cons_self
    have h2 := ih fun x hx => h x (List.mem_cons_of_mem _ hx)
    have hn : (44 : UInt8) ∉ 32 :: (t ++ [9]) := by
      simp [tok_no h1.2]
    rw [written, show 32 :: (t ++ 9 :: 44 :: written ts) = (32 :: (t ++ [9])) ++ 44 :: written ts by simp, splitC_app, splitC_no hn, seqB_app, seqB_one, h2]
    have hp : piece (32 :: (t ++ [9])) = some [t] := piece_tok (a := [32]) (b := [9]) h1.2 h1.1 (by decide) (by decide)
    rw [hp]; rfl
/-- A blank or a comma. -/
def padC (c : UInt8) : Bool := c == 32 || c == 9 || c == 44
theorem pad_cases {c : UInt8} (h : padC c = true) : c = 44 ∨ blk c = true := by
  simp only [padC, Bool.or_eq_true, beq_iff_eq] at h
  rcases h with (h | h) | h
  · exact .inr ((blk_iff c).2 (.inl h))
  · exact .inr ((blk_iff c).2 (.inr h))
  · exact .inl h
theorem seq_nil (ps : List By) : seqB ([] :: ps) = seqB ps := by
  rw [seqB, piece_blank rfl]
  cases seqB ps <;> simp
theorem pad_cons {c : UInt8} (h : padC c = true) (l : By) : seqB (splitC 44 (c :: l)) = seqB (splitC 44 l) := by
  by_cases hc : c = 44
  · rw [hc, splitC, if_pos rfl, seq_nil]
  · have hb := (pad_cases h).resolve_left hc
    obtain ⟨p, ps, e⟩ := splitC_form 44 l
    rw [splitC_cons hc e, e, seqB, seqB, piece_cons hb]
theorem split_snoc {c : UInt8} (hc : c ≠ 44) (l : By) : ∃ (ps : List By) (p : By), splitC 44 l = ps ++ [p] ∧ splitC 44 (l ++ [c]) = ps ++ [p ++ [c]] := by
  induction l with
  | nil => exact ⟨[], [], rfl, splitC_cons hc rfl⟩
  | cons x l ih =>
    obtain ⟨ps, p, e1, e2⟩ := ih
    by_cases hx : x = 44
    · subst hx
      exact ⟨[] :: ps, p, by rw [splitC, if_pos rfl, e1]; rfl, by rw [List.cons_append, splitC, if_pos rfl, e2]; rfl⟩
    · cases ps with
      | nil => exact ⟨[], x :: p, splitC_cons hx e1, splitC_cons hx e2⟩
      | cons q ps => exact ⟨(x :: q) :: ps, p, splitC_cons hx e1, splitC_cons hx e2⟩
theorem pad_snoc {c : UInt8} (h : padC c = true) (l : By) : seqB (splitC 44 (l ++ [c])) = seqB (splitC 44 l) := by
  by_cases hc : c = 44
  · rw [hc, splitC_app, show splitC 44 [] = [[]] from rfl, seqB_app, seqB_one, piece_blank rfl]
    cases seqB (splitC 44 l) <;> simp
  · have hb := (pad_cases h).resolve_left hc
    obtain ⟨ps, p, e1, e2⟩ := split_snoc hc l
    rw [e1, e2, seqB_app, seqB_app, seqB_one, seqB_one, piece_snoc hb]
theorem pad_pre {b : By} (h : b.all padC = true) (l : By) : seqB (splitC 44 (b ++ l)) = seqB (splitC 44 l) := by
  induction b with
  | nil => rfl
  | cons c b ih =>
    rw [List.all_cons, Bool.and_eq_true] at h
    rw [List.cons_append, pad_cons h.1, ih h.2]
theorem pad_post {b : By} (h : b.all padC = true) (l : By) : seqB (splitC 44 (l ++ b)) = seqB (splitC 44 l) := by
  induction b generalizing l with
  | nil => rw [List.append_nil]
  | cons c b ih =>
    rw [List.all_cons, Bool.and_eq_true] at h
    rw [show l ++ c :: b = (l ++ [c]) ++ b by simp, ih h.2, pad_snoc h.1]
/-- Lists one behind another, a comma behind each. -/
def joined (pre post : By) : List By → By
  | [] => []
  | v :: vs => pre ++ v ++ post ++ 44 :: joined pre post vs
theorem joined_app (pre post : By) (a : List By) (v : By) : joined pre post (a ++ [v]) = joined pre post a ++ (pre ++ v ++ post ++ [44]) := by
  induction a with
  | nil => simp [joined]
  | cons x a ih => rw [List.cons_append, joined, joined, ih]; simp
theorem joined_eq {b : By} (h : b.all padC = true) (vs : List By) : listB [joined b b vs] = listB [joined [] [] vs] := by
  rw [listB_one, listB_one]
  induction vs with
  | nil => rfl
  | cons v vs ih =>
    rw [joined, joined, splitC_app, splitC_app, seqB_app, seqB_app, ih]
    have e : seqB (splitC 44 (b ++ v ++ b)) = seqB (splitC 44 ([] ++ v ++ [])) := by
      rw [pad_post h, pad_pre h, List.nil_append, List.append_nil]
    rw [e]
end Go.Proofs.YtkhepfmllolokaaDoor
