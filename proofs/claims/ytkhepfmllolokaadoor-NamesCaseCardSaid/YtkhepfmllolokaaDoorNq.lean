/- Plain: turning letters' case in lists and in a token doesn't matter for whether they have it. -/
import Derived.Test.YtkhepfmllolokaaDoorNo
namespace Go.Proofs.YtkhepfmllolokaaDoor
set_option linter.unusedSimpArgs false
set_option linter.unusedVariables false
theorem up_facts (c : UInt8) : upC (upC c) = upC c ∧ (decide (upC c = 44) = decide (c = 44)) ∧ blk (upC c) = blk c ∧ tokC (upC c) = tokC c := by
  have := u8_all (fun c => decide (upC (upC c) = upC c) && (decide (upC c = 44) == decide (c = 44)) && (blk (upC c) == blk c) && (tokC (upC c) == tokC c)) (by decide +kernel) c
  simp only [Bool.and_eq_true, decide_eq_true_eq, beq_iff_eq] at this
  exact ⟨this.1.1.1, this.1.1.2, this.1.2, this.2⟩
theorem up_44 (c : UInt8) : upC c = 44 ↔ c = 44 := by
  have := (up_facts c).2.1
  rw [decide_eq_decide] at this; exact this
abbrev ups (l : By) : By := l.map upC
theorem same_up (a b : By) : sameB (ups a) b = sameB a b ∧ sameB a (ups b) = sameB a b := by
  have : ∀ l : By, (ups l).map upC = l.map upC := fun l => by
    rw [List.map_map]; exact List.map_congr_left fun c _ => (up_facts c).1
  unfold sameB
  rw [this, this]; exact ⟨rfl, rfl⟩
theorem split_up (l : By) : splitC 44 (ups l) = (splitC 44 l).map ups := by
  induction l with
  | nil => rfl
  | cons x l ih =>
    obtain ⟨h, t, e⟩ := splitC_form 44 l
    by_cases hx : x = 44
    · subst hx
      show splitC 44 (upC 44 :: ups l) = _
      rw [(up_44 44).2 rfl, splitC, if_pos rfl, splitC, if_pos rfl, ih]; rfl
    · show splitC 44 (upC x :: ups l) = _
      rw [e] at ih
      rw [splitC_cons (fun e' => hx ((up_44 x).1 e')) ih, splitC_cons hx e]; rfl
theorem dw_up (l : By) : (ups l).dropWhile blk = ups (l.dropWhile blk) := by
  induction l with
  | nil => rfl
  | cons x l ih =>
    show (upC x :: ups l).dropWhile blk = _
    rw [List.dropWhile_cons, List.dropWhile_cons, (up_facts x).2.2.1]
    by_cases h : blk x = true
    · rw [if_pos h, if_pos h, ih]
    · rw [if_neg h, if_neg h]; rfl
theorem trim_up (l : By) : trimL (ups l) = ups (trimL l) := by
  unfold trimL Lib.trimS
  rw [trimR_eq, trimLft_eq, trimR_eq, trimLft_eq]
  have er : ∀ x : By, (ups x).reverse = ups x.reverse := fun x => List.map_reverse.symm
  rw [er, dw_up, er, dw_up]
theorem tokB_up (l : By) : tokB (ups l) = tokB l := by
  unfold tokB
  rw [List.all_map]
  have : (tokC ∘ upC) = tokC := funext fun c => (up_facts c).2.2.2
  rw [this]
  cases l <;> rfl
theorem piece_up (p : By) : piece (ups p) = (piece p).map (List.map ups) := by
  unfold piece
  rw [trim_up, tokB_up]
  have h : ups (trimL p) = [] ↔ trimL p = [] := by simp [ups]
  by_cases h0 : trimL p = []
  · rw [if_pos (h.2 h0), if_pos h0]; rfl
  · rw [if_neg (fun e => h0 (h.1 e)), if_neg h0]
    split <;> rfl
theorem seq_up (ps : List By) : seqB (ps.map ups) = (seqB ps).map (List.map ups) := by
  induction ps with
  | nil => rfl
  | cons p ps ih =>
    rw [List.map_cons, seqB, seqB, piece_up, ih]
    cases piece p with
    | none => rfl
    | some a =>
      cases seqB ps with
      | none => rfl
      | some b => simp
theorem list_up (vs : List By) : listB (vs.map ups) = (listB vs).map (List.map ups) := by
  unfold listB
  rw [← seq_up]
  congr 1
  induction vs with
  | nil => rfl
  | cons v vs ih => rw [List.map_cons, List.flatMap_cons, List.flatMap_cons, List.map_append, ih, split_up]
theorem has_up (t : By) (o : Option (List By)) : hasN (ups t) o = hasN t o ∧ hasN t (o.map (List.map ups)) = hasN t o := by
  cases o with
  | none => exact ⟨rfl, rfl⟩
  | some r =>
    refine ⟨?_, ?_⟩
    · show r.any _ = r.any _
      congr 1; funext s; exact (same_up s t).2
    · show (r.map ups).any _ = r.any _
      rw [List.any_map]
      congr 1; funext s; exact (same_up s t).1
/-- A string in capitals. -/
abbrev upS (s : ByteArray) : ByteArray := mk ((bs s).map upC)
theorem bss_up (l : List ByteArray) : bss (l.map upS) = (bss l).map ups := by
  unfold bss
  rw [List.map_map, List.map_map]
  exact List.map_congr_left fun s _ => bs_mk _
theorem upS_size (s : ByteArray) : (upS s).size = s.size := by rw [mk_size, List.length_map, bs_length]
theorem has_ups (t : ByteArray) (l : List ByteArray) : hasN (bs (upS t)) (listB (bss l)) = hasN (bs t) (listB (bss l)) ∧ hasN (bs t) (listB (bss (l.map upS))) = hasN (bs t) (listB (bss l)) := by
  rw [bss_up, list_up, show bs (upS t) = ups (bs t) from bs_mk _]
  exact has_up _ _
theorem cnt_up (l : List ByteArray) : cntB (l.map upS) = cntB l := by
  unfold cntB
  rw [List.map_map]
  congr 1
  exact List.map_congr_left fun s _ => by show (upS s).size + 1 = _; rw [upS_size]
end Go.Proofs.YtkhepfmllolokaaDoor
