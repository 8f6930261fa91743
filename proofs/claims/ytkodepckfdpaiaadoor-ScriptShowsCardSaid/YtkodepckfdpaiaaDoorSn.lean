/- parse: facts ahead of its walk; no program in sight but for the types' numbers. -/
import Derived.Test.YtkodepckfdpaiaaDoorSm
import Derived.Lib.AtoiAllCases
namespace Go.Proofs.YtkodepckfdpaiaaDoor
set_option linter.unusedSimpArgs false
set_option linter.unusedVariables false
open Go.RowKit
@[reducible] def zd : Dd := ⟨⟨#[]⟩, 0, 0, 0, false, ⟨#[]⟩⟩
/-- What parse answers. -/
structure PD (s : ByteArray) (d : Dd) : Prop where
  dp : d.dp = parseB (bs s)
  inn : d.In
  zd : d.d.size ≤ 100000
structure Small (d : Dd) : Prop where
  inn : d.In
  zd : d.d.size ≤ 100000
theorem in0 : -9223372036854775808 ≤ (0 : Int) ∧ (0 : Int) ≤ 9223372036854775807 := by decide
theorem small_zd (k : ByteArray) : Small { zd with k := k } := ⟨⟨in0, in0, in0, Nat.zero_le _⟩, Nat.zero_le _⟩
theorem pd_no {s : ByteArray} (h : parseL (Lib.split (bs s) [32]) = none) : PD s zd := ⟨by unfold parseB; rw [h]; rfl, (small_zd _).1, (small_zd _).2⟩
theorem pd_yes {s : ByteArray} {d : Dd} (h : parseL (Lib.split (bs s) [32]) = some d.dp) (hs : Small d) : PD s d := ⟨by unfold parseB; rw [h]; rfl, hs.1, hs.2⟩
theorem parse_len {s k : ByteArray} {ps : List ByteArray} (h : Lib.split (bs s) [32] = bs k :: bss ps) (hl : ps.length ≠ ((whatOf (bs k)).getD []).length) : parseL (Lib.split (bs s) [32]) = none := by
  rw [h]
  unfold parseL
  exact if_neg (by rw [bss, List.length_map]; exact hl)
theorem parse_set {s k : ByteArray} {ps : List ByteArray} (h : Lib.split (bs s) [32] = bs k :: bss ps) (hl : ps.length = ((whatOf (bs k)).getD []).length) : parseL (Lib.split (bs s) [32]) = setAll { zd with k := k }.dp ((whatOf (bs k)).getD []) (bss ps) := by
  rw [h]
  unfold parseL
  exact if_pos (by rw [bss, List.length_map]; exact hl)
theorem set_step (d : Dp) (wh : ByteArray) (ps : List ByteArray) (k : Nat) (h1 : k < wh.size) (h2 : k < ps.length) : setAll d ((bs wh).drop k) ((bss ps).drop k) = (setB d wh[k] (bs ps[k])).bind fun e => setAll e ((bs wh).drop (k + 1)) ((bss ps).drop (k + 1)) := by
  rw [List.drop_eq_getElem_cons (i := k) (l := bs wh) (by rw [bs_length]; exact h1), List.drop_eq_getElem_cons (i := k) (l := bss ps) (by rw [bss, List.length_map]; exact h2)]
  have e : (bss ps)[k]'(by rw [bss, List.length_map]; exact h2) = bs ps[k] := by simp [bss]
  rw [e]
  rfl
theorem set_end (d : Dp) (wh : ByteArray) (ps : List ByteArray) (k : Nat) (h1 : k = wh.size) : setAll d ((bs wh).drop k) ((bss ps).drop k) = some d := by
  subst h1
  rw [List.drop_of_length_le (by rw [bs_length]; exact Nat.le_refl _)]
  rfl
theorem set_bad (d : Dp) (c : UInt8) (p : By) (h : (okA p || c == 100) = false) : setB d c p = none := by
  unfold setB
  rw [h]
  rfl
theorem valA_in (p : By) : -9223372036854775808 ≤ valA p ∧ valA p ≤ 9223372036854775807 := by
  unfold valA
  split
  · rename_i h; exact Lib.atoiAll_bounds h
  · unfold Lib.atoiSat; split <;> (try split) <;> decide
  · decide
theorem pairs_len : ∀ (l r : By), pairsB l = some r → r.length ≤ l.length
  | [], r, h => by cases h; exact Nat.le_refl _
  | [_], r, h => by cases h
  | a :: b :: t, r, h => by
    unfold pairsB at h
    split at h
    · rename_i x y hx hy
      rcases hp : pairsB t with _ | u
      · rw [hp] at h; cases h
      · rw [hp] at h
        cases h
        have := pairs_len t u hp
        simp only [List.length_cons]
        omega
    · cases h
theorem cell_far (w : World) {N M : Nat} (hn : M ≠ N) (i j : Nat) (v : Value) : (w.setCell ⟨N, i, none⟩ v).cell? ⟨M, j, none⟩ = w.cell? ⟨M, j, none⟩ := by
  unfold World.setCell World.cell?
  simp [Array.getElem?_modify, Ne.symm hn]
theorem Strs.far {w : World} {M o : Nat} {l : List ByteArray} (h : Strs w (some ⟨M, o, none⟩) l) {N : Nat} (hn : M ≠ N) (i : Nat) (v : Value) : Strs (w.setCell ⟨N, i, none⟩ v) (some ⟨M, o, none⟩) l := fun j hj => by
  obtain ⟨b, off, e, hc⟩ := h j hj
  cases e
  exact ⟨M, o, rfl, (cell_far w hn _ _ _).trans hc⟩
/-- While the fields are laid. -/
structure PS (w : World) (M : Nat) (l0 : ByteArray) (ls : List ByteArray) (wh : ByteArray) (R : Option Dp) (k : Nat) (e : Dd) (wx : World) : Prop where
  be : Below w.heap.size w wx
  bl : Blk wx w.heap.size e.cells 27
  ss : Strs wx (some ⟨M, 0, none⟩) (l0 :: ls)
  st : setAll e.dp ((bs wh).drop k) ((bss ls).drop k) = R
  sm : Small e
theorem PS.below {w wx w1 : World} {M : Nat} {l0 : ByteArray} {ls : List ByteArray} {wh : ByteArray} {R : Option Dp} {k : Nat} {e : Dd} (h : PS w M l0 ls wh R k e wx) (hb : Below wx.heap.size wx w1) : PS w M l0 ls wh R k e w1 :=
  ⟨bt h.be hb, h.bl.below hb, h.ss.below hb, h.st, h.sm⟩
theorem PS.set {w wx : World} {M : Nat} {l0 : ByteArray} {ls : List ByteArray} {wh : ByteArray} {R : Option Dp} {k : Nat} {e e' : Dd} (h : PS w M l0 ls wh R k e wx) (hM : M ≠ w.heap.size) (i : Nat) (v : Value) (hc : e.cells.setIfInBounds i v = e'.cells) (hst : setAll e'.dp ((bs wh).drop (k + 1)) ((bss ls).drop (k + 1)) = R) (hs : Small e') :
    PS w M l0 ls wh R (k + 1) e' (wx.setCell ⟨w.heap.size, i, none⟩ v) :=
  ⟨below_set h.be (Nat.le_refl _) i v, hc ▸ h.bl.set i v, h.ss.far hM i v, hst, hs⟩
end Go.Proofs.YtkodepckfdpaiaaDoor
