/- The law BaseHas: of every text, it answers yes. -/
import Derived.Test.YtjlkdfgboklmhaaDoorBf
namespace Go.Proofs.YtjlkdfgboklmhaaDoor
set_option linter.unusedSimpArgs false
set_option linter.unusedVariables false
open Go.RowKit
theorem getB_size {s out : List UInt8} (h : getB s = some out) : sizeN out.length = s.length := by
  unfold getB at h
  split at h
  · split at h
    · split at h
      · cases h; rename_i h3; exact h3.2
      · cases h
    · cases h
  · cases h
theorem gfold_ok (l : List UInt8) : ∀ (k : Nat) (st : St), StOk k st → StOk (k + l.length) (gfold l st) := by
  induction l with
  | nil => intro k st h; exact h
  | cons b l ih =>
    intro k st h
    obtain ⟨x, hx, hl⟩ := valN_range (b.toNat : Int)
    have h1 := ih (k + 1) (gstep (valN b.toNat).toNat st) (h.step (by rw [hx]; exact hl))
    rw [List.length_cons, show k + (l.length + 1) = k + 1 + l.length by omega]
    exact h1
theorem getB_len {s out : List UInt8} (h : getB s = some out) : out.length ≤ s.length := by
  have hb : (Lib.trimRightB s 61).length ≤ s.length := by
    rw [Lib.trimRightB, List.length_reverse]
    exact Nat.le_trans (List.dropWhile_sublist _).length_le (by rw [List.length_reverse]; exact Nat.le_refl _)
  have hg := gfold_ok (Lib.trimRightB s 61) 0 (0, 0, []) ⟨.inl rfl, Nat.one_pos, Nat.le_refl _⟩
  unfold getB at h
  split at h
  · split at h
    · split at h
      · cases h
        exact Nat.le_trans hg.2.2 (by omega)
      · cases h
    · cases h
  · cases h
def cntH (o : Option (List UInt8)) (j : Nat) : Nat := match o with | none => 0 | some out => if out.length + 1 < j then 1 else 0
theorem cntH_le (o : Option (List UInt8)) (j : Nat) : cntH o j ≤ 1 := by
  cases o with
  | none => exact Nat.zero_le _
  | some out => unfold cntH; simp only; split <;> omega
theorem cntH_step (s : List UInt8) (j : Nat) : cntH (getB s) (j + 1) = cntH (getB s) j + (if hasB s ((j : Int) - 1) then 1 else 0) := by
  unfold hasB
  cases getB s with
  | none => rfl
  | some out =>
    unfold cntH
    simp only [Option.isSome_some, Option.getD_some, Bool.true_and, decide_eq_true_eq]
    split <;> split <;> split <;> omega
theorem cntH_end (s : List UInt8) : cntH (getB s) (3 * s.length / 4 + 3) = if (getB s).isSome then 1 else 0 := by
  cases h : getB s with
  | none => rfl
  | some out =>
    have hs := getB_size h
    have hs2 := getB_len h
    unfold cntH
    simp only [Option.isSome_some, if_true]
    rw [if_pos]
    unfold sizeN at hs
    split at hs <;> omega
set_option maxRecDepth 100000 in
set_option maxHeartbeats 2000000 in
theorem BaseHas_calls (s : ByteArray) (w : World) (hs : s.size ≤ maxLen) :
    Calls Tryd.prog 9 #[.string s] w fun e w' => e = .returned (.bool true) ∧ Below w.heap.size w w' := by
  unfold maxLen at hs
  by_cases h4 : s.size ≤ 400
  · have hd1 : decide (400 < (s.size : Int)) = false := decide_eq_false (by omega)
    have HS := Lib.hid h4
    obtain ⟨M, hM⟩ : ∃ M : Nat, M = 3 * s.size / 4 := ⟨_, rfl⟩
    have hq : (3 : Int) * (s.size : Int) / 4 = (M : Int) := by omega
    have hMl : M ≤ 300 := by omega
    have HE := Lib.hid (cntH_end (bs s))
    rw [bs_length, ← hM] at HE
    clear hM
    go_enter Tryd.func9, Tryd.ntmps9
    go_wp2_with (go_at_call 11; refine (awake_calls _).mono ?_; rintro e w1 ⟨rfl, hb1⟩; have H1 := Lib.hid hb1; clear hb1)
    go_loopg [3, 4] (M + 3) (fun gh v3 v4 wx => ∃ j : Nat, v4 = .int .i64 ((j : Int) - 1) ∧ j + gh = M + 3 ∧ v3 = .int .i64 (cntH (getB (bs s)) j) ∧ Hid (Below w.heap.size w wx))
    case atStart => exact ⟨0, rfl, by omega, by rw [show cntH (getB (bs s)) 0 = 0 by unfold cntH; cases getB (bs s) <;> rfl]; rfl, H1⟩
    case round =>
      obtain ⟨j, rfl, hj, rfl, hb⟩ := hrel
      have hc1 := cntH_le (getB (bs s)) j
      have HST := Lib.hid (cntH_step (bs s) j)
      by_cases hlt : j < M + 3
      · have hh := fun w => Has_calls s ((j : Int) - 1) w (Nat.le_trans HS.out (by omega))
        generalize hasB (bs s) ((j : Int) - 1) = hv at hh HST
        generalize hcn : cntH (getB (bs s)) j = cn at hc1 HST
        clear hcn
        cases hv
        all_goals
          go_wp2_with (go_at_call 16; refine (hh _).mono ?_; rintro e w2 ⟨rfl, hb2⟩; have H2 := Lib.hid hb2; clear hb2)
          go_roundg (M + 3 - (j + 1))
          case measure => omega
          case rel =>
            refine ⟨j + 1, by go_num, by omega, ?_, Lib.hid (hb.out.trans (H2.out.mono hb.out.size))⟩
            rw [HST.out]; rfl
      · obtain rfl : j = M + 3 := by omega
        have hcl := HE.out
        have hg := fun w => Get_calls s w (Nat.le_trans HS.out (by omega))
        generalize getB (bs s) = o at hcl hg
        rw [hcl]
        clear hcl HST hc1
        cases o with
        | none =>
          go_wp2_with (go_at_call 13; refine (hg _).mono ?_; rintro e w2 ⟨A, c, rfl, _, _, _, hb2⟩; have H2 := Lib.hid hb2; clear hb2; simp only [codeG, Option.getD_none, List.length_nil])
          go_ret
          exact ⟨rfl, hb.out.trans (H2.out.mono hb.out.size)⟩
        | some out =>
          go_wp2_with (go_at_call 13; refine (hg _).mono ?_; rintro e w2 ⟨A, c, rfl, _, _, _, hb2⟩; have H2 := Lib.hid hb2; clear hb2; simp only [codeG, Option.getD_some])
          go_ret
          exact ⟨rfl, hb.out.trans (H2.out.mono hb.out.size)⟩
  · have hd1 : decide (400 < (s.size : Int)) = true := decide_eq_true (by omega)
    go_enter Tryd.func9, Tryd.ntmps9
    go_wp2_with (go_at_call 11; refine (awake_calls _).mono ?_; rintro e w1 ⟨rfl, hb1⟩; have HB1 := Lib.hid hb1; clear hb1)
    all_goals first
      | (exfalso; omega)
      | (go_ret; exact ⟨rfl, Below.trans (Hid.out ‹Hid (Below w.heap.size w _)›) (HB1.out.mono (Below.size (Hid.out ‹Hid (Below w.heap.size w _)›)))⟩)
end Go.Proofs.YtjlkdfgboklmhaaDoor
