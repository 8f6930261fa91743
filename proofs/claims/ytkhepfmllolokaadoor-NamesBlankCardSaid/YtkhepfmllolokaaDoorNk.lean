/- The law NamesList: of every slice and token, it answers yes; conditions: the slice can be read. -/
import Derived.Test.YtkhepfmllolokaaDoorNj
import Derived.Test.YtkhepfmllolokaaDoorGg
namespace Go.Proofs.YtkhepfmllolokaaDoor
set_option linter.unusedSimpArgs false
set_option linter.unusedVariables false
open Go.RowKit
theorem few_bounds {l : List ByteArray} (h : fewB l = true) : cntB l ≤ 9030 ∧ l.length ≤ 30 ∧ ∀ s ∈ l, s.size ≤ 300 := by
  unfold fewB at h
  rw [Bool.and_eq_true, List.all_eq_true, decide_eq_true_eq] at h
  obtain ⟨h1, h2⟩ := h
  have h3 : ∀ s ∈ l, s.size ≤ 300 := fun s hs => by simpa using h1 s hs
  refine ⟨?_, h2, h3⟩
  have key : ∀ m : List ByteArray, (∀ s ∈ m, s.size ≤ 300) → cntB m ≤ 301 * m.length := by
    intro m
    induction m with
    | nil => intro _; simp [cntB]
    | cons x t ih =>
      intro hm
      have e : cntB (x :: t) = (x.size + 1) + cntB t := by simp [cntB]
      have h4 := hm x List.mem_cons_self
      have h5 := ih fun s hs => hm s (List.mem_cons_of_mem _ hs)
      rw [e, List.length_cons]; omega
  have := key l h3
  omega
theorem unbss (r : List By) : ∃ r' : List ByteArray, r = bss r' := ⟨r.map mk, by simp [bss, Function.comp_def, bs_mk]⟩
set_option maxRecDepth 100000 in
set_option maxHeartbeats 8000000 in
theorem NamesList_calls (A : Option Addr) (l : List ByteArray) (c : Nat) (t : ByteArray) (w : World) (hm : l.length ≤ maxLen) (ht : t.size ≤ maxLen) (hA : Strs w A l) :
    Calls Tryd.prog 3 #[.slice A l.length c, .string t] w fun e w' => e = .returned (.bool true) ∧ Below w.heap.size w w' := by
  have HL := Lib.hid hA
  have hF := fun (w' : World) (h : Strs w' A l) => Few_calls A l c w' hm h
  have HTM := Lib.hid ht
  have HMX := Lib.hid hm
  clear hA
  unfold maxLen at hm ht
  by_cases hfew : fewB l = true
  · rw [hfew] at hF
    obtain ⟨hb1, hb2, hb3⟩ := few_bounds hfew
    have HC : Hid (cntB l ≤ 900000) := Lib.hid (by omega)
    have HS : Hid (∀ s ∈ l, s.size ≤ 900000) := Lib.hid fun s hs => Nat.le_trans (hb3 s hs) (by omega)
    clear hfew hb3 hb1
    by_cases h3 : t.size ≤ 300
    · have hd : decide (300 < (t.size : Int)) = false := decide_eq_false (by omega)
      have hH := fun (w' : World) A' c' (h : Strs w' A' l) => Has_calls t A' l c' w' HTM.out HC.out HMX.out HS.out h
      have hRH := fun (w' : World) (h : Strs w' A l) => refHas_calls t A l c w' HTM.out HC.out HMX.out HS.out h
      cases h : listB (bss l) with
      | none =>
        have hL := fun (w' : World) A' c' (h' : Strs w' A' l) => List_no (c := c') (w := w') h HC.out HMX.out HS.out h'
        have hRL := fun (w' : World) (h' : Strs w' A l) => refLists_no (c := c) (w := w') h HC.out HMX.out HS.out h'
        rw [h] at hH hRH
        generalize hasN (bs t) none = q at hH hRH
        clear h
        go_enter Tryd.func3, Tryd.ntmps3
        have HB := Lib.hid (Below.refl w.heap.size w)
        go_wp2_with (first
          | (go_at_call 9; refine (awake_calls _).mono ?_; rintro e w1 ⟨rfl, hb⟩; replace HB := Lib.hid (bt HB.out hb); clear hb)
          | (go_at_call 10; refine (hF _ (HL.out.below HB.out)).mono ?_; rintro e w1' ⟨rfl, rfl⟩)
          | (at_builtin
             refine wpList_app rfl _ _ _ rfl (.slice (some ⟨_, 0, none⟩) 0 0) (.slice A l.length c) (by rfl) (by rfl) (copy_run _ c (HL.out.below HB.out) (by omega)) ?_
             intro v2 w2 hF2
             obtain ⟨⟨A2, c2, rfl, hc1, hc2, hst⟩, -, hb⟩ := hF2
             replace HB := Lib.hid (bt HB.out hb)
             have HM := Lib.hid hst
             clear hb hst hc1 hc2)
          | (go_at_call 11; refine (hL _ _ _ HM.out).mono ?_; rintro e w3 ⟨rfl, hb⟩; replace HB := Lib.hid (bt HB.out hb); clear hb HM)
          | (go_at_call 12; refine (hRL _ (HL.out.below HB.out)).mono ?_; rintro e w4 ⟨rfl, hb⟩; replace HB := Lib.hid (bt HB.out hb); clear hb)
          | (go_at_call 13; refine (hH _ _ _ HM.out).mono ?_; rintro e w5 ⟨rfl, hb⟩; replace HB := Lib.hid (bt HB.out hb); clear hb HM)
          | (go_at_call 14; refine (hRH _ (HL.out.below HB.out)).mono ?_; rintro e w6 ⟨rfl, hb⟩; replace HB := Lib.hid (bt HB.out hb); clear hb))
        all_goals
          go_ret
          exact ⟨rfl, HB.out⟩
      | some r0 =>
        obtain ⟨r, rfl⟩ := unbss r0
        have hrl : r.length ≤ maxLen := Nat.le_trans (listB_len h) (Nat.le_trans HC.out (by unfold maxLen; omega))
        have hL := fun (w' : World) A' c' (h' : Strs w' A' l) => List_yes (c := c') (w := w') h HC.out HMX.out HS.out h'
        have hRL := fun (w' : World) (h' : Strs w' A l) => refLists_yes (c := c) (w := w') h HC.out HMX.out HS.out h'
        have hR := fun (w' : World) A1 c1 A2 c2 (h1 : Strs w' A1 r) (h2 : Strs w' A2 r) => cal_d (Row_calls A1 A2 r r c1 c2 w' hrl hrl h1 h2)
        rw [show rowB r r = true by unfold rowB; simp] at hR
        rw [h] at hH hRH
        generalize hasN (bs t) (some (bss r)) = q at hH hRH
        clear h hrl
        go_enter Tryd.func3, Tryd.ntmps3
        have HB := Lib.hid (Below.refl w.heap.size w)
        go_wp2_with (first
          | (go_at_call 9; refine (awake_calls _).mono ?_; rintro e w1 ⟨rfl, hb⟩; replace HB := Lib.hid (bt HB.out hb); clear hb)
          | (go_at_call 10; refine (hF _ (HL.out.below HB.out)).mono ?_; rintro e w1' ⟨rfl, rfl⟩)
          | (at_builtin
             refine wpList_app rfl _ _ _ rfl (.slice (some ⟨_, 0, none⟩) 0 0) (.slice A l.length c) (by rfl) (by rfl) (copy_run _ c (HL.out.below HB.out) (by omega)) ?_
             intro v2 w2 hF2
             obtain ⟨⟨A2, c2, rfl, hc1, hc2, hst⟩, -, hb⟩ := hF2
             replace HB := Lib.hid (bt HB.out hb)
             try replace HM3 := Lib.hid (HM3.out.below hb)
             try replace HM4 := Lib.hid (HM4.out.below hb)
             have HM := Lib.hid hst
             clear hb hst hc1 hc2)
          | (go_at_call 11; refine (hL _ _ _ HM.out).mono ?_; rintro e w3 ⟨A3, c3, rfl, hc1, hc2, hst, hb⟩; replace HB := Lib.hid (bt HB.out hb); have HM3 := Lib.hid hst; clear hb HM hst hc1 hc2)
          | (go_at_call 12; refine (hRL _ (HL.out.below HB.out)).mono ?_; rintro e w4 ⟨A4, c4, rfl, hc1, hc2, hst, hb⟩; replace HB := Lib.hid (bt HB.out hb); replace HM3 := Lib.hid (HM3.out.below hb); have HM4 := Lib.hid hst; clear hb hst hc1 hc2)
          | (go_at_call 13; refine (hH _ _ _ HM.out).mono ?_; rintro e w5 ⟨rfl, hb⟩; replace HB := Lib.hid (bt HB.out hb); replace HM3 := Lib.hid (HM3.out.below hb); replace HM4 := Lib.hid (HM4.out.below hb); clear hb HM)
          | (go_at_call 14; refine (hRH _ (HL.out.below HB.out)).mono ?_; rintro e w6 ⟨rfl, hb⟩; replace HB := Lib.hid (bt HB.out hb); replace HM3 := Lib.hid (HM3.out.below hb); replace HM4 := Lib.hid (HM4.out.below hb); clear hb)
          | (go_at_call 15; refine (hR _ _ _ _ _ HM3.out HM4.out).mono ?_; rintro e w7 ⟨rfl, hb⟩; replace HB := Lib.hid (bt HB.out hb); clear hb))
        all_goals
          go_ret
          exact ⟨rfl, HB.out⟩
    · have hd : decide (300 < (t.size : Int)) = true := decide_eq_true (by omega)
      go_enter Tryd.func3, Tryd.ntmps3
      have HB := Lib.hid (Below.refl w.heap.size w)
      go_wp2_with (first
          | (go_at_call 9; refine (awake_calls _).mono ?_; rintro e w1 ⟨rfl, hb⟩; replace HB := Lib.hid (bt HB.out hb); clear hb)
          | (go_at_call 10; refine (hF _ (HL.out.below HB.out)).mono ?_; rintro e w1' ⟨rfl, rfl⟩))
      go_ret
      exact ⟨rfl, HB.out⟩
  · have hf2 : fewB l = false := by simpa using hfew
    rw [hf2] at hF
    clear hfew hf2
    go_enter Tryd.func3, Tryd.ntmps3
    have HB := Lib.hid (Below.refl w.heap.size w)
    go_wp2_with (first
          | (go_at_call 9; refine (awake_calls _).mono ?_; rintro e w1 ⟨rfl, hb⟩; replace HB := Lib.hid (bt HB.out hb); clear hb)
          | (go_at_call 10; refine (hF _ (HL.out.below HB.out)).mono ?_; rintro e w1' ⟨rfl, rfl⟩))
    go_ret
    exact ⟨rfl, HB.out⟩
end Go.Proofs.YtkhepfmllolokaaDoor
