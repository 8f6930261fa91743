/- The law NamesJoin; conditions: the slices can be read. -/
import Derived.Test.YtkhepfmllolokaaDoorNs
namespace Go.Proofs.YtkhepfmllolokaaDoor
set_option linter.unusedSimpArgs false
set_option linter.unusedVariables false
open Go.RowKit
theorem seq_total {ps a : List By} (h : seqB ps = some a) : (a.map fun t => t.length + 1).sum ≤ (ps.map fun p => p.length + 1).sum := by
  induction ps generalizing a with
  | nil => cases h; exact Nat.le_refl _
  | cons p ps ih =>
    rw [seqB] at h
    cases hp : piece p with
    | none => rw [hp] at h; cases h
    | some b =>
      cases hq : seqB ps with
      | none => rw [hp, hq] at h; cases h
      | some d =>
        rw [hp, hq] at h
        cases h
        have h1 := ih hq
        have h2 : (b.map fun t => t.length + 1).sum ≤ p.length + 1 := by
          unfold piece at hp
          split at hp
          · cases hp; simp
          · split at hp
            · cases hp
              have := trim_len p
              simp; omega
            · cases hp
        rw [List.map_append, List.sum_append, List.map_cons, List.sum_cons]; omega
theorem split_total (c : UInt8) (l : By) : ((splitC c l).map fun p => p.length + 1).sum = l.length + 1 := by
  induction l with
  | nil => rfl
  | cons x l ih =>
    obtain ⟨h, t, e⟩ := splitC_form c l
    rw [e] at ih
    by_cases hx : x = c
    · rw [splitC, if_pos hx, List.map_cons, List.sum_cons, e, ih, List.length_nil, List.length_cons]; omega
    · rw [splitC_cons hx e]
      simp only [List.map_cons, List.sum_cons, List.length_cons] at ih ⊢
      omega
theorem list_total {l r : List ByteArray} (h : listB (bss l) = some (bss r)) : cntB r ≤ cntB l := by
  have h1 := seq_total h
  have h2 : ∀ m : List ByteArray, ((bss m).map fun t => t.length + 1).sum = cntB m := fun m => by
    unfold cntB bss
    rw [List.map_map]
    refine congrArg List.sum (List.map_congr_left fun s _ => ?_)
    show (bs s).length + 1 = _
    rw [bs_length]
  have h3 : ∀ m : List By, ((m.flatMap (splitC 44)).map fun p => p.length + 1).sum = (m.map fun t => t.length + 1).sum := fun m => by
    induction m with
    | nil => rfl
    | cons x t ih => rw [List.flatMap_cons, List.map_append, List.sum_append, ih, split_total, List.map_cons, List.sum_cons]
  rw [h3, h2, h2] at h1
  exact h1
theorem cnt_app (a b : List ByteArray) : cntB (a ++ b) = cntB a + cntB b := by unfold cntB; rw [List.map_append, List.sum_append]
theorem written_len (r : List ByteArray) : (written (bss r)).length ≤ 3 * cntB r := by
  induction r with
  | nil => simp [written]
  | cons x r ih =>
    have e : cntB (x :: r) = (x.size + 1) + cntB r := by simp [cntB]
    show (written (bs x :: bss r)).length ≤ _
    rw [written, List.length_cons, List.length_append, List.length_cons, List.length_cons, bs_length, e]; omega
set_option maxRecDepth 100000 in
set_option maxHeartbeats 8000000 in
theorem NamesJoin_calls (A : Option Addr) (a : List ByteArray) (ca : Nat) (B : Option Addr) (b : List ByteArray) (cb : Nat) (w : World) (hca : a.length ≤ ca) (hma : ca ≤ maxLen) (hcb : b.length ≤ cb) (hmb : cb ≤ maxLen) (hA : Strs w A a) (hB : Strs w B b) :
    Calls Tryd.prog 4 #[.slice A a.length ca, .slice B b.length cb] w fun e w' => e = .returned (.bool true) ∧ Below w.heap.size w w' := by
  have HA := Lib.hid hA
  have HBB := Lib.hid hB
  have hFa := fun (w' : World) (h : Strs w' A a) => Few_calls A a ca w' (Nat.le_trans hca hma) h
  have hFb := fun (w' : World) (h : Strs w' B b) => Few_calls B b cb w' (Nat.le_trans hcb hmb) h
  have HMA := Lib.hid (And.intro hca hma)
  clear hA hB
  unfold maxLen at hma hmb
  by_cases hfa : fewB a = true
  · have hfa0 := Lib.hid hfa
    rw [hfa] at hFa
    obtain ⟨-, hal, -⟩ := few_bounds hfa
    by_cases hfb : fewB b = true
    · have hfb0 := Lib.hid hfb
      rw [hfb] at hFb
      obtain ⟨-, hbl, -⟩ := few_bounds hfb
      clear hfa hfb
      obtain ⟨hcA, -, hsA⟩ := few_bounds hfa0.out
      obtain ⟨hcB, -, hsB⟩ := few_bounds hfb0.out
      have HCA : Hid (cntB a ≤ 900000) := Lib.hid (by omega)
      have HCB : Hid (cntB b ≤ 900000) := Lib.hid (by omega)
      have HSA : Hid (∀ s ∈ a, s.size ≤ 900000) := Lib.hid fun s hs => Nat.le_trans (hsA s hs) (by omega)
      have HSB : Hid (∀ s ∈ b, s.size ≤ 900000) := Lib.hid fun s hs => Nat.le_trans (hsB s hs) (by omega)
      obtain ⟨ab, hab⟩ : ∃ ab, ab = a ++ b := ⟨_, rfl⟩
      have HCC : Hid (cntB ab ≤ 18060) := Lib.hid (by rw [hab, cnt_app]; omega)
      have HSC : Hid (∀ s ∈ ab, s.size ≤ 900000) := Lib.hid fun s hs => by
        rw [hab] at hs
        rcases List.mem_append.1 hs with h | h
        · exact HSA.out s h
        · exact HSB.out s h
      have habl : ab.length ≤ 60 := by rw [hab, List.length_append]; omega
      have HLL : Hid (listB (bss ab) = (listB (bss a)).bind fun x => (listB (bss b)).map (x ++ ·)) := Lib.hid (by rw [hab, show bss (a ++ b) = bss a ++ bss b from List.map_append, listB_app])
      have HAB := Lib.hid hab
      clear hab hsA hsB hcA hcB hfa0 hfb0
      have t1 : True := trivial
      have t2 : True := trivial
      have t3 : True := trivial
      have t4 : True := trivial
      cases hla : listB (bss a) with
      | none =>
        have hLa := fun (w' : World) A' c' (h' : Strs w' A' a) => List_no (c := c') (w := w') hla HCA.out (by unfold maxLen; omega) HSA.out h'
        have hLz := fun (w' : World) A' c' (h' : Strs w' A' ab) => List_no (c := c') (w := w') (show listB (bss ab) = none by rw [HLL.out, hla]; rfl) (Nat.le_trans HCC.out (by omega)) (by unfold maxLen; omega) HSC.out h'
        cases hlb : listB (bss b) with
        | none =>
          have hLb := fun (w' : World) A' c' (h' : Strs w' A' b) => List_no (c := c') (w := w') hlb HCB.out (by unfold maxLen; omega) HSB.out h'
          clear hla hlb
          go_enter Tryd.func4, Tryd.ntmps4
          have HB := Lib.hid (Below.refl w.heap.size w)
          go_wp2_with (first
            | (go_at_call 9; refine (awake_calls _).mono ?_; rintro e w1 ⟨rfl, hb⟩; replace HB := Lib.hid (bt HB.out hb); clear hb)
            | (go_at_call 10; ((with_reducible refine (hFa _ (HA.out.below HB.out)).mono ?_); rintro e w1a ⟨rfl, rfl⟩))
            | (go_at_call 10; ((with_reducible refine (hFb _ (HBB.out.below HB.out)).mono ?_); rintro e w1b ⟨rfl, rfl⟩))
            | (at_builtin
               have _t := t1
               clear _t t1
               refine wpList_app rfl _ _ _ rfl (.slice (some ⟨_, 0, none⟩) 0 0) (.slice A a.length ca) (by rfl) (by rfl) (copy_run _ ca (HA.out.below HB.out) (by omega)) ?_
               intro v2 w2 hF2
               obtain ⟨⟨Ap, cp, rfl, hc1, hc2, hst⟩, -, hb⟩ := hF2
               replace HB := Lib.hid (bt HB.out hb)
               try replace HX := Lib.hid (HX.out.below hb)
               try replace HY := Lib.hid (HY.out.below hb)
               try replace HZ := Lib.hid (HZ.out.below hb)
               try replace HW := Lib.hid (HW.out.below hb)
               have Hp := Lib.hid hst
               clear hb hst hc1 hc2)
            | (at_builtin
               have _t := t2
               clear _t t2
               refine wpList_app rfl _ _ _ rfl (.slice (some ⟨_, 0, none⟩) 0 0) (.slice B b.length cb) (by rfl) (by rfl) (copy_run _ cb (HBB.out.below HB.out) (by omega)) ?_
               intro v2 w2 hF2
               obtain ⟨⟨Aq, cq, rfl, hc1, hc2, hst⟩, -, hb⟩ := hF2
               replace HB := Lib.hid (bt HB.out hb)
               try replace HX := Lib.hid (HX.out.below hb)
               try replace HY := Lib.hid (HY.out.below hb)
               try replace HZ := Lib.hid (HZ.out.below hb)
               try replace HW := Lib.hid (HW.out.below hb)
               have Hq := Lib.hid hst
               clear hb hst hc1 hc2)
            | (at_builtin
               have _t := t3
               clear _t t3
               refine wpList_app rfl _ _ _ rfl (.slice (some ⟨_, 0, none⟩) 0 0) (.slice A a.length ca) (by rfl) (by rfl) (copy_run _ ca (HA.out.below HB.out) (by omega)) ?_
               intro v2 w2 hF2
               obtain ⟨⟨As, cs, rfl, hc1, hc2, hst⟩, ho, hb⟩ := hF2
               have HC := Lib.hid (And.intro hb ho)
               clear hb ho hst hc1 hc2)
            | (at_builtin
               have _t := t4
               clear _t t4
               refine wpList_app rfl _ _ _ rfl (.slice As a.length cs) (.slice B b.length cb) (by rfl) (by rfl) (OwnS.app HC.out.2 _ B b cb (HBB.out.below (bt HB.out HC.out.1)) (by omega) HC.out.1.size) ?_
               intro v3 w3 hF3
               obtain ⟨ho, hb2, -⟩ := hF3
               have hb := HC.out.1.trans hb2
               replace HB := Lib.hid (bt HB.out hb)
               try replace HX := Lib.hid (HX.out.below hb)
               try replace HY := Lib.hid (HY.out.below hb)
               try replace HZ := Lib.hid (HZ.out.below hb)
               try replace HW := Lib.hid (HW.out.below hb)
               rw [← HAB.out] at ho
               obtain ⟨Ar, cr, rfl, hc1, hc2, hst⟩ := ho.form
               have Hr := Lib.hid hst
               clear HC hb hb2 ho hst hc1 hc2)
            | (go_at_call 11; ((with_reducible refine (hLa _ _ _ Hp.out).mono ?_); rintro e w5 ⟨rfl, hb⟩; replace HB := Lib.hid (bt HB.out hb); (try replace HX := Lib.hid (HX.out.below hb)); (try replace HY := Lib.hid (HY.out.below hb)); (try replace HZ := Lib.hid (HZ.out.below hb)); (try replace HW := Lib.hid (HW.out.below hb)); clear hb Hp))
            | (go_at_call 11; ((with_reducible refine (hLb _ _ _ Hq.out).mono ?_); rintro e w5 ⟨rfl, hb⟩; replace HB := Lib.hid (bt HB.out hb); (try replace HX := Lib.hid (HX.out.below hb)); (try replace HY := Lib.hid (HY.out.below hb)); (try replace HZ := Lib.hid (HZ.out.below hb)); (try replace HW := Lib.hid (HW.out.below hb)); clear hb Hq))
            | (go_at_call 11; ((with_reducible refine (hLz _ _ _ Hr.out).mono ?_); rintro e w5 ⟨rfl, hb⟩; replace HB := Lib.hid (bt HB.out hb); (try replace HX := Lib.hid (HX.out.below hb)); (try replace HY := Lib.hid (HY.out.below hb)); (try replace HZ := Lib.hid (HZ.out.below hb)); (try replace HW := Lib.hid (HW.out.below hb)); clear hb Hr)))
          go_ret
          exact ⟨rfl, HB.out⟩
        | some y0 =>
          obtain ⟨y, rfl⟩ := unbss y0
          have hLb := fun (w' : World) A' c' (h' : Strs w' A' b) => List_yes (c := c') (w := w') hlb HCB.out (by unfold maxLen; omega) HSB.out h'
          clear hla hlb
          go_enter Tryd.func4, Tryd.ntmps4
          have HB := Lib.hid (Below.refl w.heap.size w)
          go_wp2_with (first
            | (go_at_call 9; refine (awake_calls _).mono ?_; rintro e w1 ⟨rfl, hb⟩; replace HB := Lib.hid (bt HB.out hb); clear hb)
            | (go_at_call 10; ((with_reducible refine (hFa _ (HA.out.below HB.out)).mono ?_); rintro e w1a ⟨rfl, rfl⟩))
            | (go_at_call 10; ((with_reducible refine (hFb _ (HBB.out.below HB.out)).mono ?_); rintro e w1b ⟨rfl, rfl⟩))
            | (at_builtin
               have _t := t1
               clear _t t1
               refine wpList_app rfl _ _ _ rfl (.slice (some ⟨_, 0, none⟩) 0 0) (.slice A a.length ca) (by rfl) (by rfl) (copy_run _ ca (HA.out.below HB.out) (by omega)) ?_
               intro v2 w2 hF2
               obtain ⟨⟨Ap, cp, rfl, hc1, hc2, hst⟩, -, hb⟩ := hF2
               replace HB := Lib.hid (bt HB.out hb)
               try replace HX := Lib.hid (HX.out.below hb)
               try replace HY := Lib.hid (HY.out.below hb)
               try replace HZ := Lib.hid (HZ.out.below hb)
               try replace HW := Lib.hid (HW.out.below hb)
               have Hp := Lib.hid hst
               clear hb hst hc1 hc2)
            | (at_builtin
               have _t := t2
               clear _t t2
               refine wpList_app rfl _ _ _ rfl (.slice (some ⟨_, 0, none⟩) 0 0) (.slice B b.length cb) (by rfl) (by rfl) (copy_run _ cb (HBB.out.below HB.out) (by omega)) ?_
               intro v2 w2 hF2
               obtain ⟨⟨Aq, cq, rfl, hc1, hc2, hst⟩, -, hb⟩ := hF2
               replace HB := Lib.hid (bt HB.out hb)
               try replace HX := Lib.hid (HX.out.below hb)
               try replace HY := Lib.hid (HY.out.below hb)
               try replace HZ := Lib.hid (HZ.out.below hb)
               try replace HW := Lib.hid (HW.out.below hb)
               have Hq := Lib.hid hst
               clear hb hst hc1 hc2)
            | (at_builtin
               have _t := t3
               clear _t t3
               refine wpList_app rfl _ _ _ rfl (.slice (some ⟨_, 0, none⟩) 0 0) (.slice A a.length ca) (by rfl) (by rfl) (copy_run _ ca (HA.out.below HB.out) (by omega)) ?_
               intro v2 w2 hF2
               obtain ⟨⟨As, cs, rfl, hc1, hc2, hst⟩, ho, hb⟩ := hF2
               have HC := Lib.hid (And.intro hb ho)
               clear hb ho hst hc1 hc2)
            | (at_builtin
               have _t := t4
               clear _t t4
               refine wpList_app rfl _ _ _ rfl (.slice As a.length cs) (.slice B b.length cb) (by rfl) (by rfl) (OwnS.app HC.out.2 _ B b cb (HBB.out.below (bt HB.out HC.out.1)) (by omega) HC.out.1.size) ?_
               intro v3 w3 hF3
               obtain ⟨ho, hb2, -⟩ := hF3
               have hb := HC.out.1.trans hb2
               replace HB := Lib.hid (bt HB.out hb)
               try replace HX := Lib.hid (HX.out.below hb)
               try replace HY := Lib.hid (HY.out.below hb)
               try replace HZ := Lib.hid (HZ.out.below hb)
               try replace HW := Lib.hid (HW.out.below hb)
               rw [← HAB.out] at ho
               obtain ⟨Ar, cr, rfl, hc1, hc2, hst⟩ := ho.form
               have Hr := Lib.hid hst
               clear HC hb hb2 ho hst hc1 hc2)
            | (go_at_call 11; ((with_reducible refine (hLa _ _ _ Hp.out).mono ?_); rintro e w5 ⟨rfl, hb⟩; replace HB := Lib.hid (bt HB.out hb); (try replace HX := Lib.hid (HX.out.below hb)); (try replace HY := Lib.hid (HY.out.below hb)); (try replace HZ := Lib.hid (HZ.out.below hb)); (try replace HW := Lib.hid (HW.out.below hb)); clear hb Hp))
            | (go_at_call 11; ((with_reducible refine (hLb _ _ _ Hq.out).mono ?_); rintro e w5 ⟨Ay, cy, rfl, hc1, hc2, hst, hb⟩; replace HB := Lib.hid (bt HB.out hb); (try replace HX := Lib.hid (HX.out.below hb)); (try replace HY := Lib.hid (HY.out.below hb)); (try replace HZ := Lib.hid (HZ.out.below hb)); (try replace HW := Lib.hid (HW.out.below hb)); have HY := Lib.hid hst; clear hb hst hc1 hc2 Hq))
            | (go_at_call 11; ((with_reducible refine (hLz _ _ _ Hr.out).mono ?_); rintro e w5 ⟨rfl, hb⟩; replace HB := Lib.hid (bt HB.out hb); (try replace HX := Lib.hid (HX.out.below hb)); (try replace HY := Lib.hid (HY.out.below hb)); (try replace HZ := Lib.hid (HZ.out.below hb)); (try replace HW := Lib.hid (HW.out.below hb)); clear hb Hr)))
          go_ret
          exact ⟨rfl, HB.out⟩
      | some x0 =>
        obtain ⟨x, rfl⟩ := unbss x0
        have hLa := fun (w' : World) A' c' (h' : Strs w' A' a) => List_yes (c := c') (w := w') hla HCA.out (by unfold maxLen; omega) HSA.out h'
        cases hlb : listB (bss b) with
        | none =>
          have hLb := fun (w' : World) A' c' (h' : Strs w' A' b) => List_no (c := c') (w := w') hlb HCB.out (by unfold maxLen; omega) HSB.out h'
          have hLz := fun (w' : World) A' c' (h' : Strs w' A' ab) => List_no (c := c') (w := w') (show listB (bss ab) = none by rw [HLL.out, hla, hlb]; rfl) (Nat.le_trans HCC.out (by omega)) (by unfold maxLen; omega) HSC.out h'
          clear hla hlb
          go_enter Tryd.func4, Tryd.ntmps4
          have HB := Lib.hid (Below.refl w.heap.size w)
          go_wp2_with (first
            | (go_at_call 9; refine (awake_calls _).mono ?_; rintro e w1 ⟨rfl, hb⟩; replace HB := Lib.hid (bt HB.out hb); clear hb)
            | (go_at_call 10; ((with_reducible refine (hFa _ (HA.out.below HB.out)).mono ?_); rintro e w1a ⟨rfl, rfl⟩))
            | (go_at_call 10; ((with_reducible refine (hFb _ (HBB.out.below HB.out)).mono ?_); rintro e w1b ⟨rfl, rfl⟩))
            | (at_builtin
               have _t := t1
               clear _t t1
               refine wpList_app rfl _ _ _ rfl (.slice (some ⟨_, 0, none⟩) 0 0) (.slice A a.length ca) (by rfl) (by rfl) (copy_run _ ca (HA.out.below HB.out) (by omega)) ?_
               intro v2 w2 hF2
               obtain ⟨⟨Ap, cp, rfl, hc1, hc2, hst⟩, -, hb⟩ := hF2
               replace HB := Lib.hid (bt HB.out hb)
               try replace HX := Lib.hid (HX.out.below hb)
               try replace HY := Lib.hid (HY.out.below hb)
               try replace HZ := Lib.hid (HZ.out.below hb)
               try replace HW := Lib.hid (HW.out.below hb)
               have Hp := Lib.hid hst
               clear hb hst hc1 hc2)
            | (at_builtin
               have _t := t2
               clear _t t2
               refine wpList_app rfl _ _ _ rfl (.slice (some ⟨_, 0, none⟩) 0 0) (.slice B b.length cb) (by rfl) (by rfl) (copy_run _ cb (HBB.out.below HB.out) (by omega)) ?_
               intro v2 w2 hF2
               obtain ⟨⟨Aq, cq, rfl, hc1, hc2, hst⟩, -, hb⟩ := hF2
               replace HB := Lib.hid (bt HB.out hb)
               try replace HX := Lib.hid (HX.out.below hb)
               try replace HY := Lib.hid (HY.out.below hb)
               try replace HZ := Lib.hid (HZ.out.below hb)
               try replace HW := Lib.hid (HW.out.below hb)
               have Hq := Lib.hid hst
               clear hb hst hc1 hc2)
            | (at_builtin
               have _t := t3
               clear _t t3
               refine wpList_app rfl _ _ _ rfl (.slice (some ⟨_, 0, none⟩) 0 0) (.slice A a.length ca) (by rfl) (by rfl) (copy_run _ ca (HA.out.below HB.out) (by omega)) ?_
               intro v2 w2 hF2
               obtain ⟨⟨As, cs, rfl, hc1, hc2, hst⟩, ho, hb⟩ := hF2
               have HC := Lib.hid (And.intro hb ho)
               clear hb ho hst hc1 hc2)
            | (at_builtin
               have _t := t4
               clear _t t4
               refine wpList_app rfl _ _ _ rfl (.slice As a.length cs) (.slice B b.length cb) (by rfl) (by rfl) (OwnS.app HC.out.2 _ B b cb (HBB.out.below (bt HB.out HC.out.1)) (by omega) HC.out.1.size) ?_
               intro v3 w3 hF3
               obtain ⟨ho, hb2, -⟩ := hF3
               have hb := HC.out.1.trans hb2
               replace HB := Lib.hid (bt HB.out hb)
               try replace HX := Lib.hid (HX.out.below hb)
               try replace HY := Lib.hid (HY.out.below hb)
               try replace HZ := Lib.hid (HZ.out.below hb)
               try replace HW := Lib.hid (HW.out.below hb)
               rw [← HAB.out] at ho
               obtain ⟨Ar, cr, rfl, hc1, hc2, hst⟩ := ho.form
               have Hr := Lib.hid hst
               clear HC hb hb2 ho hst hc1 hc2)
            | (go_at_call 11; ((with_reducible refine (hLa _ _ _ Hp.out).mono ?_); rintro e w5 ⟨Ax, cx, rfl, hc1, hc2, hst, hb⟩; replace HB := Lib.hid (bt HB.out hb); (try replace HX := Lib.hid (HX.out.below hb)); (try replace HY := Lib.hid (HY.out.below hb)); (try replace HZ := Lib.hid (HZ.out.below hb)); (try replace HW := Lib.hid (HW.out.below hb)); have HX := Lib.hid hst; clear hb hst hc1 hc2 Hp))
            | (go_at_call 11; ((with_reducible refine (hLb _ _ _ Hq.out).mono ?_); rintro e w5 ⟨rfl, hb⟩; replace HB := Lib.hid (bt HB.out hb); (try replace HX := Lib.hid (HX.out.below hb)); (try replace HY := Lib.hid (HY.out.below hb)); (try replace HZ := Lib.hid (HZ.out.below hb)); (try replace HW := Lib.hid (HW.out.below hb)); clear hb Hq))
            | (go_at_call 11; ((with_reducible refine (hLz _ _ _ Hr.out).mono ?_); rintro e w5 ⟨rfl, hb⟩; replace HB := Lib.hid (bt HB.out hb); (try replace HX := Lib.hid (HX.out.below hb)); (try replace HY := Lib.hid (HY.out.below hb)); (try replace HZ := Lib.hid (HZ.out.below hb)); (try replace HW := Lib.hid (HW.out.below hb)); clear hb Hr)))
          go_ret
          exact ⟨rfl, HB.out⟩
        | some y0 =>
          obtain ⟨y, rfl⟩ := unbss y0
          have hLb := fun (w' : World) A' c' (h' : Strs w' A' b) => List_yes (c := c') (w := w') hlb HCB.out (by unfold maxLen; omega) HSB.out h'
          obtain ⟨z, hz⟩ : ∃ z, z = x ++ y := ⟨_, rfl⟩
          have hlz : listB (bss ab) = some (bss z) := by rw [HLL.out, hla, hlb, hz]; simp [bss]
          have hLz := fun (w' : World) A' c' (h' : Strs w' A' ab) => List_yes (c := c') (w := w') hlz (Nat.le_trans HCC.out (by omega)) (by unfold maxLen; omega) HSC.out h'
          have hzt := list_total hlz
          have hzl := listB_len hlz
          have hxy : x.length + y.length = z.length := by rw [hz, List.length_append]
          have hzm : z.length ≤ 18060 := Nat.le_trans hzl HCC.out
          have hxl : x.length ≤ 18060 := by omega
          have HZT : Hid (cntB z ≤ 18060) := Lib.hid (Nat.le_trans hzt HCC.out)
          have HWR : Hid (listB [written (bss z)] = some (bss z)) := Lib.hid (list_written (seq_toks hlz))
          have HZXY := Lib.hid hz
          have hR := fun (w' : World) A1 c1 A2 c2 (h1 : Strs w' A1 z) (h2 : Strs w' A2 z) => cal_d (Row_calls A1 A2 z z c1 c2 w' (by unfold maxLen; omega) (by unfold maxLen; omega) h1 h2)
          rw [show rowB z z = true by unfold rowB; simp] at hR
          clear hla hlb hlz hzt hzl hz
          go_enter Tryd.func4, Tryd.ntmps4
          have HB := Lib.hid (Below.refl w.heap.size w)
          go_wp2_with (first
            | (go_at_call 9; refine (awake_calls _).mono ?_; rintro e w1 ⟨rfl, hb⟩; replace HB := Lib.hid (bt HB.out hb); clear hb)
            | (go_at_call 10; ((with_reducible refine (hFa _ (HA.out.below HB.out)).mono ?_); rintro e w1a ⟨rfl, rfl⟩))
            | (go_at_call 10; ((with_reducible refine (hFb _ (HBB.out.below HB.out)).mono ?_); rintro e w1b ⟨rfl, rfl⟩))
            | (at_builtin
               have _t := t1
               clear _t t1
               refine wpList_app rfl _ _ _ rfl (.slice (some ⟨_, 0, none⟩) 0 0) (.slice A a.length ca) (by rfl) (by rfl) (copy_run _ ca (HA.out.below HB.out) (by omega)) ?_
               intro v2 w2 hF2
               obtain ⟨⟨Ap, cp, rfl, hc1, hc2, hst⟩, -, hb⟩ := hF2
               replace HB := Lib.hid (bt HB.out hb)
               try replace HX := Lib.hid (HX.out.below hb)
               try replace HY := Lib.hid (HY.out.below hb)
               try replace HZ := Lib.hid (HZ.out.below hb)
               try replace HW := Lib.hid (HW.out.below hb)
               have Hp := Lib.hid hst
               clear hb hst hc1 hc2)
            | (at_builtin
               have _t := t2
               clear _t t2
               refine wpList_app rfl _ _ _ rfl (.slice (some ⟨_, 0, none⟩) 0 0) (.slice B b.length cb) (by rfl) (by rfl) (copy_run _ cb (HBB.out.below HB.out) (by omega)) ?_
               intro v2 w2 hF2
               obtain ⟨⟨Aq, cq, rfl, hc1, hc2, hst⟩, -, hb⟩ := hF2
               replace HB := Lib.hid (bt HB.out hb)
               try replace HX := Lib.hid (HX.out.below hb)
               try replace HY := Lib.hid (HY.out.below hb)
               try replace HZ := Lib.hid (HZ.out.below hb)
               try replace HW := Lib.hid (HW.out.below hb)
               have Hq := Lib.hid hst
               clear hb hst hc1 hc2)
            | (at_builtin
               have _t := t3
               clear _t t3
               refine wpList_app rfl _ _ _ rfl (.slice (some ⟨_, 0, none⟩) 0 0) (.slice A a.length ca) (by rfl) (by rfl) (copy_run _ ca (HA.out.below HB.out) (by omega)) ?_
               intro v2 w2 hF2
               obtain ⟨⟨As, cs, rfl, hc1, hc2, hst⟩, ho, hb⟩ := hF2
               have HC := Lib.hid (And.intro hb ho)
               clear hb ho hst hc1 hc2)
            | (at_builtin
               have _t := t4
               clear _t t4
               refine wpList_app rfl _ _ _ rfl (.slice As a.length cs) (.slice B b.length cb) (by rfl) (by rfl) (OwnS.app HC.out.2 _ B b cb (HBB.out.below (bt HB.out HC.out.1)) (by omega) HC.out.1.size) ?_
               intro v3 w3 hF3
               obtain ⟨ho, hb2, -⟩ := hF3
               have hb := HC.out.1.trans hb2
               replace HB := Lib.hid (bt HB.out hb)
               try replace HX := Lib.hid (HX.out.below hb)
               try replace HY := Lib.hid (HY.out.below hb)
               try replace HZ := Lib.hid (HZ.out.below hb)
               try replace HW := Lib.hid (HW.out.below hb)
               rw [← HAB.out] at ho
               obtain ⟨Ar, cr, rfl, hc1, hc2, hst⟩ := ho.form
               have Hr := Lib.hid hst
               clear HC hb hb2 ho hst hc1 hc2)
            | (go_at_call 11; ((with_reducible refine (hLa _ _ _ Hp.out).mono ?_); rintro e w5 ⟨Ax, cx, rfl, hc1, hc2, hst, hb⟩; replace HB := Lib.hid (bt HB.out hb); (try replace HX := Lib.hid (HX.out.below hb)); (try replace HY := Lib.hid (HY.out.below hb)); (try replace HZ := Lib.hid (HZ.out.below hb)); (try replace HW := Lib.hid (HW.out.below hb)); have HX := Lib.hid hst; clear hb hst hc1 hc2 Hp))
            | (go_at_call 11; ((with_reducible refine (hLb _ _ _ Hq.out).mono ?_); rintro e w5 ⟨Ay, cy, rfl, hc1, hc2, hst, hb⟩; replace HB := Lib.hid (bt HB.out hb); (try replace HX := Lib.hid (HX.out.below hb)); (try replace HY := Lib.hid (HY.out.below hb)); (try replace HZ := Lib.hid (HZ.out.below hb)); (try replace HW := Lib.hid (HW.out.below hb)); have HY := Lib.hid hst; clear hb hst hc1 hc2 Hq))
            | (go_at_call 11; ((with_reducible refine (hLz _ _ _ Hr.out).mono ?_); rintro e w5 ⟨Az, cz, rfl, hc1, hc2, hst, hb⟩; replace HB := Lib.hid (bt HB.out hb); (try replace HX := Lib.hid (HX.out.below hb)); (try replace HY := Lib.hid (HY.out.below hb)); (try replace HZ := Lib.hid (HZ.out.below hb)); (try replace HW := Lib.hid (HW.out.below hb)); have HZ := Lib.hid hst; clear hb hst hc1 hc2 Hr)))
          go_loopg [11, 12] z.length (fun gh v11 v12 wx => ∃ (k : Nat) (S : ByteArray), v12 = .int .i64 k ∧ v11 = .string S ∧ k + gh = z.length ∧ Hid (bs S = written (bss (z.take k))) ∧ wx = w5)
          case atStart => exact ⟨0, ⟨#[]⟩, rfl, rfl, by omega, Lib.hid rfl, rfl⟩
          case round =>
            obtain ⟨k, S, rfl, rfl, hk, HS, rfl⟩ := hrel
            by_cases hlt : k < z.length
            · obtain ⟨g, off, rfl, hy⟩ := HZ.out k hlt
              have hzs : z[k].size ≤ 18060 := by
                have h1 := cnt_succ z k hlt
                have h2 := cnt_le z (k + 1)
                have := HZT.out
                omega
              have hSs : S.size ≤ 54180 := by
                rw [← bs_length, HS.out]
                have h1 := written_len (z.take k)
                have h2 := cnt_le z k
                have := HZT.out
                omega
              have HE : Hid (bs (S ++ (⟨#[32]⟩ ++ z[k] ++ ⟨#[9, 44]⟩)) = written (bss (z.take (k + 1)))) := Lib.hid (by
                rw [List.take_succ_eq_append_getElem hlt, show bss (z.take k ++ [z[k]]) = bss (z.take k) ++ [bs z[k]] by simp only [bss, List.map_append, List.map_cons, List.map_nil], written_app, ← HS.out, bs_app, bs_app, bs_app]; rfl)
              go_wp2
              go_roundg (z.length - (k + 1))
              case measure => omega
              case rel => exact ⟨k + 1, _, by go_num, rfl, by omega, HE, rfl⟩
            · have hS : bs S = written (bss z) := by rw [HS.out, List.take_of_length_le (by omega)]
              have hSl : S.size ≤ 54180 := by
                rw [← bs_length, hS]
                exact Nat.le_trans (written_len z) (by have := HZT.out; omega)
              have hLw : ∀ w' : World, Calls Tryd.prog 11 #[.slice (some ⟨w'.heap.size, 0, none⟩) 1 1] (w'.alloc (.cells #[.string S] 9)) fun e w'' => ∃ A' c', e = .returned (.tuple #[.slice A' z.length c', .int .i64 0]) ∧ Strs w'' A' z ∧ Below w'.heap.size w' w'' := fun w' =>
                (List_yes (A := some ⟨w'.heap.size, 0, none⟩) (l := [S]) (r := z) (c := 1) (w := w'.alloc (.cells #[.string S] 9)) (by rw [show bss [S] = [bs S] from rfl, hS]; exact HWR.out) (by simp [cntB]; omega) (by show 1 ≤ maxLen; unfold maxLen; omega) (fun s hs => by rw [List.mem_singleton] at hs; rw [hs]; omega) (strs_lit w' [S] 9 rfl)).mono fun e w'' ⟨A', c', h1, _, _, h4, h5⟩ => ⟨A', c', h1, h4, bt (below_alloc1 _ _) h5⟩
              have t5 : True := trivial
              clear HS hS hSl
              go_wp2_with (first
                | (go_at_call 11; refine (hLw _).mono ?_; rintro e w6 ⟨Aw, cw, rfl, hst, hb⟩; have HW := Lib.hid hst; replace HB := Lib.hid (bt HB.out hb); replace HX := Lib.hid (HX.out.below hb); replace HY := Lib.hid (HY.out.below hb); replace HZ := Lib.hid (HZ.out.below hb); clear hb hst)
                | (at_builtin
                   have _t := t5
                   clear _t t5
                   refine wpList_app_w ?hw _ _ _ rfl (.slice (some ⟨_, 0, none⟩) 0 0) (.slice Ax x.length cx) (by rfl) (by rfl) (copy_run _ cx HX.out (by omega)) ?_
                   case hw => go_simp
                   intro v2 w2 hF2
                   obtain ⟨⟨As, cs, rfl, hc1, hc2, hst⟩, ho, hb⟩ := hF2
                   have HC := Lib.hid (And.intro hb ho)
                   clear hb ho hst hc1 hc2)
                | (at_builtin
                   refine wpList_app_w ?hw _ _ _ rfl (.slice As x.length cs) (.slice Ay y.length cy) (by rfl) (by rfl) (OwnS.app HC.out.2 _ Ay y cy (HY.out.below HC.out.1) (by omega) HC.out.1.size) ?_
                   case hw => go_simp
                   intro v3 w3 hF3
                   obtain ⟨ho, hb2, -⟩ := hF3
                   have hb := HC.out.1.trans hb2
                   replace HB := Lib.hid (bt HB.out hb)
                   try replace HX := Lib.hid (HX.out.below hb)
                   try replace HY := Lib.hid (HY.out.below hb)
                   try replace HZ := Lib.hid (HZ.out.below hb)
                   try replace HW := Lib.hid (HW.out.below hb)
                   rw [← HZXY.out] at ho
                   obtain ⟨Ar, cr, rfl, hc1, hc2, hst⟩ := ho.form
                   have Hr := Lib.hid hst
                   clear HC hb hb2 ho hst hc1 hc2)
                | (go_at_call 15; have _t := Hr; refine (hR _ _ _ _ _ HZ.out Hr.out).mono ?_; rintro e w7 ⟨rfl, hb⟩; replace HB := Lib.hid (bt HB.out hb); replace HZ := Lib.hid (HZ.out.below hb); replace HW := Lib.hid (HW.out.below hb); clear hb Hr _t)
                | (go_at_call 15; refine (hR _ _ _ _ _ HW.out HZ.out).mono ?_; rintro e w8 ⟨rfl, hb⟩; replace HB := Lib.hid (bt HB.out hb); clear hb))
              go_ret
              exact ⟨rfl, HB.out⟩
    · have hf2 : fewB b = false := by simpa using hfb
      rw [hf2] at hFb
      clear hfa hfb hf2
      go_enter Tryd.func4, Tryd.ntmps4
      have HB := Lib.hid (Below.refl w.heap.size w)
      go_wp2_with (first
        | (go_at_call 9; refine (awake_calls _).mono ?_; rintro e w1 ⟨rfl, hb⟩; replace HB := Lib.hid (bt HB.out hb); clear hb)
        | (go_at_call 10; ((with_reducible refine (hFa _ (HA.out.below HB.out)).mono ?_); rintro e w1a ⟨rfl, rfl⟩))
        | (go_at_call 10; ((with_reducible refine (hFb _ (HBB.out.below HB.out)).mono ?_); rintro e w1b ⟨rfl, rfl⟩)))
      go_ret
      exact ⟨rfl, HB.out⟩
  · have hf2 : fewB a = false := by simpa using hfa
    rw [hf2] at hFa
    clear hfa hf2
    go_enter Tryd.func4, Tryd.ntmps4
    have HB := Lib.hid (Below.refl w.heap.size w)
    go_wp2_with (first
      | (go_at_call 9; refine (awake_calls _).mono ?_; rintro e w1 ⟨rfl, hb⟩; replace HB := Lib.hid (bt HB.out hb); clear hb)
      | (go_at_call 10; ((with_reducible refine (hFa _ (HA.out.below HB.out)).mono ?_); rintro e w1a ⟨rfl, rfl⟩)))
    go_ret
    exact ⟨rfl, HB.out⟩
end Go.Proofs.YtkhepfmllolokaaDoor
