/- The law NamesFirst; conditions: the slices can be read. -/
import Derived.Test.YtkhepfmllolokaaDoorNk
namespace Go.Proofs.YtkhepfmllolokaaDoor
set_option linter.unusedSimpArgs false
set_option linter.unusedVariables false
open Go.RowKit
theorem firstO_cons (x : ByteArray) (l b : List ByteArray) : firstO (x :: l) b = if inB x b then some x else firstO l b := by
  unfold firstO
  rw [List.find?_cons]
  cases inB x b <;> rfl
set_option maxRecDepth 100000 in
set_option maxHeartbeats 8000000 in
theorem NamesFirst_calls (A : Option Addr) (a : List ByteArray) (ca : Nat) (B : Option Addr) (b : List ByteArray) (cb : Nat) (w : World) (hca : a.length ≤ ca) (hma : ca ≤ maxLen) (hcb : b.length ≤ cb) (hmb : cb ≤ maxLen) (hA : Strs w A a) (hB : Strs w B b) :
    Calls Tryd.prog 5 #[.slice A a.length ca, .slice B b.length cb] w fun e w' => e = .returned (.bool true) ∧ Below w.heap.size w w' := by
  have HA := Lib.hid hA
  have HBB := Lib.hid hB
  have hFa := fun (w' : World) (h : Strs w' A a) => Few_calls A a ca w' (Nat.le_trans hca hma) h
  have hFb := fun (w' : World) (h : Strs w' B b) => Few_calls B b cb w' (Nat.le_trans hcb hmb) h
  have HMA := Lib.hid (And.intro hca hma)
  clear hA hB
  unfold maxLen at hma hmb
  by_cases hfa : fewB a = true
  · rw [hfa] at hFa
    obtain ⟨-, hal, -⟩ := few_bounds hfa
    by_cases hfb : fewB b = true
    · rw [hfb] at hFb
      obtain ⟨-, hbl, -⟩ := few_bounds hfb
      clear hfa hfb
      have hFi := fun (w' : World) A' c' B' d' (h1 : Strs w' A' a) (h2 : Strs w' B' b) => First_calls A' a c' B' b d' w' (by unfold maxLen; omega) h1 (by unfold maxLen; omega) h2
      have hOne := fun (w' : World) A' c' (h1 : Strs w' A' a) => cal_s (One_calls A' a c' w' (by unfold maxLen; omega) h1)
      have hOnce := fun (w' : World) A' c' (h0 : a.length ≤ c') (hm : c' ≤ maxLen) (h1 : Strs w' A' a) => cal_s (Once_calls A' a c' w' h0 hm h1)
      have hROnce := fun (w' : World) (h1 : Strs w' A a) => cal_d (refOnce_calls A a ca w' HMA.out.1 HMA.out.2 h1)
      have hIn := fun (w' : World) (s : ByteArray) (h1 : Strs w' B b) => In_calls s B b cb w' (by unfold maxLen; omega) h1
      generalize onceB a = oq at hOnce hROnce
      go_enter Tryd.func5, Tryd.ntmps5
      have HB := Lib.hid (Below.refl w.heap.size w)
      go_wp2_with (first
        | (go_at_call 9; refine (awake_calls _).mono ?_; rintro e w1 ⟨rfl, hb⟩; replace HB := Lib.hid (bt HB.out hb); clear hb)
        | (go_at_call 10; ((with_reducible refine (hFa _ (HA.out.below HB.out)).mono ?_); rintro e w1a ⟨rfl, rfl⟩))
        | (go_at_call 10; ((with_reducible refine (hFb _ (HBB.out.below HB.out)).mono ?_); rintro e w1b ⟨rfl, rfl⟩))
        | (at_builtin
           have _t := Hp.out
           clear _t
           refine wpList_app rfl _ _ _ rfl (.slice (some ⟨_, 0, none⟩) 0 0) (.slice B b.length cb) (by rfl) (by rfl) (copy_run _ cb (HBB.out.below HB.out) (by omega)) ?_
           intro v2 w2 hF2
           obtain ⟨⟨Aq, cq, rfl, hc1, hc2, hst⟩, -, hb⟩ := hF2
           replace HB := Lib.hid (bt HB.out hb)
           replace Hp := Lib.hid (And.intro (Hp.out.1.below hb) Hp.out.2)
           have Hq := Lib.hid (And.intro hst (And.intro hc1 hc2))
           clear hb hst hc1 hc2)
        | (at_builtin
           refine wpList_app rfl _ _ _ rfl (.slice (some ⟨_, 0, none⟩) 0 0) (.slice A a.length ca) (by rfl) (by rfl) (copy_run _ ca (HA.out.below HB.out) (by omega)) ?_
           intro v2 w2 hF2
           obtain ⟨⟨Ap, cp, rfl, hc1, hc2, hst⟩, -, hb⟩ := hF2
           replace HB := Lib.hid (bt HB.out hb)
           have Hp := Lib.hid (And.intro hst (And.intro hc1 hc2))
           clear hb hst hc1 hc2)
        | (go_at_call 16; refine (hFi _ _ _ _ _ Hp.out.1 Hq.out.1).mono ?_; rintro e w3 ⟨rfl, hb⟩; replace HB := Lib.hid (bt HB.out hb); clear hb Hp Hq))
      go_loopg [7, 8, 9] a.length (fun gh v7 v8 v9 wx => ∃ (j : Nat) (x : Int), gh = j ∧ j ≤ a.length ∧ x = (j : Int) - 1 ∧ v9 = .int .i64 x ∧ v7 = .string ((firstO (a.drop j) b).getD ⟨#[]⟩) ∧ v8 = .bool (firstO (a.drop j) b).isSome ∧ Hid (Below w.heap.size w wx))
      case atStart => exact ⟨a.length, _, rfl, Nat.le_refl _, rfl, rfl, by rw [List.drop_length]; rfl, by rw [List.drop_length]; rfl, HB⟩
      case round =>
        clear HB
        obtain ⟨j, x, rfl, hj, hx, rfl, rfl, rfl, HB⟩ := hrel
        cases gk with
        | zero =>
          obtain rfl : x = -1 := by omega
          rw [List.drop_zero]
          generalize firstO a b = o
          by_cases h1 : a.length = 1
          · obtain ⟨y, rfl⟩ := List.length_eq_one_iff.1 h1
            obtain ⟨g, off, rfl, hy⟩ := HA.out 0 (by simp)
            have HY := Lib.hid hy
            have hl1 : ((List.length [y] : Int) == 1) = true := by simp
            rw [show oneV [y] = y from rfl, decide_eq_true (show [y].length = 1 from rfl)] at hOne
            clear hy h1 hx hj hal hca
            have tk : True := trivial
            go_wp2_with (first
              | (at_builtin
                 have _t := tk
                 clear _t tk
                 refine wpList_app rfl _ _ _ rfl (.slice (some ⟨_, 0, none⟩) 0 0) (.slice (some ⟨g, off, none⟩) 1 ca) (by rfl) (by rfl) (copy_run (l := [y]) _ ca (HA.out.below HB.out) (by simp)) ?_
                 intro v2 w2 hF2
                 obtain ⟨⟨Ap, cp, rfl, hc1, hc2, hst⟩, -, hb⟩ := hF2
                 replace HB := Lib.hid (bt HB.out hb)
                 have Hp := Lib.hid (And.intro hst (And.intro hc1 hc2))
                 clear hb hst hc1 hc2)
              | (at_builtin
                 refine wpList_app_w ?hw _ _ _ rfl (.slice (some ⟨_, 0, none⟩) 0 0) (.slice (some ⟨g, off, none⟩) 1 ca) (by rfl) (by rfl) (copy_run (l := [y]) _ ca (HA.out.below HB.out) (by simp)) ?_
                 case hw => go_simp
                 intro v2 w2 hF2
                 obtain ⟨⟨Ap, cp, rfl, hc1, hc2, hst⟩, -, hb⟩ := hF2
                 replace HB := Lib.hid (bt HB.out hb)
                 have Hp := Lib.hid (And.intro hst (And.intro hc1 hc2))
                 clear hb hst hc1 hc2)
              | (go_at_call 18
                 refine (hOne _ _ _ Hp.out.1).mono ?_
                 rintro e w3 ⟨rfl, hb⟩
                 replace HB := Lib.hid (bt HB.out hb)
                 have hcy : w3.cell? ⟨g, off + 0, none⟩ = some (.string y) := ((bcell HB.out).1 g _ (cell_lt HY.out)).trans HY.out
                 rw [Nat.add_zero] at hcy
                 clear hb Hp)
              | (go_at_call 19; refine (hOnce _ _ _ Hp.out.2.1 Hp.out.2.2 Hp.out.1).mono ?_; rintro e w4 ⟨rfl, hb⟩; replace HB := Lib.hid (bt HB.out hb); clear hb Hp)
              | (go_at_call 20; refine (hROnce _ (HA.out.below HB.out)).mono ?_; rintro e w5 ⟨rfl, hb⟩; replace HB := Lib.hid (bt HB.out hb); clear hb))
            go_ret
            exact ⟨ret_bool (by simp), HB.out⟩
          · have hl1 : ((a.length : Int) == 1) = false := by rw [beq_eq_false_iff_ne]; omega
            have hv : oneV a = ⟨#[]⟩ := by
              match a, h1 with
              | [], _ => rfl
              | [x], h => exact absurd rfl h
              | _ :: _ :: _, _ => rfl
            rw [hv, decide_eq_false h1] at hOne
            clear h1 hx hv
            have tk : True := trivial
            go_wp2_with (first
              | (at_builtin
                 have _t := tk
                 clear _t tk
                 refine wpList_app rfl _ _ _ rfl (.slice (some ⟨_, 0, none⟩) 0 0) (.slice A a.length ca) (by rfl) (by rfl) (copy_run _ ca (HA.out.below HB.out) (by omega)) ?_
                 intro v2 w2 hF2
                 obtain ⟨⟨Ap, cp, rfl, hc1, hc2, hst⟩, -, hb⟩ := hF2
                 replace HB := Lib.hid (bt HB.out hb)
                 have Hp := Lib.hid (And.intro hst (And.intro hc1 hc2))
                 clear hb hst hc1 hc2)
              | (at_builtin
                 refine wpList_app_w ?hw _ _ _ rfl (.slice (some ⟨_, 0, none⟩) 0 0) (.slice A a.length ca) (by rfl) (by rfl) (copy_run _ ca (HA.out.below HB.out) (by omega)) ?_
                 case hw => go_simp
                 intro v2 w2 hF2
                 obtain ⟨⟨Ap, cp, rfl, hc1, hc2, hst⟩, -, hb⟩ := hF2
                 replace HB := Lib.hid (bt HB.out hb)
                 have Hp := Lib.hid (And.intro hst (And.intro hc1 hc2))
                 clear hb hst hc1 hc2)
              | (go_at_call 18; refine (hOne _ _ _ Hp.out.1).mono ?_; rintro e w3 ⟨rfl, hb⟩; replace HB := Lib.hid (bt HB.out hb); clear hb Hp)
              | (go_at_call 19; refine (hOnce _ _ _ Hp.out.2.1 Hp.out.2.2 Hp.out.1).mono ?_; rintro e w4 ⟨rfl, hb⟩; replace HB := Lib.hid (bt HB.out hb); clear hb Hp)
              | (go_at_call 20; refine (hROnce _ (HA.out.below HB.out)).mono ?_; rintro e w5 ⟨rfl, hb⟩; replace HB := Lib.hid (bt HB.out hb); clear hb))
            go_ret
            exact ⟨ret_bool (by simp), HB.out⟩
        | succ m =>
          obtain rfl : x = (m : Int) := by omega
          obtain ⟨g, off, rfl, hy⟩ := HA.out m (by omega)
          have hcy : wr.cell? ⟨g, off + m, none⟩ = some (.string a[m]) := ((bcell HB.out).1 g _ (cell_lt hy)).trans hy
          have hIm := hIn wr a[m] (HBB.out.below HB.out)
          have HD := Lib.hid (List.drop_eq_getElem_cons (show m < a.length by omega))
          have hmi : (m : Int) < (a.length : Int) := by omega
          clear hx hy
          cases hin : inB a[m] b
          all_goals
            have HI := Lib.hid hin
            rw [hin] at hIm
            clear hin
            go_wp2_with (go_at_call 17; refine hIm.mono ?_; rintro e w3 ⟨rfl, rfl⟩)
            go_roundg m
            case measure => omega
            case rel => exact ⟨m, _, rfl, by omega, rfl, rfl, by rw [HD.out, firstO_cons, HI.out]; rfl, by rw [HD.out, firstO_cons, HI.out]; rfl, HB⟩
    · have hf2 : fewB b = false := by simpa using hfb
      rw [hf2] at hFb
      clear hfa hfb hf2
      go_enter Tryd.func5, Tryd.ntmps5
      have HB := Lib.hid (Below.refl w.heap.size w)
      go_wp2_with (first
        | (go_at_call 9; refine (awake_calls _).mono ?_; rintro e w1 ⟨rfl, hb⟩; replace HB := Lib.hid (bt HB.out hb); clear hb)
        | (go_at_call 10; ((with_reducible refine (hFa _ (HA.out.below HB.out)).mono ?_); rintro e w1a ⟨rfl, rfl⟩))
        | (go_at_call 10; ((with_reducible refine (hFb _ (HBB.out.below HB.out)).mono ?_); rintro e w1b ⟨rfl, rfl⟩)))
      go_ret
      exact ⟨rfl, HB.out⟩
  · have hf2 : fewB a = false := by simpa using hfa
    rw [hf2] at hFa
    clear hfa hf2
    go_enter Tryd.func5, Tryd.ntmps5
    have HB := Lib.hid (Below.refl w.heap.size w)
    go_wp2_with (first
      | (go_at_call 9; refine (awake_calls _).mono ?_; rintro e w1 ⟨rfl, hb⟩; replace HB := Lib.hid (bt HB.out hb); clear hb)
      | (go_at_call 10; ((with_reducible refine (hFa _ (HA.out.below HB.out)).mono ?_); rintro e w1a ⟨rfl, rfl⟩)))
    go_ret
    exact ⟨rfl, HB.out⟩
end Go.Proofs.YtkhepfmllolokaaDoor
