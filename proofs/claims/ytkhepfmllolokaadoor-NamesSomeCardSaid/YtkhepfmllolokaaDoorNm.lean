/- The law NamesSome; conditions: the slices can be read. -/
import Derived.Test.YtkhepfmllolokaaDoorNk
namespace Go.Proofs.YtkhepfmllolokaaDoor
set_option linter.unusedSimpArgs false
set_option linter.unusedVariables false
open Go.RowKit
theorem firstO_any (a b : List ByteArray) : (firstO a b).isSome = a.any fun s => inB s b := by
  unfold firstO
  rw [List.isSome_find?]
theorem inB_iff (s : ByteArray) (l : List ByteArray) : inB s l = true ↔ s ∈ l := by
  unfold inB
  simp
theorem firstO_back (a b : List ByteArray) : (firstO b a).isSome = (firstO a b).isSome := by
  rw [firstO_any, firstO_any, Bool.eq_iff_iff, List.any_eq_true, List.any_eq_true]
  constructor
  · rintro ⟨x, h1, h2⟩; exact ⟨x, (inB_iff x a).1 h2, (inB_iff x b).2 h1⟩
  · rintro ⟨x, h1, h2⟩; exact ⟨x, (inB_iff x b).1 h2, (inB_iff x a).2 h1⟩
theorem firstO_mem {a b : List ByteArray} {x : ByteArray} (h : firstO a b = some x) : inB x a = true ∧ inB x b = true :=
  ⟨(inB_iff x a).2 (List.mem_of_find?_eq_some h), by simpa using List.find?_some h⟩
theorem firstO_before {a b : List ByteArray} {k : Nat} (hk : k < a.length) (h : ∀ j (hj : j < a.length), j < k → a[j] ≠ (firstO a b).getD ⟨#[]⟩) (hn : a[k] ≠ (firstO a b).getD ⟨#[]⟩) : inB a[k] b = false := by
  cases hin : inB a[k] b with
  | false => rfl
  | true =>
    exfalso
    have h1 : (a.take (k + 1)).find? (fun s => inB s b) ≠ none := by
      rw [Ne, List.find?_eq_none]
      intro h2
      exact h2 a[k] (List.mem_iff_getElem.2 ⟨k, by rw [List.length_take]; omega, by rw [List.getElem_take]⟩) hin
    cases h3 : (a.take (k + 1)).find? (fun s => inB s b) with
    | none => exact h1 h3
    | some y =>
      have h4 : firstO a b = some y := by
        unfold firstO
        rw [← List.take_append_drop (k + 1) a, List.find?_append, h3]; rfl
      obtain ⟨j, hj, e⟩ := List.mem_iff_getElem.1 (List.mem_of_find?_eq_some h3)
      rw [List.length_take] at hj
      rw [List.getElem_take] at e
      rw [h4] at h hn
      rcases Nat.lt_or_ge j k with hjk | hjk
      · exact h j (by omega) hjk e
      · have : j = k := by omega
        subst this
        exact hn e
set_option maxRecDepth 100000 in
set_option maxHeartbeats 8000000 in
theorem NamesSome_calls (A : Option Addr) (a : List ByteArray) (ca : Nat) (B : Option Addr) (b : List ByteArray) (cb : Nat) (w : World) (hca : a.length ≤ ca) (hma : ca ≤ maxLen) (hcb : b.length ≤ cb) (hmb : cb ≤ maxLen) (hA : Strs w A a) (hB : Strs w B b) :
    Calls Tryd.prog 7 #[.slice A a.length ca, .slice B b.length cb] w fun e w' => e = .returned (.bool true) ∧ Below w.heap.size w w' := by
  have HA := Lib.hid hA
  have HBB := Lib.hid hB
  have hFa := fun (w' : World) (h : Strs w' A a) => Few_calls A a ca w' (Nat.le_trans hca hma) h
  have hFb := fun (w' : World) (h : Strs w' B b) => Few_calls B b cb w' (Nat.le_trans hcb hmb) h
  have HMA := Lib.hid (And.intro hca hma)
  clear hA hB
  unfold maxLen at hma hmb
  by_cases hfa : fewB a = true
  · rw [hfa] at hFa
    obtain ⟨-, hal, -⟩ := few_bounds hfa
    by_cases hfb : fewB b = true
    · rw [hfb] at hFb
      obtain ⟨-, hbl, -⟩ := few_bounds hfb
      clear hfa hfb
      have hFi := fun (w' : World) A' c' B' d' (h1 : Strs w' A' a) (h2 : Strs w' B' b) => First_calls A' a c' B' b d' w' (by unfold maxLen; omega) h1 (by unfold maxLen; omega) h2
      have hFr := fun (w' : World) A' c' B' d' (h1 : Strs w' A' b) (h2 : Strs w' B' a) => First_calls A' b c' B' a d' w' (by unfold maxLen; omega) h1 (by unfold maxLen; omega) h2
      have hFn := fun (w' : World) B' d' (h2 : Strs w' B' b) => First_calls none [] 0 B' b d' w' (by decide) (Strs.nil _ _) (by unfold maxLen; omega) h2
      rw [show firstO [] b = none from rfl] at hFn
      have HR := Lib.hid (firstO_back a b)
      have hIn := fun (w' : World) (s : ByteArray) (h1 : Strs w' B b) => In_calls s B b cb w' (by unfold maxLen; omega) h1
      have hIa := fun (w' : World) (s : ByteArray) (h1 : Strs w' A a) => In_calls s A a ca w' (by unfold maxLen; omega) h1
      rw [HR.out] at hFr
      generalize (firstO b a).getD ⟨#[]⟩ = y at hFr
      have HBF : Hid (∀ k (hk : k < a.length), (∀ j (hj : j < a.length), j < k → a[j] ≠ (firstO a b).getD ⟨#[]⟩) → a[k] ≠ (firstO a b).getD ⟨#[]⟩ → inB a[k] b = false) := Lib.hid fun k hk => firstO_before hk
      have HME : Hid (∀ x, firstO a b = some x → inB x a = true ∧ inB x b = true) := Lib.hid fun x => firstO_mem
      generalize firstO a b = o at hFi hFr HBF HME
      go_enter Tryd.func7, Tryd.ntmps7
      have HB := Lib.hid (Below.refl w.heap.size w)
      have t1 : True := trivial
      have t2 : True := trivial
      have t3 : True := trivial
      cases o
      case none =>
        simp only [Option.getD_none, Option.isSome_none] at hFi hFr
        go_wp2_with (first
          | (go_at_call 9; refine (awake_calls _).mono ?_; rintro e w1 ⟨rfl, hb⟩; replace HB := Lib.hid (bt HB.out hb); clear hb)
          | (go_at_call 10; ((with_reducible refine (hFa _ (HA.out.below HB.out)).mono ?_); rintro e w1a ⟨rfl, rfl⟩))
          | (go_at_call 10; ((with_reducible refine (hFb _ (HBB.out.below HB.out)).mono ?_); rintro e w1b ⟨rfl, rfl⟩))
          | (at_builtin
             have _t := t1
             clear _t t1
             refine wpList_app rfl _ _ _ rfl (.slice (some ⟨_, 0, none⟩) 0 0) (.slice A a.length ca) (by rfl) (by rfl) (copy_run _ ca (HA.out.below HB.out) (by omega)) ?_
             intro v2 w2 hF2
             obtain ⟨⟨Ap, cp, rfl, hc1, hc2, hst⟩, -, hb⟩ := hF2
             replace HB := Lib.hid (bt HB.out hb)
             have Hp := Lib.hid (And.intro hst (And.intro hc1 hc2))
             clear hb hst hc1 hc2)
          | (at_builtin
             have _t := t2
             clear _t t2
             refine wpList_app rfl _ _ _ rfl (.slice (some ⟨_, 0, none⟩) 0 0) (.slice B b.length cb) (by rfl) (by rfl) (copy_run _ cb (HBB.out.below HB.out) (by omega)) ?_
             intro v2 w2 hF2
             obtain ⟨⟨Aq, cq, rfl, hc1, hc2, hst⟩, -, hb⟩ := hF2
             replace HB := Lib.hid (bt HB.out hb)
             replace Hp := Lib.hid (And.intro (Hp.out.1.below hb) Hp.out.2)
             have Hq := Lib.hid (And.intro hst (And.intro hc1 hc2))
             clear hb hst hc1 hc2)
          | (go_at_call 16; have _t := Hp; refine (hFi _ _ _ _ _ Hp.out.1 Hq.out.1).mono ?_; rintro e w3 ⟨rfl, hb⟩; replace HB := Lib.hid (bt HB.out hb); clear hb Hp Hq _t)
          | (at_builtin
             have _t := t3
             clear _t t3
             refine wpList_app rfl _ _ _ rfl (.slice (some ⟨_, 0, none⟩) 0 0) (.slice B b.length cb) (by rfl) (by rfl) (copy_run _ cb (HBB.out.below HB.out) (by omega)) ?_
             intro v2 w2 hF2
             obtain ⟨⟨Ar, cr, rfl, hc1, hc2, hst⟩, -, hb⟩ := hF2
             replace HB := Lib.hid (bt HB.out hb)
             have Hr := Lib.hid (And.intro hst (And.intro hc1 hc2))
             clear hb hst hc1 hc2)
          | (go_at_call 16; refine (hFn _ _ _ Hr.out.1).mono ?_; rintro e w4 ⟨rfl, hb⟩; replace HB := Lib.hid (bt HB.out hb); clear hb Hr))
        go_loopg [9] a.length (fun gh v9 wx => ∃ k : Nat, v9 = .int .i64 k ∧ k + gh = a.length ∧ Hid (∀ j (hj : j < a.length), j < k → a[j] ≠ ⟨#[]⟩) ∧ Hid (Below w.heap.size w wx))
        case atStart => exact ⟨0, rfl, by omega, Lib.hid fun j hj h => absurd h (Nat.not_lt_zero _), HB⟩
        case round =>
          clear HB
          obtain ⟨k, rfl, hk, hall, HB⟩ := hrel
          have t1 : True := trivial
          by_cases hlt : k < a.length
          · obtain ⟨g, off, rfl, hy⟩ := HA.out k hlt
            have hcy : wr.cell? ⟨g, off + k, none⟩ = some (.string a[k]) := ((bcell HB.out).1 g _ (cell_lt hy)).trans hy
            clear hy
            by_cases he : a[k] = ⟨#[]⟩
            · have hs : (a[k].toList == []) = true := by rw [he]; rw [ByteArray.toList_eq]; rfl
              clear he
              go_wp2_with (first
                | (at_builtin
                   have _t := t1
                   clear _t t1
                   refine wpList_app rfl _ _ _ rfl (.slice (some ⟨_, 0, none⟩) 0 0) (.slice B b.length cb) (by rfl) (by rfl) (copy_run _ cb (HBB.out.below HB.out) (by omega)) ?_
                   intro v2 w2 hF2
                   obtain ⟨⟨Ap, cp, rfl, hc1, hc2, hst⟩, -, hb⟩ := hF2
                   replace HB := Lib.hid (bt HB.out hb)
                   have Hp := Lib.hid (And.intro hst (And.intro hc1 hc2))
                   clear hb hst hc1 hc2)
                | (at_builtin
                   refine wpList_app rfl _ _ _ rfl (.slice (some ⟨_, 0, none⟩) 0 0) (.slice (some ⟨g, off, none⟩) a.length ca) (by rfl) (by rfl) (copy_run _ ca (HA.out.below HB.out) (by omega)) ?_
                   intro v2 w2 hF2
                   obtain ⟨⟨Aq, cq, rfl, hc1, hc2, hst⟩, -, hb⟩ := hF2
                   replace HB := Lib.hid (bt HB.out hb)
                   replace Hp := Lib.hid (And.intro (Hp.out.1.below hb) Hp.out.2)
                   have Hq := Lib.hid (And.intro hst (And.intro hc1 hc2))
                   clear hb hst hc1 hc2)
                | (go_at_call 16; refine (hFr _ _ _ _ _ Hp.out.1 Hq.out.1).mono ?_; rintro e w8 ⟨rfl, hb⟩; replace HB := Lib.hid (bt HB.out hb); clear hb Hp Hq))
              go_ret
              exact ⟨rfl, HB.out⟩
            · have hs : (a[k].toList == []) = false := by rw [beq_eq_false_iff_ne]; intro e; exact he (bs_inj (by rw [← toList_bs, e]))
              have hIk := hIn wr a[k] (HBB.out.below HB.out)
              rw [HBF.out k hlt hall.out he] at hIk
              have HE := Lib.hid he
              clear he
              go_wp2_with (go_at_call 17; refine hIk.mono ?_; rintro e w7 ⟨rfl, rfl⟩)
              go_roundg (a.length - (k + 1))
              case measure => omega
              case rel => exact ⟨k + 1, by go_num, by omega, Lib.hid (fun j hj h => by
                rcases Nat.lt_or_ge j k with h' | h'
                · exact hall.out j hj h'
                · have : j = k := by omega
                  subst this; exact HE.out), HB⟩
          · go_wp2_with (first
              | (at_builtin
                 have _t := t1
                 clear _t t1
                 refine wpList_app rfl _ _ _ rfl (.slice (some ⟨_, 0, none⟩) 0 0) (.slice B b.length cb) (by rfl) (by rfl) (copy_run _ cb (HBB.out.below HB.out) (by omega)) ?_
                 intro v2 w2 hF2
                 obtain ⟨⟨Ap, cp, rfl, hc1, hc2, hst⟩, -, hb⟩ := hF2
                 replace HB := Lib.hid (bt HB.out hb)
                 have Hp := Lib.hid (And.intro hst (And.intro hc1 hc2))
                 clear hb hst hc1 hc2)
              | (at_builtin
                 refine wpList_app rfl _ _ _ rfl (.slice (some ⟨_, 0, none⟩) 0 0) (.slice A a.length ca) (by rfl) (by rfl) (copy_run _ ca (HA.out.below HB.out) (by omega)) ?_
                 intro v2 w2 hF2
                 obtain ⟨⟨Aq, cq, rfl, hc1, hc2, hst⟩, -, hb⟩ := hF2
                 replace HB := Lib.hid (bt HB.out hb)
                 replace Hp := Lib.hid (And.intro (Hp.out.1.below hb) Hp.out.2)
                 have Hq := Lib.hid (And.intro hst (And.intro hc1 hc2))
                 clear hb hst hc1 hc2)
              | (go_at_call 16; refine (hFr _ _ _ _ _ Hp.out.1 Hq.out.1).mono ?_; rintro e w8 ⟨rfl, hb⟩; replace HB := Lib.hid (bt HB.out hb); clear hb Hp Hq))
            go_ret
            exact ⟨rfl, HB.out⟩
      case some =>
        rename_i x
        simp only [Option.getD_some, Option.isSome_some] at hFi hFr
        have hIx := fun (w' : World) (h1 : Strs w' B b) => hIn w' x h1
        have hIxa := fun (w' : World) (h1 : Strs w' A a) => hIa w' x h1
        rw [(HME.out x rfl).1] at hIxa
        rw [(HME.out x rfl).2] at hIx
        go_wp2_with (first
          | (go_at_call 9; refine (awake_calls _).mono ?_; rintro e w1 ⟨rfl, hb⟩; replace HB := Lib.hid (bt HB.out hb); clear hb)
          | (go_at_call 10; ((with_reducible refine (hFa _ (HA.out.below HB.out)).mono ?_); rintro e w1a ⟨rfl, rfl⟩))
          | (go_at_call 10; ((with_reducible refine (hFb _ (HBB.out.below HB.out)).mono ?_); rintro e w1b ⟨rfl, rfl⟩))
          | (at_builtin
             have _t := t1
             clear _t t1
             refine wpList_app rfl _ _ _ rfl (.slice (some ⟨_, 0, none⟩) 0 0) (.slice A a.length ca) (by rfl) (by rfl) (copy_run _ ca (HA.out.below HB.out) (by omega)) ?_
             intro v2 w2 hF2
             obtain ⟨⟨Ap, cp, rfl, hc1, hc2, hst⟩, -, hb⟩ := hF2
             replace HB := Lib.hid (bt HB.out hb)
             have Hp := Lib.hid (And.intro hst (And.intro hc1 hc2))
             clear hb hst hc1 hc2)
          | (at_builtin
             have _t := t2
             clear _t t2
             refine wpList_app rfl _ _ _ rfl (.slice (some ⟨_, 0, none⟩) 0 0) (.slice B b.length cb) (by rfl) (by rfl) (copy_run _ cb (HBB.out.below HB.out) (by omega)) ?_
             intro v2 w2 hF2
             obtain ⟨⟨Aq, cq, rfl, hc1, hc2, hst⟩, -, hb⟩ := hF2
             replace HB := Lib.hid (bt HB.out hb)
             replace Hp := Lib.hid (And.intro (Hp.out.1.below hb) Hp.out.2)
             have Hq := Lib.hid (And.intro hst (And.intro hc1 hc2))
             clear hb hst hc1 hc2)
          | (go_at_call 16; have _t := Hp; refine (hFi _ _ _ _ _ Hp.out.1 Hq.out.1).mono ?_; rintro e w3 ⟨rfl, hb⟩; replace HB := Lib.hid (bt HB.out hb); clear hb Hp Hq _t)
          | (at_builtin
             have _t := t3
             clear _t t3
             refine wpList_app rfl _ _ _ rfl (.slice (some ⟨_, 0, none⟩) 0 0) (.slice B b.length cb) (by rfl) (by rfl) (copy_run _ cb (HBB.out.below HB.out) (by omega)) ?_
             intro v2 w2 hF2
             obtain ⟨⟨Ar, cr, rfl, hc1, hc2, hst⟩, -, hb⟩ := hF2
             replace HB := Lib.hid (bt HB.out hb)
             have Hr := Lib.hid (And.intro hst (And.intro hc1 hc2))
             clear hb hst hc1 hc2)
          | (go_at_call 16; refine (hFn _ _ _ Hr.out.1).mono ?_; rintro e w4 ⟨rfl, hb⟩; replace HB := Lib.hid (bt HB.out hb); clear hb Hr)
          | (go_at_call 17; ((with_reducible refine (hIxa _ (HA.out.below HB.out)).mono ?_); rintro e w5 ⟨rfl, rfl⟩))
          | (go_at_call 17; ((with_reducible refine (hIx _ (HBB.out.below HB.out)).mono ?_); rintro e w6 ⟨rfl, rfl⟩)))
        go_loopg [9] a.length (fun gh v9 wx => ∃ k : Nat, v9 = .int .i64 k ∧ k + gh = a.length ∧ Hid (∀ j (hj : j < a.length), j < k → a[j] ≠ x) ∧ Hid (Below w.heap.size w wx))
        case atStart => exact ⟨0, rfl, by omega, Lib.hid fun j hj h => absurd h (Nat.not_lt_zero _), HB⟩
        case round =>
          clear HB
          obtain ⟨k, rfl, hk, hall, HB⟩ := hrel
          have t1 : True := trivial
          by_cases hlt : k < a.length
          · obtain ⟨g, off, rfl, hy⟩ := HA.out k hlt
            have hcy : wr.cell? ⟨g, off + k, none⟩ = some (.string a[k]) := ((bcell HB.out).1 g _ (cell_lt hy)).trans hy
            clear hy
            by_cases he : a[k] = x
            · have hs : (a[k].toList == x.toList) = true := by rw [he]; simp
              clear he
              go_wp2_with (first
                | (at_builtin
                   have _t := t1
                   clear _t t1
                   refine wpList_app rfl _ _ _ rfl (.slice (some ⟨_, 0, none⟩) 0 0) (.slice B b.length cb) (by rfl) (by rfl) (copy_run _ cb (HBB.out.below HB.out) (by omega)) ?_
                   intro v2 w2 hF2
                   obtain ⟨⟨Ap, cp, rfl, hc1, hc2, hst⟩, -, hb⟩ := hF2
                   replace HB := Lib.hid (bt HB.out hb)
                   have Hp := Lib.hid (And.intro hst (And.intro hc1 hc2))
                   clear hb hst hc1 hc2)
                | (at_builtin
                   refine wpList_app rfl _ _ _ rfl (.slice (some ⟨_, 0, none⟩) 0 0) (.slice (some ⟨g, off, none⟩) a.length ca) (by rfl) (by rfl) (copy_run _ ca (HA.out.below HB.out) (by omega)) ?_
                   intro v2 w2 hF2
                   obtain ⟨⟨Aq, cq, rfl, hc1, hc2, hst⟩, -, hb⟩ := hF2
                   replace HB := Lib.hid (bt HB.out hb)
                   replace Hp := Lib.hid (And.intro (Hp.out.1.below hb) Hp.out.2)
                   have Hq := Lib.hid (And.intro hst (And.intro hc1 hc2))
                   clear hb hst hc1 hc2)
                | (go_at_call 16; refine (hFr _ _ _ _ _ Hp.out.1 Hq.out.1).mono ?_; rintro e w8 ⟨rfl, hb⟩; replace HB := Lib.hid (bt HB.out hb); clear hb Hp Hq))
              go_ret
              exact ⟨rfl, HB.out⟩
            · have hs : (a[k].toList == x.toList) = false := by rw [str_beq]; exact decide_eq_false he
              have hIk := hIn wr a[k] (HBB.out.below HB.out)
              rw [HBF.out k hlt hall.out he] at hIk
              have HE := Lib.hid he
              clear he
              go_wp2_with (go_at_call 17; refine hIk.mono ?_; rintro e w7 ⟨rfl, rfl⟩)
              go_roundg (a.length - (k + 1))
              case measure => omega
              case rel => exact ⟨k + 1, by go_num, by omega, Lib.hid (fun j hj h => by
                rcases Nat.lt_or_ge j k with h' | h'
                · exact hall.out j hj h'
                · have : j = k := by omega
                  subst this; exact HE.out), HB⟩
          · go_wp2_with (first
              | (at_builtin
                 have _t := t1
                 clear _t t1
                 refine wpList_app rfl _ _ _ rfl (.slice (some ⟨_, 0, none⟩) 0 0) (.slice B b.length cb) (by rfl) (by rfl) (copy_run _ cb (HBB.out.below HB.out) (by omega)) ?_
                 intro v2 w2 hF2
                 obtain ⟨⟨Ap, cp, rfl, hc1, hc2, hst⟩, -, hb⟩ := hF2
                 replace HB := Lib.hid (bt HB.out hb)
                 have Hp := Lib.hid (And.intro hst (And.intro hc1 hc2))
                 clear hb hst hc1 hc2)
              | (at_builtin
                 refine wpList_app rfl _ _ _ rfl (.slice (some ⟨_, 0, none⟩) 0 0) (.slice A a.length ca) (by rfl) (by rfl) (copy_run _ ca (HA.out.below HB.out) (by omega)) ?_
                 intro v2 w2 hF2
                 obtain ⟨⟨Aq, cq, rfl, hc1, hc2, hst⟩, -, hb⟩ := hF2
                 replace HB := Lib.hid (bt HB.out hb)
                 replace Hp := Lib.hid (And.intro (Hp.out.1.below hb) Hp.out.2)
                 have Hq := Lib.hid (And.intro hst (And.intro hc1 hc2))
                 clear hb hst hc1 hc2)
              | (go_at_call 16; refine (hFr _ _ _ _ _ Hp.out.1 Hq.out.1).mono ?_; rintro e w8 ⟨rfl, hb⟩; replace HB := Lib.hid (bt HB.out hb); clear hb Hp Hq))
            go_ret
            exact ⟨rfl, HB.out⟩
    · have hf2 : fewB b = false := by simpa using hfb
      rw [hf2] at hFb
      clear hfa hfb hf2
      go_enter Tryd.func7, Tryd.ntmps7
      have HB := Lib.hid (Below.refl w.heap.size w)
      go_wp2_with (first
        | (go_at_call 9; refine (awake_calls _).mono ?_; rintro e w1 ⟨rfl, hb⟩; replace HB := Lib.hid (bt HB.out hb); clear hb)
        | (go_at_call 10; ((with_reducible refine (hFa _ (HA.out.below HB.out)).mono ?_); rintro e w1a ⟨rfl, rfl⟩))
        | (go_at_call 10; ((with_reducible refine (hFb _ (HBB.out.below HB.out)).mono ?_); rintro e w1b ⟨rfl, rfl⟩)))
      go_ret
      exact ⟨rfl, HB.out⟩
  · have hf2 : fewB a = false := by simpa using hfa
    rw [hf2] at hFa
    clear hfa hf2
    go_enter Tryd.func7, Tryd.ntmps7
    have HB := Lib.hid (Below.refl w.heap.size w)
    go_wp2_with (first
      | (go_at_call 9; refine (awake_calls _).mono ?_; rintro e w1 ⟨rfl, hb⟩; replace HB := Lib.hid (bt HB.out hb); clear hb)
      | (go_at_call 10; ((with_reducible refine (hFa _ (HA.out.below HB.out)).mono ?_); rintro e w1a ⟨rfl, rfl⟩)))
    go_ret
    exact ⟨rfl, HB.out⟩
end Go.Proofs.YtkhepfmllolokaaDoor
