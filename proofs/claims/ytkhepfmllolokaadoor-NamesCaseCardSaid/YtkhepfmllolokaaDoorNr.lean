/- The law NamesCase: of every slice and token, it answers yes; conditions: the slice can be read. -/
import Derived.Test.YtkhepfmllolokaaDoorNq
namespace Go.Proofs.YtkhepfmllolokaaDoor
set_option linter.unusedSimpArgs false
set_option linter.unusedVariables false
open Go.RowKit
set_option maxRecDepth 100000 in
set_option maxHeartbeats 8000000 in
theorem NamesCase_calls (A : Option Addr) (l : List ByteArray) (c : Nat) (t : ByteArray) (w : World) (hm : l.length ≤ maxLen) (ht : t.size ≤ maxLen) (hA : Strs w A l) :
    Calls Tryd.prog 6 #[.slice A l.length c, .string t] w fun e w' => e = .returned (.bool true) ∧ Below w.heap.size w w' := by
  have HL := Lib.hid hA
  have hF := fun (w' : World) (h : Strs w' A l) => Few_calls A l c w' hm h
  have HTM := Lib.hid ht
  have HMX := Lib.hid hm
  clear hA
  unfold maxLen at hm ht
  by_cases hfew : fewB l = true
  · rw [hfew] at hF
    obtain ⟨hb1, hb2, hb3⟩ := few_bounds hfew
    have HC : Hid (cntB l ≤ 900000) := Lib.hid (by omega)
    have HS : Hid (∀ s ∈ l, s.size ≤ 900000) := Lib.hid fun s hs => Nat.le_trans (hb3 s hs) (by omega)
    clear hfew hb3 hb1
    by_cases h3 : t.size ≤ 300
    · have hd : decide (300 < (t.size : Int)) = false := decide_eq_false (by omega)
      have hH := fun (w' : World) A' c' (h : Strs w' A' l) => Has_calls t A' l c' w' HTM.out HC.out HMX.out HS.out h
      have hHu := fun (w' : World) A' c' (h : Strs w' A' l) => Has_calls (upS t) A' l c' w' (by rw [upS_size]; exact HTM.out) HC.out HMX.out HS.out h
      have hHl := fun (w' : World) A' c' (h : Strs w' A' (l.map upS)) => Has_calls t A' (l.map upS) c' w' HTM.out (by rw [cnt_up]; exact HC.out) (by rw [List.length_map]; exact HMX.out) (fun s hs => by
        obtain ⟨x, hx, rfl⟩ := List.mem_map.1 hs
        rw [upS_size]; exact HS.out x hx) h
      have hU := fun (w' : World) => upper_calls t w' HTM.out
      have hUl := fun (w' : World) (k : Nat) (hk : k < l.length) => upper_calls l[k] w' (Nat.le_trans (HS.out _ (List.getElem_mem hk)) (by unfold maxLen; omega))
      rw [(has_ups t l).1] at hHu
      rw [(has_ups t l).2] at hHl
      change ∀ w' : World, Calls Tryd.prog _ _ w' fun e w'' => e = .returned (.string (upS t)) ∧ Below w'.heap.size w' w'' at hU
      generalize hasN (bs t) (listB (bss l)) = q at hH hHu hHl
      generalize upS t = tu at hU hHu
      go_enter Tryd.func6, Tryd.ntmps6
      have HB := Lib.hid (Below.refl w.heap.size w)
      go_wp2_with (first
        | (go_at_call 9; refine (awake_calls _).mono ?_; rintro e w1 ⟨rfl, hb⟩; replace HB := Lib.hid (bt HB.out hb); clear hb)
        | (go_at_call 10; refine (hF _ (HL.out.below HB.out)).mono ?_; rintro e w1' ⟨rfl, rfl⟩))
      go_loopg [5, 6] l.length (fun gh v5 v6 wx => ∃ k : Nat, v6 = .int .i64 k ∧ k + gh = l.length ∧ Hid (OwnS wx w.heap.size v5 ((l.take k).map upS) ∧ Below w.heap.size w wx))
      case atStart => exact ⟨0, rfl, by omega, Lib.hid ⟨OwnS.new' _ rfl HB.out.size, below_al HB.out _⟩⟩
      case round =>
        clear HB
        obtain ⟨k, rfl, hk, HX⟩ := hrel
        by_cases hlt : k < l.length
        · obtain ⟨g, off, rfl, hy⟩ := HL.out k hlt
          have hcy : wr.cell? ⟨g, off + k, none⟩ = some (.string l[k]) := ((bcell HX.out.2).1 g _ (cell_lt hy)).trans hy
          have hUk := hUl wr k hlt
          have HE : Hid ((l.take (k + 1)).map upS = (l.take k).map upS ++ [upS l[k]]) := Lib.hid (by rw [List.take_succ_eq_append_getElem hlt, List.map_append]; rfl)
          change Calls Tryd.prog _ _ wr fun e w'' => e = .returned (.string (upS l[k])) ∧ Below wr.heap.size wr w'' at hUk
          generalize upS l[k] = x at hUk HE
          clear hy
          go_wp2_with (first
            | (go_at_call 21; refine hUk.mono ?_; rintro e w2 ⟨rfl, hb⟩; replace HX := Lib.hid (And.intro (HX.out.1.below hb) (bt HX.out.2 hb)); clear hb)
            | (at_builtin
               refine wpList_app rfl _ _ _ rfl u5 (.slice (some ⟨w2.heap.size, 0, none⟩) 1 1) (by rfl) (by rfl) (OwnS.app1 (HX.out.1.al _) _ w2.heap.size x (Blk.new' _ _ _ rfl) ?h2 ?h3) ?_
               case h2 => rw [List.length_map, List.length_take]; omega
               case h3 => exact (Nat.le_trans HX.out.2.size (below_alloc1 _ _).size)
               intro v2 w3 hF2
               have HF2 := Lib.hid (app_below HX.out hF2)
               clear hF2))
          go_roundg (l.length - (k + 1))
          case measure => omega
          case rel => exact ⟨k + 1, by go_num, by omega, Lib.hid (by rw [HE.out]; exact HF2.out)⟩
        · have hk' : k = l.length := by omega
          obtain ⟨A5, c5, hv, h1, h2, h4⟩ := HX.out.1.form
          have HB := Lib.hid HX.out.2
          have hlen : ((l.take k).map upS) = l.map upS := by rw [List.take_of_length_le (by omega)]
          rw [hlen, List.length_map] at hv
          rw [hlen] at h4
          have H4 := Lib.hid h4
          clear hlen h1 h2 h4 HX
          subst hv
          go_wp2_with (first
            | (at_builtin
               refine wpList_app rfl _ _ _ rfl (.slice (some ⟨_, 0, none⟩) 0 0) (.slice A l.length c) (by rfl) (by rfl) (copy_run _ c (HL.out.below HB.out) (by omega)) ?_
               intro v2 w2 hF2
               obtain ⟨⟨Ap, cp, rfl, hc1, hc2, hst⟩, -, hb⟩ := hF2
               replace HB := Lib.hid (bt HB.out hb)
               replace H4 := Lib.hid (H4.out.below hb)
               have Hp := Lib.hid hst
               clear hb hst hc1 hc2)
            | (go_at_call 13; ((with_reducible refine (hH _ _ _ Hp.out).mono ?_); rintro e w3 ⟨rfl, hb⟩; replace HB := Lib.hid (bt HB.out hb); replace H4 := Lib.hid (H4.out.below hb); clear hb Hp))
            | (go_at_call 13; ((with_reducible refine (hHu _ _ _ Hp.out).mono ?_); rintro e w4 ⟨rfl, hb⟩; replace HB := Lib.hid (bt HB.out hb); replace H4 := Lib.hid (H4.out.below hb); clear hb Hp))
            | (go_at_call 13; have hH5 := hHl _ _ c5 H4.out; rw [List.length_map] at hH5; refine hH5.mono ?_; rintro e w5 ⟨rfl, hb⟩; replace HB := Lib.hid (bt HB.out hb); clear hb)
            | (go_at_call 21; refine (hU _).mono ?_; rintro e w6 ⟨rfl, hb⟩; replace HB := Lib.hid (bt HB.out hb); replace H4 := Lib.hid (H4.out.below hb); clear hb))
          go_ret
          exact ⟨ret_bool (by simp), HB.out⟩
    · have hd : decide (300 < (t.size : Int)) = true := decide_eq_true (by omega)
      go_enter Tryd.func6, Tryd.ntmps6
      have HB := Lib.hid (Below.refl w.heap.size w)
      go_wp2_with (first
        | (go_at_call 9; refine (awake_calls _).mono ?_; rintro e w1 ⟨rfl, hb⟩; replace HB := Lib.hid (bt HB.out hb); clear hb)
        | (go_at_call 10; refine (hF _ (HL.out.below HB.out)).mono ?_; rintro e w1' ⟨rfl, rfl⟩))
      go_ret
      exact ⟨rfl, HB.out⟩
  · have hf2 : fewB l = false := by simpa using hfew
    rw [hf2] at hF
    clear hfew hf2
    go_enter Tryd.func6, Tryd.ntmps6
    have HB := Lib.hid (Below.refl w.heap.size w)
    go_wp2_with (first
      | (go_at_call 9; refine (awake_calls _).mono ?_; rintro e w1 ⟨rfl, hb⟩; replace HB := Lib.hid (bt HB.out hb); clear hb)
      | (go_at_call 10; refine (hF _ (HL.out.below HB.out)).mono ?_; rintro e w1' ⟨rfl, rfl⟩))
    go_ret
    exact ⟨rfl, HB.out⟩
end Go.Proofs.YtkhepfmllolokaaDoor
