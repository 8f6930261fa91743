/- pendentiveref06.Lists and Has: the document's tokens of lists, and whether they have one; conditions: the slice can be read, and at most some 900000 bytes. -/
import Derived.Test.YtkhepfmllolokaaDoorNh
namespace Go.Proofs.YtkhepfmllolokaaDoor
set_option linter.unusedSimpArgs false
set_option linter.unusedVariables false
open Go.RowKit
def RLP (w : World) (l : List ByteArray) (e : Ending) (w' : World) : Prop := Below w.heap.size w w' ∧
  ((∃ r A' c', listB (bss l) = some (bss r) ∧ e = .returned (.tuple #[.slice A' r.length c', .bool true]) ∧ r.length ≤ c' ∧ c' ≤ maxLen ∧ Strs w' A' r) ∨ (listB (bss l) = none ∧ e = .returned (.tuple #[.slice none 0 0, .bool false])))
theorem listB_take (l : List ByteArray) (k : Nat) (h : k < l.length) : listB (bss (l.take (k + 1))) = (listB (bss (l.take k))).bind fun x => (listB [bs l[k]]).map (x ++ ·) := by
  rw [List.take_succ_eq_append_getElem h, show bss (l.take k ++ [l[k]]) = bss (l.take k) ++ [bs l[k]] by simp only [bss, List.map_append, List.map_cons, List.map_nil], listB_app]
theorem listB_no (l : List ByteArray) (k : Nat) (h : k < l.length) (hn : listB (bss (l.take (k + 1))) = none) : listB (bss l) = none := by
  have e : bss l = bss (l.take (k + 1)) ++ bss (l.drop (k + 1)) := by rw [← List.map_append, List.take_append_drop]
  rw [e, listB_app, hn]; rfl
set_option maxHeartbeats 2000000 in
theorem refLists_calls (A : Option Addr) (l : List ByteArray) (c : Nat) (w : World) (hl : cntB l ≤ 900000) (hm : l.length ≤ maxLen) (hs : ∀ s ∈ l, s.size ≤ 900000) (hA : Strs w A l) :
    Calls Tryd.prog 12 #[.slice A l.length c] w (RLP w l) := by
  unfold maxLen at hm
  go_enter Tryd.func12, Tryd.ntmps12
  go_wp2
  have HA := Lib.hid hA; clear hA
  go_loopg [4, 5] l.length (fun gh v4 v5 wx => ∃ (i : Nat) (out : List ByteArray), v5 = .int .i64 i ∧ i + gh = l.length ∧ Hid (listB (bss (l.take i)) = some (bss out)) ∧ Hid (OwnS wx w.heap.size v4 out ∧ Below w.heap.size w wx))
  case atStart => exact ⟨0, [], rfl, by omega, Lib.hid rfl, Lib.hid ⟨OwnS.new' w rfl (Nat.le_refl _), below_alloc1 w _⟩⟩
  case round =>
    obtain ⟨i, out, rfl, hi, hg, hx⟩ := hrel
    by_cases hlt : i < l.length
    · obtain ⟨b, off, rfl, h0⟩ := HA.out i hlt
      have hc : wr.cell? ⟨b, off + i, none⟩ = some (.string l[i]) := ((bcell hx.out.2).1 b _ (cell_lt h0)).trans h0
      have hsk : l[i].size ≤ 900000 := hs _ (List.getElem_mem _)
      have hR := refList_calls l[i] wr hsk
      clear h0
      cases h : listB [bs l[i]] with
      | none =>
        have HN := Lib.hid (listB_no l i hlt (by rw [listB_take l i hlt, h, hg.out]; rfl))
        have fin : ∀ (e : Ending) (w' : World), RP wr l[i] e w' → e = .returned (.tuple #[.slice none 0 0, .bool false]) ∧ Hid (Below wr.heap.size wr w') := fun e w' ⟨hb, hr⟩ => by
          rcases hr with ⟨r, A', c', h1, _⟩ | ⟨_, h2⟩
          · rw [h] at h1; cases h1
          · exact ⟨h2, Lib.hid hb⟩
        replace hR := hR.mono fin
        clear h fin
        go_wp2_with (go_at_call 25; refine hR.mono ?_; clear hR; rintro e w' ⟨rfl, hb⟩)
        go_ret2
        exact ⟨bt hx.out.2 (hb.out), .inr ⟨HN.out, rfl⟩⟩
      | some r0 =>
        obtain ⟨r, rfl⟩ : ∃ r : List ByteArray, r0 = bss r := ⟨r0.map mk, by simp [bss, Function.comp_def, bs_mk]⟩
        have HN : Hid (listB (bss (l.take (i + 1))) = some (bss (out ++ r))) := Lib.hid (by rw [listB_take l i hlt, h, hg.out]; simp [bss])
        have hol : out.length + r.length ≤ 1000000 := by
          have h1 := listB_len HN.out
          have h2 := cnt_le l (i + 1)
          rw [List.length_append] at h1
          omega
        have fin : ∀ (e : Ending) (w' : World), RP wr l[i] e w' → ∃ A' c', e = .returned (.tuple #[.slice A' r.length c', .bool true]) ∧ Hid (Strs w' A' r ∧ Below wr.heap.size wr w') := fun e w' ⟨hb, hr⟩ => by
          rcases hr with ⟨r', A', c', h1, h2, h3, h4, h5, h6⟩ | ⟨h2, _⟩
          · rw [h] at h1
            have := bss_inj (Option.some.inj h1)
            subst this
            exact ⟨A', c', h2, Lib.hid ⟨h6, hb⟩⟩
          · rw [h] at h2; cases h2
        replace hR := hR.mono fin
        clear h fin
        go_wp2_with (first
          | (go_at_call 25; refine hR.mono ?_; clear hR; rintro e w' ⟨A', c', rfl, hb⟩)
          | (at_builtin
             refine wpList_app rfl _ _ _ rfl u4 (.slice A' r.length c') (by rfl) (by rfl) (OwnS.app (hx.out.1.below hb.out.2) _ A' r c' hb.out.1 hol ?h3) ?_
             case h3 => exact Nat.le_trans hx.out.2.size hb.out.2.size
             intro v2 w2 hF
             have HF := Lib.hid (And.intro hF.1 hF.2.1)
             clear hF))
        go_roundg (l.length - (i + 1))
        case measure => omega
        case rel => exact ⟨i + 1, out ++ r, by go_num, by omega, HN, Lib.hid ⟨HF.out.1, (bt hx.out.2 hb.out.2).trans HF.out.2⟩⟩
    · have hi2 : i = l.length := by omega
      have hg2 := hg.out
      rw [hi2, List.take_length] at hg2
      obtain ⟨A', c', hv, h1, h2, h3⟩ := hx.out.1.form
      have HG := Lib.hid (And.intro hg2 (And.intro h1 (And.intro h2 (And.intro h3 hx.out.2))))
      clear hg hg2 h1 h2 h3
      subst hv
      go_wp2
      go_ret2
      exact ⟨HG.out.2.2.2.2, .inl ⟨out, A', c', HG.out.1, rfl, HG.out.2.1, HG.out.2.2.1, HG.out.2.2.2.1⟩⟩
set_option maxHeartbeats 2000000 in
theorem refHas_calls (t : ByteArray) (A : Option Addr) (l : List ByteArray) (c : Nat) (w : World) (ht : t.size ≤ maxLen) (hl : cntB l ≤ 900000) (hm : l.length ≤ maxLen) (hs : ∀ s ∈ l, s.size ≤ 900000) (hA : Strs w A l) :
    Calls Tryd.prog 14 #[.string t, .slice A l.length c] w fun e w' => e = .returned (.bool (hasN (bs t) (listB (bss l)))) ∧ Below w.heap.size w w' := by
  have hR := refLists_calls A l c w hl hm hs hA
  cases h : listB (bss l) with
  | none =>
    have fin : ∀ (e : Ending) (w' : World), RLP w l e w' → e = .returned (.tuple #[.slice none 0 0, .bool false]) ∧ Hid (Below w.heap.size w w') := fun e w' ⟨hb, hr⟩ => by
      rcases hr with ⟨r, A', c', h1, _⟩ | ⟨_, h2⟩
      · rw [h] at h1; cases h1
      · exact ⟨h2, Lib.hid hb⟩
    replace hR := hR.mono fin
    clear h fin hA
    go_enter Tryd.func14, Tryd.ntmps14
    go_wp2_with (go_at_call 12; refine hR.mono ?_; clear hR; rintro e w' ⟨rfl, hb⟩)
    go_loopg [7] 0 (fun gh v7 wx => v7 = .int .i64 0 ∧ wx = w')
    case atStart => exact ⟨rfl, rfl⟩
    case round =>
      obtain ⟨rfl, rfl⟩ := hrel
      go_wp2
      go_ret
      exact ⟨rfl, hb.out⟩
  | some r0 =>
    obtain ⟨r, rfl⟩ : ∃ r : List ByteArray, r0 = bss r := ⟨r0.map mk, by simp [bss, Function.comp_def, bs_mk]⟩
    have hrs : ∀ s ∈ r, s.size ≤ maxLen := fun s hs' => Nat.le_trans (listB_sizes h hs s hs') (by unfold maxLen; omega)
    have hrl : r.length ≤ 900000 := Nat.le_trans (listB_len h) hl
    have fin : ∀ (e : Ending) (w' : World), RLP w l e w' → ∃ A' c', e = .returned (.tuple #[.slice A' r.length c', .bool true]) ∧ Hid (Strs w' A' r ∧ Below w.heap.size w w') := fun e w' ⟨hb, hr⟩ => by
      rcases hr with ⟨r', A', c', h1, h2, h3, h4, h6⟩ | ⟨h2, _⟩
      · rw [h] at h1
        have := bss_inj (Option.some.inj h1)
        subst this
        exact ⟨A', c', h2, Lib.hid ⟨h6, hb⟩⟩
      · rw [h] at h2; cases h2
    replace hR := hR.mono fin
    rw [hasN_some]
    have HS := Lib.hid hrs
    clear h fin hA hrs
    go_enter Tryd.func14, Tryd.ntmps14
    go_wp2_with (go_at_call 12; refine hR.mono ?_; clear hR; rintro e w' ⟨A', c', rfl, hb⟩)
    go_loopg [7] r.length (fun gh v7 wx => ∃ k : Nat, v7 = .int .i64 k ∧ k + gh = r.length ∧ Hid ((r.take k).any (fun s => sameB (bs s) (bs t)) = false) ∧ Hid (Drawn w' wx))
    case atStart => exact ⟨0, rfl, by omega, Lib.hid rfl, Lib.hid (Drawn.refl _)⟩
    case round =>
      obtain ⟨k, rfl, hk, hall, hd⟩ := hrel
      by_cases hlt : k < r.length
      · obtain ⟨b, off, rfl, h1⟩ := hb.out.1 k hlt
        have h2 : wr.cell? ⟨b, off + k, none⟩ = some (.string r[k]) := (hd.out.cell _).trans h1
        have hfk := refSame_calls r[k] t wr (HS.out _ (List.getElem_mem _)) ht
        clear h1
        cases hin : sameB (bs r[k]) (bs t)
        all_goals
          have HI := Lib.hid hin
          rw [hin] at hfk
          clear hin
          go_wp2_with (go_at_call 29; refine hfk.mono ?_; rintro e w'' ⟨rfl, m, hw⟩; have HW := Lib.hid hw; clear hw)
          first
            | (go_ret
               exact ⟨ret_bool (any_yes r k hlt HI.out).symm, by rw [HW.out]; obtain ⟨n, e⟩ := (hd.out.more m).out; rw [e]; exact below_drewN hb.out.2 _⟩)
            | (go_roundg (r.length - (k + 1))
               case measure => omega
               case rel => exact ⟨k + 1, by go_num, by omega, Lib.hid (by rw [any_take r k hlt, hall.out, HI.out]; rfl), Lib.hid (by rw [HW.out]; exact hd.out.more m)⟩)
      · have hall' := hall.out
        rw [List.take_of_length_le (by omega)] at hall'
        have HE := Lib.hid hall'; clear hall' hall
        go_wp2
        go_ret
        exact ⟨ret_bool HE.out.symm, by obtain ⟨n, e⟩ := hd.out.out; rw [e]; exact below_drewN hb.out.2 _⟩
end Go.Proofs.YtkhepfmllolokaaDoor
