/- Deeds as a text, by the document: Line whole, and Show; conditions: the deeds lie in memory, as many as a machine can hold. -/
import Derived.Test.YtkodepckfdpaiaaDoorTc
import Derived.Test.YtkodepckfdpaiaaDoorTh
import Derived.Test.YtkodepckfdpaiaaDoorSl
namespace Go.Proofs.YtkodepckfdpaiaaDoor
set_option linter.unusedSimpArgs false
set_option linter.unusedVariables false
open Go.RowKit
theorem refLine_calls (d : Dd) (w : World) (h : checkD d.dp = true) :
    Calls Tryd.prog 26 #[d.val] w fun e w' => e = .returned (.string (mk (textD d.dp))) ∧ Below w.heap.size w w' := by
  have hb := bnd_of h
  obtain ⟨wh, hw, _⟩ := check_parts h
  obtain ⟨k, i, s, n, q, y⟩ := d
  rcases what_k hw with ⟨hk, _⟩ | ⟨hk, _⟩ | ⟨hk, _⟩ | ⟨hk, _⟩ | ⟨hk, _⟩ | ⟨hk, _⟩ | ⟨hk, _⟩
  · obtain rfl : k = ⟨#[97, 99, 99, 101, 112, 116]⟩ := bs_inj (hk.trans rfl)
    exact refLine_accept i s n q y w hb
  · obtain rfl : k = ⟨#[102, 101, 101, 100]⟩ := bs_inj (hk.trans rfl)
    exact refLine_feed i s n q y w hb
  · obtain rfl : k = ⟨#[116, 97, 107, 101]⟩ := bs_inj (hk.trans rfl)
    exact refLine_take i s n q y w hb
  · obtain rfl : k = ⟨#[100, 105, 97, 108, 101, 100]⟩ := bs_inj (hk.trans rfl)
    cases q
    · exact refLine_dialed_no i s n y w hb
    · exact refLine_dialed_yes i s n y w hb
  · obtain rfl : k = ⟨#[116, 105, 99, 107]⟩ := bs_inj (hk.trans rfl)
    exact refLine_tick i s n q y w hb
  · obtain rfl : k = ⟨#[108, 111, 115, 101]⟩ := bs_inj (hk.trans rfl)
    exact refLine_lose i s n q y w hb
  · obtain rfl : k = ⟨#[115, 116, 97, 116, 101]⟩ := bs_inj (hk.trans rfl)
    exact refLine_state i s n q y w hb
/-- What the document's Show answers. -/
def refV (l : List Dd) : Value := .tuple (if allOk l then #[.string (mk (allT (dps l))), .bool true] else #[.string ⟨#[]⟩, .bool false])
theorem refV_yes {l : List Dd} (h : allOk l = true) : refV l = .tuple #[.string (mk (allT (dps l))), .bool true] := by unfold refV; rw [h]; rfl
theorem refV_no {l : List Dd} (h : allOk l = false) : refV l = .tuple #[.string ⟨#[]⟩, .bool false] := by unfold refV; rw [h]; rfl
/-- While the document gathers the texts. -/
structure RW (w : World) (l : List Dd) (k : Nat) (t : ByteArray) (wx : World) : Prop where
  be : Below w.heap.size w wx
  tx : bs t = allT (dps (l.take k))
  ok : ∀ d ∈ l.take k, checkD d.dp = true
set_option maxRecDepth 100000 in
set_option maxHeartbeats 800000 in
theorem refShow_calls (A : Option Addr) (c : Nat) (l : List Dd) (w : World) (hl : l.length ≤ 2200000000000) (hA : Dds w A l) :
    Calls Tryd.prog 14 #[.slice A l.length c] w fun e w' => e = .returned (refV l) ∧ Below w.heap.size w w' := by
  have HA := Lib.hid hA
  clear hA
  go_enter Tryd.func14, Tryd.ntmps14
  go_wp2
  go_loopg [4, 5] l.length (fun gh v4 v5 wx => ∃ (k : Nat) (t : ByteArray), v4 = .string t ∧ v5 = .int .i64 k ∧ k + gh = l.length ∧ t.size ≤ k * 20001 ∧ Hid (RW w l k t wx))
  case atStart => exact ⟨0, ⟨#[]⟩, rfl, rfl, by omega, Nat.le_refl _, Lib.hid ⟨Below.refl _ _, rfl, fun d hd => by simp at hd⟩⟩
  case round =>
    obtain ⟨k, t, rfl, rfl, hk, ht, HX⟩ := hrel
    have HTZ := Lib.hid ht
    have hts : t.size ≤ 50000000000000000 := by omega
    clear ht
    by_cases hlt : k < l.length
    · obtain ⟨b, off, rfl, h0, h1, h2, h3, h4, h5⟩ := HA.out.below HX.out.be k hlt
      have hck := fun w' => refCheck_calls l[k] w'
      have hln := fun w' (h : checkD l[k].dp = true) => refLine_calls l[k] w' h
      have HNO : Hid (checkD l[k].dp = false → refV l = .tuple #[.string ⟨#[]⟩, .bool false]) := Lib.hid fun h => refV_no (by
        unfold allOk
        rw [List.all_eq_false]
        exact ⟨l[k], List.getElem_mem hlt, by rw [h]; decide⟩)
      have HPU : Hid (checkD l[k].dp = true → ∀ w1, Below w.heap.size w w1 → RW w l (k + 1) (t ++ mk (textD l[k].dp)) w1) := Lib.hid fun h w1 hb => ⟨hb, by
        rw [bs_app, HX.out.tx, bs_mk, sw_step hlt], fun d hd => by
        rw [List.take_succ_eq_append_getElem hlt, List.mem_append, List.mem_singleton] at hd
        rcases hd with hd | rfl
        · exact HX.out.ok d hd
        · exact h⟩
      have hTz : checkD l[k].dp = true → (mk (textD l[k].dp)).size ≤ 20001 := fun h => by rw [mk_size]; exact text_len h
      generalize mk (textD l[k].dp) = T at *
      generalize l[k] = d at *
      rcases hc : checkD d.dp with _ | _
      · have HN := Lib.hid (HNO.out hc)
        rw [hc] at hck
        clear hTz hln
        go_wp2_with (go_at_call 12; refine (hck _).mono ?_; rintro e w1 ⟨rfl, hb⟩; have HB1 := Lib.hid (bt HX.out.be hb); clear hb)
        go_ret2
        rw [HN.out]
        exact ⟨rfl, HB1.out⟩
      · have hz := hTz hc
        rw [hc] at hck
        have hln2 := fun w' => hln w' hc
        have HP := Lib.hid (HPU.out hc)
        clear hTz hln HNO HPU
        go_wp2_with (first
          | (go_at_call 12; refine (hck _).mono ?_; rintro e w1 ⟨rfl, hb⟩; have HB1 := Lib.hid (bt HX.out.be hb); have h0 := ((bcell hb).1 _ _ (cell_lt h0)).trans h0; have h1 := ((bcell hb).1 _ _ (cell_lt h1)).trans h1; have h2 := ((bcell hb).1 _ _ (cell_lt h2)).trans h2; have h3 := ((bcell hb).1 _ _ (cell_lt h3)).trans h3; have h4 := ((bcell hb).1 _ _ (cell_lt h4)).trans h4; have h5 := ((bcell hb).1 _ _ (cell_lt h5)).trans h5; clear hb)
          | (go_at_call 26; refine (hln2 _).mono ?_; rintro e w2 ⟨rfl, hb⟩; have HB2 := Lib.hid (bt HB1.out hb); clear hb))
        go_roundg (l.length - (k + 1))
        case measure => omega
        case rel => exact ⟨k + 1, t ++ T, rfl, by go_num, by omega, by rw [ByteArray.size_append]; have := HTZ.out; omega, Lib.hid (HP.out _ HB2.out)⟩
    · have hke : k = l.length := by omega
      have HOK : Hid (allOk l = true) := Lib.hid (by
        unfold allOk
        rw [List.all_eq_true]
        have := HX.out.ok
        rw [hke, List.take_length] at this
        exact this)
      have HT : Hid (t = mk (allT (dps l))) := Lib.hid (bs_inj (by
        have := HX.out.tx
        rw [hke, List.take_length] at this
        rw [this, bs_mk]))
      have HSY := Lib.hid (refV_yes HOK.out)
      go_wp2
      go_ret2
      rw [HSY.out, ← HT.out]
      exact ⟨rfl, HX.out.be⟩
end Go.Proofs.YtkodepckfdpaiaaDoor
