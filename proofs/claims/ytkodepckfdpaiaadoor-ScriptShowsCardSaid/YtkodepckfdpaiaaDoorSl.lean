/- Show, by the program; conditions: the deeds lie in memory, within the types; the world holds what the library's numbers lean on. -/
import Derived.Test.YtkodepckfdpaiaaDoorSk
namespace Go.Proofs.YtkodepckfdpaiaaDoor
set_option linter.unusedSimpArgs false
set_option linter.unusedVariables false
open Go.RowKit
def dps (l : List Dd) : List Dp := l.map Dd.dp
def allOk (l : List Dd) : Bool := l.all fun d => checkD d.dp
/-- What Show answers. -/
def showV (l : List Dd) : Value := .tuple (if allOk l then #[.string (mk (allT (dps l))), .int .i64 0] else #[.string ⟨#[]⟩, .int .i64 201])
theorem showV_yes {l : List Dd} (h : allOk l = true) : showV l = .tuple #[.string (mk (allT (dps l))), .int .i64 0] := by unfold showV; rw [h]; rfl
theorem showV_no {l : List Dd} (h : allOk l = false) : showV l = .tuple #[.string ⟨#[]⟩, .int .i64 201] := by unfold showV; rw [h]; rfl
/-- While the texts are gathered. -/
structure SW (w : World) (l : List Dd) (k : Nat) (wx : World) : Prop where
  be : Below w.heap.size w wx
  bl : IsB w.heap.size w.heap.size (Lib.byteCells (allT (dps (l.take k)))) wx
  hs : w.heap.size + 1 ≤ wx.heap.size
  ok : ∀ d ∈ l.take k, checkD d.dp = true
theorem SW.below {w wx w1 : World} {l : List Dd} {k : Nat} (h : SW w l k wx) (hb : Below wx.heap.size wx w1) : SW w l k w1 := ⟨bt h.be hb, h.bl.below hb, Nat.le_trans h.hs hb.size, h.ok⟩
theorem text_len {d : Dp} (h : checkD d = true) : (textD d).length ≤ 20001 := by
  have := line_len h
  unfold textD
  rw [List.length_append, List.length_singleton]
  omega
theorem allT_len_le : ∀ r : List Dd, (∀ d ∈ r, checkD d.dp = true) → (allT (dps r)).length ≤ r.length * 20001
  | [], _ => by simp [dps, allT]
  | d :: r, h => by
    have h1 := allT_len_le r fun x hx => h x (.tail _ hx)
    have h2 := text_len (h d (.head _))
    have e1 : (allT (dps (d :: r))).length = (textD d.dp).length + (allT (dps r)).length := List.length_append
    rw [e1, List.length_cons, Nat.add_mul]
    omega
theorem allT_take_len (l : List Dd) (k : Nat) (h : ∀ d ∈ l.take k, checkD d.dp = true) : (allT (dps (l.take k))).length ≤ k * 20001 :=
  Nat.le_trans (allT_len_le _ h) (Nat.mul_le_mul_right _ (List.length_take_le _ _))
theorem sw_step {l : List Dd} {k : Nat} (h : k < l.length) : allT (dps (l.take (k + 1))) = allT (dps (l.take k)) ++ textD l[k].dp := by
  unfold allT dps
  rw [List.take_succ_eq_append_getElem h, List.map_append, List.flatMap_append, List.map_cons, List.map_nil, List.flatMap_cons, List.flatMap_nil, List.append_nil]
theorem strCells_mk (l : List UInt8) : Lib.strCells (mk l) = Lib.byteCells l := rfl
theorem byteCells_app (a b : List UInt8) : Lib.byteCells (a ++ b) = Lib.byteCells a ++ Lib.byteCells b := List.map_append
theorem push_ok {w wx w1 : World} {l : List Dd} {k : Nat} (h : SW w l k wx) (hk : k < l.length) (hc : checkD l[k].dp = true) (hb : Below w.heap.size wx w1) (hbl : IsB w.heap.size w.heap.size (Lib.byteCells (allT (dps (l.take k))) ++ Lib.strCells (mk (textD l[k].dp))) w1) : SW w l (k + 1) w1 :=
  ⟨h.be.trans hb, by rw [sw_step hk, byteCells_app, ← strCells_mk (textD l[k].dp)]; exact hbl, Nat.le_trans h.hs hb.size, fun d hd => by
    rw [List.take_succ_eq_append_getElem hk, List.mem_append, List.mem_singleton] at hd
    rcases hd with hd | rfl
    · exact h.ok d hd
    · exact hc⟩
set_option maxRecDepth 100000 in
set_option maxHeartbeats 600000 in
theorem Show_calls (A : Option Addr) (c : Nat) (l : List Dd) (w : World) (hl : l.length ≤ 10000) (hA : Dds w A l) (hin : ∀ d ∈ l, d.In) (he : Env w) :
    Calls Tryd.prog 13 #[.slice A l.length c] w fun e w' => e = .returned (showV l) ∧ Below w.heap.size w w' := by
  have HA := Lib.hid hA
  have HIN := Lib.hid hin
  have HEN := Lib.hid he
  clear hA hin he
  obtain ⟨W1, hW1⟩ : ∃ W1, W1 = w.alloc (.cells #[.pointer none, .slice none 0 0] 51 (0, 0)) := ⟨_, rfl⟩
  have HX0 : Hid (SW w l 0 W1) := Lib.hid ⟨hW1 ▸ below_alloc1 w _, hW1 ▸ Lib.fresh_isBuilder 51 5 w, by rw [hW1]; simp, fun d hd => by simp at hd⟩
  go_enter Tryd.func13, Tryd.ntmps13
  go_upto_region 2 with (fail)
  rw [← hW1]
  clear hW1
  go_wp2
  go_loopg [9] l.length (fun gh v9 wx => ∃ k : Nat, v9 = .int .i64 k ∧ k + gh = l.length ∧ Hid (SW w l k wx))
  case atStart => exact ⟨0, rfl, by omega, HX0⟩
  case round =>
    obtain ⟨k, rfl, hk, HX⟩ := hrel
    by_cases hlt : k < l.length
    · obtain ⟨b, off, rfl, h0, h1, h2, h3, h4, h5⟩ := (HA.out.below HX.out.be) k hlt
      have HD := Lib.hid (HIN.out l[k] (List.getElem_mem hlt))
      have hck := fun w' => Check_calls l[k] w' HD.out
      have htx := fun w' (h : checkD l[k].dp = true) (h2 : Env w') => text_calls l[k] w' h h2
      have hws : ∀ w' : World, checkD l[k].dp = true → IsB w.heap.size w.heap.size (Lib.byteCells (allT (dps (l.take k)))) w' → w.heap.size + 1 ≤ w'.heap.size → Calls Tryd.prog 23 #[.pointer (some ⟨w.heap.size, 0, none⟩), .string (mk (textD l[k].dp))] w' fun e w'' => e = .returned (.tuple #[.int .i64 (mk (textD l[k].dp)).size, .nilIface]) ∧ IsB w.heap.size w.heap.size (Lib.byteCells (allT (dps (l.take k))) ++ Lib.strCells (mk (textD l[k].dp))) w'' ∧ Below w.heap.size w' w'' := fun w' hd hi hs => by
        refine WriteString_calls w.heap.size w.heap.size _ _ w' hi ?_ (by omega)
        have h1 := allT_take_len l k HX.out.ok
        have h2 := line_len hd
        rw [Lib.byteCells_length, mk_size]
        unfold textD
        rw [List.length_append, List.length_singleton]
        have : k * 20001 ≤ 10000 * 20001 := Nat.mul_le_mul_right _ (by omega)
        omega
      have HPU : Hid (∀ {wx w1 : World}, SW w l k wx → checkD l[k].dp = true → Below w.heap.size wx w1 → IsB w.heap.size w.heap.size (Lib.byteCells (allT (dps (l.take k))) ++ Lib.strCells (mk (textD l[k].dp))) w1 → SW w l (k + 1) w1) := Lib.hid fun h hc hb hbl => push_ok h hlt hc hb hbl
      have HNO : Hid (checkD l[k].dp = false → allOk l = false) := Lib.hid fun h => by
        unfold allOk
        rw [List.all_eq_false]
        exact ⟨l[k], List.getElem_mem hlt, by rw [h]; decide⟩
      generalize mk (textD l[k].dp) = T at hws HPU htx
      generalize l[k] = d at *
      go_wp2_with (go_at_call 11; refine (hck _).mono ?_; rintro e w1 ⟨rfl, hb⟩; have HX1 := Lib.hid ((HX.out.below (below_alloc1 wr _)).below hb); have HAT := Lib.hid ((d.box (Blk.new' wr _ 27 rfl)).below hb); obtain ⟨f0, f1, f2, f3, f4, f5⟩ := HAT.out; clear hb; rcases hc : checkD d.dp with _ | _)
      · go_wp2
        go_ret2
        rw [showV_no (HNO.out hc)]
        exact ⟨rfl, HX1.out.be⟩
      · go_wp2_with (first
          | (go_at_call 24; refine (htx _ hc (HEN.out.below HX1.out.be)).mono ?_; rintro e w2 ⟨rfl, hb⟩; have HX2 := Lib.hid (HX1.out.below hb); clear hb)
          | (go_at_call 23; refine (hws _ hc HX2.out.bl HX2.out.hs).mono ?_; rintro e w3 ⟨rfl, hbl, hb⟩; have HX3 := Lib.hid (HPU.out HX2.out hc hb hbl); clear hb hbl))
        go_roundg (l.length - (k + 1))
        case measure => omega
        case rel => exact ⟨k + 1, by go_num, by omega, HX3⟩
    · have hke : k = l.length := by omega
      have HBL := HX.out.bl
      rw [hke, List.take_length] at HBL
      have hst := Tryd.Builder_String_any w.heap.size w.heap.size (allT (dps l)) wr HBL HX.out.be.size
      have HOK : Hid (allOk l = true) := Lib.hid (by
        unfold allOk
        rw [List.all_eq_true]
        have := HX.out.ok
        rw [hke, List.take_length] at this
        exact this)
      have HBE := Lib.hid HX.out.be
      have HSY := Lib.hid (showV_yes HOK.out)
      clear HBL HX
      generalize allT (dps l) = X at hst HSY
      go_wp2_with (go_at_call 25; refine hst.mono ?_; rintro e w3 ⟨rfl, hb⟩; have HB3 := Lib.hid (HBE.out.trans hb); clear hb)
      go_ret2
      rw [HSY.out]
      exact ⟨rfl, HB3.out⟩
end Go.Proofs.YtkodepckfdpaiaaDoor
