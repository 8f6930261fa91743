/- A deed's text, by the program; conditions: the deed has one; the world holds what the library's numbers lean on. -/
import Derived.Test.YtkodepckfdpaiaaDoorSi
import Derived.Maps.Own
namespace Go.Proofs.YtkodepckfdpaiaaDoor
set_option linter.unusedSimpArgs false
set_option linter.unusedVariables false
open Go.RowKit
structure App1 (base : Nat) (w : World) (ys : List ByteArray) (t : ByteArray) (v' : Value) (w' : World) : Prop where
  own : OwnS w' base v' (ys ++ [t])
  be : Below base w w'
theorem OwnS.app1s {w : World} {base : Nat} {v : Value} {ys : List ByteArray} (h : OwnS w base v ys) (ty : TypeId) (g : Nat) (t : ByteArray) {tt : TypeId} (hg : Blk w g #[.string t] tt) (hn : ys.length + 1 ≤ 1000000) (hbase : base ≤ w.heap.size) :
    ∃ v' w', (Builtin.append_ #[69, 69] ty #[v, .slice (some ⟨g, 0, none⟩) 1 1]).run Tryd.prog w = .ok v' w' ∧ App1 base w ys t v' w' := by
  obtain ⟨v', w', h1, h2, h3, _⟩ := OwnS.app h ty (some ⟨g, 0, none⟩) [t] 1 (strs_blk1 hg) (by simpa using hn) hbase
  exact ⟨v', w', h1, h2, h3⟩
/-- The parts of a line, so far. -/
def partsD (d : Dd) (wh : ByteArray) (k : Nat) : List ByteArray := d.k :: ((bs wh).take k).map fun c => mk (fieldD d.dp c)
theorem parts_len (d : Dd) (wh : ByteArray) (k : Nat) : (partsD d wh k).length ≤ wh.size + 1 := by
  unfold partsD
  rw [List.length_cons, List.length_map, List.length_take, bs_length]
  omega
theorem parts_succ (d : Dd) (wh : ByteArray) (k : Nat) (h : k < wh.size) : partsD d wh (k + 1) = partsD d wh k ++ [mk (fieldD d.dp wh[k])] := by
  unfold partsD
  rw [List.take_succ_eq_append_getElem (by rw [bs_length]; exact h), List.map_append, ← List.cons_append]
  rfl
theorem fld_i (d : Dd) : fieldD d.dp 105 = Lib.itoa d.i := rfl
theorem fld_s (d : Dd) : fieldD d.dp 115 = Lib.itoa d.s := rfl
theorem fld_n (d : Dd) : fieldD d.dp 110 = Lib.itoa d.n := rfl
theorem fld_d (d : Dd) : fieldD d.dp 100 = hexB (bs d.d) := rfl
theorem fld_o (d : Dd) : fieldD d.dp 111 = Lib.itoa (if d.o then 1 else 0) := by
  show (if d.o then [49] else [48]) = _
  cases d.o
  · have := itoa_nat 0
    rw [show ((0 : Nat) : Int) = 0 from rfl] at this
    simp only [Bool.false_eq_true, if_false]
    rw [this, Lib.decDigits, dif_pos (by decide)]; rfl
  · have := itoa_nat 1
    rw [show ((1 : Nat) : Int) = 1 from rfl] at this
    simp only [if_true]
    rw [this, Lib.decDigits, dif_pos (by decide)]; rfl
/-- The map literal of a truth, by way of the library's own words for maps. -/
theorem bool_map (w : World) : ∃ w2, Below w.heap.size w w2 ∧ (Instr.mapUpdate 70 (.map (some w.heap.size)) (.bool true) (.int .i64 1)).run Tryd.prog (w.alloc (.map #[] 0)) = .ok () w2
    ∧ ∀ b : Bool, (Instr.lookup 70 (.map (some w.heap.size)) (.bool b) false).run Tryd.prog w2 = .ok (.int .i64 (if b then 1 else 0)) w2 := by
  have K : Maps.Keyed Tryd.prog 4 := Maps.bool_keyed Tryd.underlying4
  have h0 := World.ownsMap_made (H := Unit) w Tryd.prog 4 (plainElem Tryd.prog 3)
  obtain ⟨w2, hr, ho, hg⟩ := h0.update K Tryd.underlying70 (by decide) (key := .bool true) (val := .int .i64 1) (Maps.keyOf_bool_mk Tryd.underlying4 true) (plainElem_int Tryd.underlying3 (by decide))
  refine ⟨w2, (below_alloc1 w _).grown hg (below_alloc1 w _).size (fun j hj => by cases hj; exact Nat.le_refl _), hr, fun b => ?_⟩
  obtain ⟨c, hl, ha, _⟩ := ho.lookup_int K Tryd.underlying70 Tryd.underlying3 (by kernel_rfl) (Maps.keyOf_bool_mk Tryd.underlying4 b)
  rw [hl]
  cases b
  · have e : (DataW.lit (.int .i64 0) : DataW Unit) = .lit (.int .i64 c) := Eq.trans (by rfl) ha
    cases e; rfl
  · have e : (DataW.lit (.int .i64 1) : DataW Unit) = .lit (.int .i64 c) := Eq.trans (by rfl) ha
    cases e; rfl
/-- While the parts are gathered. -/
structure TX (w : World) (d : Dd) (N : Nat) (v : Value) (l : List ByteArray) (wx : World) : Prop where
  be : Below w.heap.size w wx
  bx : d.At wx N
  ow : OwnS wx (w.heap.size + 1) v l
  hN : N = w.heap.size
  hs : w.heap.size + 1 ≤ wx.heap.size
theorem TX.below {w wx w1 : World} {d : Dd} {N : Nat} {v : Value} {l : List ByteArray} (h : TX w d N v l wx) (hb : Below wx.heap.size wx w1) : TX w d N v l w1 := ⟨bt h.be hb, h.bx.below hb, h.ow.below hb, h.hN, Nat.le_trans h.hs hb.size⟩
theorem TX.al {w wx : World} {d : Dd} {N : Nat} {v : Value} {l : List ByteArray} (h : TX w d N v l wx) (o : Obj) : TX w d N v l (wx.alloc o) := h.below (below_alloc1 _ _)
theorem TX.push {w wx w1 : World} {d : Dd} {N : Nat} {v v' : Value} {l : List ByteArray} {t : ByteArray} (h : TX w d N v l wx) (hF : App1 (w.heap.size + 1) wx l t v' w1) : TX w d N v' (l ++ [t]) w1 := by
  have hN := h.hN
  have hc := (bcell hF.be).1
  refine ⟨h.be.trans (hF.be.mono (by omega)), ?_, hF.own, hN, Nat.le_trans h.hs hF.be.size⟩
  exact ⟨(hc N _ (by omega)).trans h.bx.f0, (hc N _ (by omega)).trans h.bx.f1, (hc N _ (by omega)).trans h.bx.f2, (hc N _ (by omega)).trans h.bx.f3, (hc N _ (by omega)).trans h.bx.f4, (hc N _ (by omega)).trans h.bx.f5⟩
theorem OwnS.new1 (w : World) (k : ByteArray) {g base : Nat} (hg : g = w.heap.size) (hb : base ≤ w.heap.size) : OwnS (w.alloc (.cells #[.string k] 9 (0, 0))) base (.slice (some ⟨g, 0, none⟩) 1 1) [k] := by
  subst hg; exact World.ownsRow_lit w #[.string k] 1 hb (by decide) rfl
theorem join_calls (A : Option Addr) (c : Nat) (xs : List ByteArray) (w : World) (hc : xs.length ≤ c) (h : Strs w A xs) (hl : (Lib.join (xs.map bs) [32]).length ≤ 20000) (hne : xs ≠ []) (hn : xs.length ≤ 100000) :
    Calls Tryd.prog 38 #[.slice A xs.length c, .string ⟨#[32]⟩] w fun e w' => e = .returned (.string (mk (Lib.join (xs.map bs) [32]))) ∧ Below w.heap.size w w' := by
  obtain ⟨b, off, rfl, hc0⟩ := h 0 (List.length_pos_iff.2 hne)
  refine Tryd.strings_Join b off c xs ⟨#[32]⟩ w (fun j x hx => ?_) (cell_lt hc0) (by omega) hc (Nat.le_trans hl (by decide))
  obtain ⟨hj, rfl⟩ := List.getElem?_eq_some_iff.1 hx
  obtain ⟨b', off', e, hcj⟩ := h j hj
  cases e
  exact hcj
set_option maxRecDepth 100000 in
set_option maxHeartbeats 600000 in
theorem text_calls (d : Dd) (w : World) (hd : checkD d.dp = true) (he : Env w) :
    Calls Tryd.prog 24 #[d.val] w fun e w' => e = .returned (.string (mk (textD d.dp))) ∧ Below w.heap.size w w' := by
  obtain ⟨W1, hW1⟩ : ∃ W1, W1 = w.alloc (.cells d.cells 27 (0, 0)) := ⟨_, rfl⟩
  have HB0 : Hid (Below w.heap.size w W1) := Lib.hid (hW1 ▸ below_alloc1 w _)
  have HAT : Hid (d.At W1 w.heap.size) := Lib.hid (d.box (hW1 ▸ Blk.new' w _ 27 rfl))
  have HS1 : Hid (w.heap.size + 1 ≤ W1.heap.size) := Lib.hid (by rw [hW1]; simp)
  have HEN := Lib.hid he
  obtain ⟨hbi, hbs, hbn, hbd⟩ := check_bounds hd
  have hbi1 : 0 ≤ d.i := hbi.1
  have hbi2 : d.i ≤ 1000000 := hbi.2
  have hbs1 : 0 ≤ d.s := hbs.1
  have hbs2 : d.s ≤ 1 := hbs.2
  have hbn1 : 0 ≤ d.n := hbn.1
  have hbn2 : d.n ≤ 1000000 := hbn.2
  clear hbi hbs hbn
  have hdz : d.d.size ≤ 100000 := by have : (bs d.d).length ≤ 2048 := hbd; rw [bs_length] at this; omega
  obtain ⟨wh', hwh, _⟩ := check_parts hd
  obtain ⟨hw3, hw6, hwl⟩ := what_letters hwh
  have hhas := fun w => has_calls d.k w
  have hwh' : whatOf (bs d.k) = some wh' := hwh
  rw [hwh', Option.getD_some] at hhas
  obtain ⟨wh, hwhe⟩ : ∃ wh, wh = mk wh' := ⟨_, rfl⟩
  rw [← hwhe] at hhas
  have hbw : bs wh = wh' := by rw [hwhe, bs_mk]
  have hws : wh.size ≤ 3 := by rw [← bs_length, hbw]; exact hw3
  have HLJ := Lib.hid (line_join d.dp wh' hwh)
  have HLL := Lib.hid (line_len hd)
  have HWL : Hid (∀ (k : Nat) (h : k < wh.size), wh[k] = 105 ∨ wh[k] = 115 ∨ wh[k] = 110 ∨ wh[k] = 100 ∨ wh[k] = 111) := Lib.hid fun k h => by
    refine hwl _ ?_
    rw [← hbw]
    exact List.mem_of_getElem? (bs_get? wh k h)
  have HBW := Lib.hid hbw
  clear hwh hwh' hwl hw3 hw6 hbw hwhe hd he hbd
  obtain ⟨f0, f1, f2, f3, f4, f5⟩ := HAT.out
  have HPL := Lib.hid (parts_len d wh)
  have HPS0 := Lib.hid (parts_succ d wh)
  have HP0 : Hid (partsD d wh 0 = [d.k]) := Lib.hid (by simp [partsD])
  have HPE : Hid (partsD d wh wh.size = d.k :: (bs wh).map fun c => mk (fieldD d.dp c)) := Lib.hid (by
    unfold partsD
    rw [List.take_of_length_le (by rw [bs_length]; exact Nat.le_refl _)])
  go_enter Tryd.func24, Tryd.ntmps24
  go_upto_region 1 with (fail)
  rw [← hW1]
  clear hW1
  go_wp2_with (go_at_call 19; refine (hhas _).mono ?_; clear f0 f1 f2 f3 f4 f5; rintro e w1 ⟨rfl, hb⟩; have HB1 := Lib.hid (bt HB0.out hb); have HAT1 := Lib.hid (HAT.out.below hb); have HS2 := Lib.hid (Nat.le_trans HS1.out hb.size); obtain ⟨f0, f1, f2, f3, f4, f5⟩ := HAT1.out; clear hb)
  go_loopg [5, 18] wh.size (fun gh v5 v18 wx => ∃ k : Nat, v18 = .int .i64 k ∧ k + gh = wh.size ∧ Hid (TX w d w.heap.size v5 (partsD d wh k) wx))
  case atStart => exact ⟨0, rfl, by omega, Lib.hid (by rw [HP0.out]; exact ⟨below_al HB1.out _, HAT1.out.below (below_alloc1 _ _), OwnS.new1 w1 d.k rfl HS2.out, rfl, Nat.le_trans HS2.out (below_alloc1 _ _).size⟩)⟩
  case round =>
    clear f0 f1 f2 f3 f4 f5 HAT HAT1 HB0 HB1 HS1 HS2 hhas
    obtain ⟨k, rfl, hk, HX⟩ := hrel
    obtain ⟨f0, f1, f2, f3, f4, f5⟩ := HX.out.bx
    by_cases hlt : k < wh.size
    · have HPS := Lib.hid (HPS0.out k hlt)
      have HLN := Lib.hid (HPL.out k)
      rcases HWL.out k hlt with hc | hc | hc | hc | hc
      · have e105 : ((wh[k].toNat : Int) == 105) = true := by rw [hc]; rfl
        rw [hc] at HPS
        clear hc
        have HFL : Hid (fieldD d.dp 105 = Lib.itoa d.i) := Lib.hid (fld_i d)
        have hit := fun (w' : World) (h : Env w') => Itoa_calls d.i w' (by omega) (by omega) h
        generalize Lib.itoa d.i = X at HFL hit
        go_wp2_with (first
          | (go_at_call 30; refine (hit _ (HEN.out.below HX.out.be)).mono ?_; rintro e w3 ⟨rfl, hb⟩; have HX2 := Lib.hid (HX.out.below hb); clear hb)
          | (at_builtin
             refine wpList_app rfl _ _ _ rfl u5 (.slice (some ⟨w3.heap.size, 0, none⟩) 1 1) (by rfl) (by rfl) (OwnS.app1s (HX2.out.al (.cells #[.string (mk X)] 9)).ow _ w3.heap.size (mk X) (Blk.new' _ _ _ rfl) ?h1 ?h3) ?_
             case h1 => have := HLN.out; omega
             case h3 => have := HX2.out.hs; simp; omega
             intro v2 w8 hF
             have HF := Lib.hid hF
             clear hF))
        go_roundg (wh.size - (k + 1))
        case measure => omega
        case rel => exact ⟨k + 1, by go_num, by omega, Lib.hid (by rw [HPS.out, HFL.out]; exact (HX2.out.al _).push HF.out)⟩
      · have e115 : ((wh[k].toNat : Int) == 115) = true := by rw [hc]; rfl
        have e105 : ((wh[k].toNat : Int) == 105) = false := by rw [hc]; rfl
        rw [hc] at HPS
        clear hc
        have HFL : Hid (fieldD d.dp 115 = Lib.itoa d.s) := Lib.hid (fld_s d)
        have hit := fun (w' : World) (h : Env w') => Itoa_calls d.s w' (by omega) (by omega) h
        generalize Lib.itoa d.s = X at HFL hit
        go_wp2_with (first
          | (go_at_call 30; refine (hit _ (HEN.out.below HX.out.be)).mono ?_; rintro e w3 ⟨rfl, hb⟩; have HX2 := Lib.hid (HX.out.below hb); clear hb)
          | (at_builtin
             refine wpList_app rfl _ _ _ rfl u5 (.slice (some ⟨w3.heap.size, 0, none⟩) 1 1) (by rfl) (by rfl) (OwnS.app1s (HX2.out.al (.cells #[.string (mk X)] 9)).ow _ w3.heap.size (mk X) (Blk.new' _ _ _ rfl) ?h1 ?h3) ?_
             case h1 => have := HLN.out; omega
             case h3 => have := HX2.out.hs; simp; omega
             intro v2 w8 hF
             have HF := Lib.hid hF
             clear hF))
        go_roundg (wh.size - (k + 1))
        case measure => omega
        case rel => exact ⟨k + 1, by go_num, by omega, Lib.hid (by rw [HPS.out, HFL.out]; exact (HX2.out.al _).push HF.out)⟩
      · have e110 : ((wh[k].toNat : Int) == 110) = true := by rw [hc]; rfl
        have e105 : ((wh[k].toNat : Int) == 105) = false := by rw [hc]; rfl
        have e115 : ((wh[k].toNat : Int) == 115) = false := by rw [hc]; rfl
        rw [hc] at HPS
        clear hc
        have HFL : Hid (fieldD d.dp 110 = Lib.itoa d.n) := Lib.hid (fld_n d)
        have hit := fun (w' : World) (h : Env w') => Itoa_calls d.n w' (by omega) (by omega) h
        generalize Lib.itoa d.n = X at HFL hit
        go_wp2_with (first
          | (go_at_call 30; refine (hit _ (HEN.out.below HX.out.be)).mono ?_; rintro e w3 ⟨rfl, hb⟩; have HX2 := Lib.hid (HX.out.below hb); clear hb)
          | (at_builtin
             refine wpList_app rfl _ _ _ rfl u5 (.slice (some ⟨w3.heap.size, 0, none⟩) 1 1) (by rfl) (by rfl) (OwnS.app1s (HX2.out.al (.cells #[.string (mk X)] 9)).ow _ w3.heap.size (mk X) (Blk.new' _ _ _ rfl) ?h1 ?h3) ?_
             case h1 => have := HLN.out; omega
             case h3 => have := HX2.out.hs; simp; omega
             intro v2 w8 hF
             have HF := Lib.hid hF
             clear hF))
        go_roundg (wh.size - (k + 1))
        case measure => omega
        case rel => exact ⟨k + 1, by go_num, by omega, Lib.hid (by rw [HPS.out, HFL.out]; exact (HX2.out.al _).push HF.out)⟩
      · have e100 : ((wh[k].toNat : Int) == 100) = true := by rw [hc]; rfl
        have e105 : ((wh[k].toNat : Int) == 105) = false := by rw [hc]; rfl
        have e115 : ((wh[k].toNat : Int) == 115) = false := by rw [hc]; rfl
        have e110 : ((wh[k].toNat : Int) == 110) = false := by rw [hc]; rfl
        rw [hc] at HPS
        clear hc
        have HFL : Hid (fieldD d.dp 100 = hexB (bs d.d)) := Lib.hid (fld_d d)
        have hhx := fun (w' : World) => hex_calls d.d w' hdz
        generalize hexB (bs d.d) = X at HFL hhx
        go_wp2_with (first
          | (go_at_call 31; refine (hhx _).mono ?_; rintro e w3 ⟨rfl, hb⟩; have HX2 := Lib.hid (HX.out.below hb); clear hb)
          | (at_builtin
             refine wpList_app rfl _ _ _ rfl u5 (.slice (some ⟨w3.heap.size, 0, none⟩) 1 1) (by rfl) (by rfl) (OwnS.app1s (HX2.out.al (.cells #[.string (mk X)] 9)).ow _ w3.heap.size (mk X) (Blk.new' _ _ _ rfl) ?h1 ?h3) ?_
             case h1 => have := HLN.out; omega
             case h3 => have := HX2.out.hs; simp; omega
             intro v2 w8 hF
             have HF := Lib.hid hF
             clear hF))
        go_roundg (wh.size - (k + 1))
        case measure => omega
        case rel => exact ⟨k + 1, by go_num, by omega, Lib.hid (by rw [HPS.out, HFL.out]; exact (HX2.out.al _).push HF.out)⟩
      · have hmk := fun w => run_makeMap (P := Tryd.prog) 70 w
        obtain ⟨w2, hb2, hup, hlk⟩ := bool_map wr
        replace hlk := hlk d.o
        obtain ⟨D, hD⟩ : ∃ D : Int, (if d.o then (1 : Int) else 0) = D := ⟨_, rfl⟩
        have hD0 : 0 ≤ D ∧ D ≤ 1 := by rw [← hD]; split <;> omega
        have hFD : fieldD d.dp 111 = Lib.itoa D := (fld_o d).trans (by rw [hD])
        rw [hD] at hlk
        clear hD
        have HX := Lib.hid (HX.out.below hb2)
        obtain ⟨g0, g1, g2, g3, g4, g5⟩ := HX.out.bx
        have e111 : ((wh[k].toNat : Int) == 111) = true := by rw [hc]; rfl
        have e105 : ((wh[k].toNat : Int) == 105) = false := by rw [hc]; rfl
        have e115 : ((wh[k].toNat : Int) == 115) = false := by rw [hc]; rfl
        have e110 : ((wh[k].toNat : Int) == 110) = false := by rw [hc]; rfl
        have e100 : ((wh[k].toNat : Int) == 100) = false := by rw [hc]; rfl
        rw [hc] at HPS
        clear hc
        have HFL : Hid (fieldD d.dp 111 = Lib.itoa D) := Lib.hid hFD
        have hit := fun (w' : World) (h : Env w') => Itoa_calls D w' (by omega) (by omega) h
        generalize Lib.itoa D = X at HFL hit
        go_wp2_with (first
          | (go_at_call 30; refine (hit _ (HEN.out.below HX.out.be)).mono ?_; rintro e w3 ⟨rfl, hb⟩; have HX2 := Lib.hid (HX.out.below hb); clear hb)
          | (at_builtin
             refine wpList_app rfl _ _ _ rfl u5 (.slice (some ⟨w3.heap.size, 0, none⟩) 1 1) (by rfl) (by rfl) (OwnS.app1s (HX2.out.al (.cells #[.string (mk X)] 9)).ow _ w3.heap.size (mk X) (Blk.new' _ _ _ rfl) ?h1 ?h3) ?_
             case h1 => have := HLN.out; omega
             case h3 => have := HX2.out.hs; simp; omega
             intro v2 w8 hF
             have HF := Lib.hid hF
             clear hF))
        go_roundg (wh.size - (k + 1))
        case measure => omega
        case rel => exact ⟨k + 1, by go_num, by omega, Lib.hid (by rw [HPS.out, HFL.out]; exact (HX2.out.al _).push HF.out)⟩
    · have hke : k = wh.size := by omega
      obtain ⟨A, c, hv, h1, h2, h3⟩ := HX.out.ow.form
      have HBE := Lib.hid HX.out.be
      rw [hke, HPE.out] at hv h1 h3
      subst hv
      have HST := Lib.hid h3
      have hjn := join_calls A c _ wr h1 HST.out
      have hje : Lib.join ((d.k :: (bs wh).map fun c => mk (fieldD d.dp c)).map bs) [32] = lineD d.dp := by
        rw [← HLJ.out, ← HBW.out, List.map_cons, List.map_map, show (bs ∘ fun c => mk (fieldD d.dp c)) = fieldD d.dp from funext fun c => bs_mk _]
        rfl
      rw [hje] at hjn
      have HTE : Hid (mk (lineD d.dp) ++ ⟨#[10]⟩ = mk (textD d.dp)) := Lib.hid (bs_inj (by rw [bs_app, bs_mk, bs_mk]; rfl))
      have hlz : (mk (lineD d.dp)).size ≤ 20000 := by rw [mk_size]; exact HLL.out
      have hjn2 := hjn HLL.out (by simp) (by rw [List.length_cons, List.length_map, bs_length]; omega)
      generalize mk (lineD d.dp) = L at hjn2 HTE hlz
      generalize (d.k :: (bs wh).map fun c => mk (fieldD d.dp c)).length = n at hjn2 ⊢
      clear hjn hje HX HST HLJ HPE h1 h3
      go_wp2_with (go_at_call 38; refine hjn2.mono ?_; rintro e w3 ⟨rfl, hb⟩; have HB3 := Lib.hid (bt HBE.out hb); clear hb)
      go_ret
      exact ⟨by rw [← HTE.out]; rfl, HB3.out⟩
end Go.Proofs.YtkodepckfdpaiaaDoor
