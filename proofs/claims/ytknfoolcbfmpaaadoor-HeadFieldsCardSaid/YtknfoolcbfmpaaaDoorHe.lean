/- head.Show: a head's bytes, or that it may not be; conditions: as before. -/
import Derived.Test.YtknfoolcbfmpaaaDoorHd
import Derived.Test.YtknfoolcbfmpaaaDoorGb
import Derived.Test.YtknfoolcbfmpaaaDoorShelf
import Derived.Lib.BufferKept
import Derived.Lib.BufferOld
namespace Go.Proofs.YtknfoolcbfmpaaaDoor
set_option linter.unusedSimpArgs false
set_option linter.unusedVariables false
open Go.RowKit
theorem crlf_size : (⟨#[13, 10]⟩ : ByteArray).size = 2 := rfl
theorem colon_size : (⟨#[58, 32]⟩ : ByteArray).size = 2 := rfl
def lineB (f : List UInt8 × List UInt8) : List UInt8 := f.1 ++ [58, 32] ++ f.2 ++ [13, 10]
def topB (p : Pd) : List UInt8 := p.a ++ ([32] ++ (p.b ++ ([32] ++ p.c))) ++ [13, 10]
/-- A head's bytes. -/
def textP (p : Pd) : List UInt8 := topB p ++ p.fs.flatMap lineB ++ [13, 10]
def preB (h : Hd) (k : Nat) : List UInt8 := topB h.pd ++ ((h.fs.take k).map Fd.pd).flatMap lineB
theorem lineB_len (f : Fd) : (lineB f.pd).length = szF f := by
  unfold lineB szF Fd.pd
  simp only [List.length_append, bs_length, List.length_cons, List.length_nil]
  omega
theorem flat_len (l : List Fd) : ((l.map Fd.pd).flatMap lineB).length = (l.map szF).sum := by
  induction l with
  | nil => rfl
  | cons f l ih => rw [List.map_cons, List.flatMap_cons, List.length_append, ih, lineB_len, List.map_cons, List.sum_cons]
theorem topB_len (h : Hd) : (topB h.pd).length = h.a.size + h.b.size + h.c.size + 4 := by
  unfold topB Hd.pd
  simp only [List.length_append, bs_length, List.length_cons, List.length_nil]
  omega
theorem textP_len (h : Hd) : (textP h.pd).length = sizeP h.pd := by
  have e : h.pd.fs = h.fs.map Fd.pd := rfl
  rw [sizeP_pd, textP, e, List.length_append, List.length_append, topB_len, flat_len]
  simp only [List.length_cons, List.length_nil]
  omega
theorem preB_len (h : Hd) (w : World) (k : h.Ok w) (i : Nat) : (preB h i).length ≤ 12600000 := by
  have := sum_le (h.fs.take i) fun f hf => k.fz f (List.mem_of_mem_take hf)
  have h1 := k.fl; have h2 := k.la; have h3 := k.lb; have h4 := k.lc
  have h5 : (h.fs.take i).length ≤ h.fs.length := List.length_take_le' _ _
  rw [preB, List.length_append, topB_len, flat_len]
  have : (h.fs.take i).length * 200004 ≤ 60 * 200004 := Nat.mul_le_mul_right _ (by omega)
  omega
theorem preB_zero (h : Hd) : preB h 0 = topB h.pd := by simp [preB]
theorem preB_succ (h : Hd) (k : Nat) (hk : k < h.fs.length) : preB h (k + 1) = preB h k ++ lineB h.fs[k].pd := by
  rw [preB, preB, List.take_succ_eq_append_getElem hk, List.map_append, List.flatMap_append, ← List.append_assoc]
  rw [List.map_cons, List.map_nil, List.flatMap_cons, List.flatMap_nil, List.append_nil]
theorem preB_all (h : Hd) : textP h.pd = preB h h.fs.length ++ [13, 10] := by
  have e : h.pd.fs = h.fs.map Fd.pd := rfl
  rw [preB, List.take_length, textP, e]
theorem bcells_one (l : List UInt8) : ∀ v ∈ bcells l, v.oneCell' = true := fun v hv => by
  obtain ⟨b, _, rfl⟩ := List.mem_map.1 hv; rfl
theorem bcells_app (a b : List UInt8) : bcells (a ++ b) = bcells a ++ bcells b := List.map_append
theorem bcells_len (a : List UInt8) : (bcells a).length = a.length := List.length_map _
theorem join3_calls (a b c : ByteArray) (N : Nat) (w : World) (ha : a.size ≤ 100000) (hb : b.size ≤ 100000) (hc : c.size ≤ 100000) (h0 : w.cell? ⟨N, 0, none⟩ = some (.string a)) (h1 : w.cell? ⟨N, 1, none⟩ = some (.string b)) (h2 : w.cell? ⟨N, 2, none⟩ = some (.string c)) :
    Calls Tryd.prog 28 #[.slice (some ⟨N, 0, none⟩) 3 3, .string ⟨#[32]⟩] w fun e w' => ∃ t, e = .returned (.string t) ∧ t.size ≤ 300002 ∧ Hid (bs t = bs a ++ ([32] ++ (bs b ++ ([32] ++ bs c)))) ∧ Below w.heap.size w w' := by
  have hl : Lib.join ([a, b, c].map (·.data.toList)) (⟨#[32]⟩ : ByteArray).data.toList = bs a ++ ([32] ++ (bs b ++ ([32] ++ bs c))) := by
    simp [Lib.join, List.intercalate, bs]
  have hn : (bs a ++ ([32] ++ (bs b ++ ([32] ++ bs c)))).length = a.size + b.size + c.size + 2 := by
    simp only [List.length_append, bs_length, List.length_cons, List.length_nil]; omega
  have hj := Tryd.strings_Join N 0 3 [a, b, c] ⟨#[32]⟩ w (fun j x hx => by
    match j, hx with
    | 0, hx => simp at hx; subst hx; simpa using h0
    | 1, hx => simp at hx; subst hx; simpa using h1
    | 2, hx => simp at hx; subst hx; simpa using h2) (cell_lt h0) (by simp) (by simp) (by rw [hl, hn]; omega)
  rw [hl] at hj
  refine hj.mono ?_
  rintro e w' ⟨rfl, hB⟩
  refine ⟨_, rfl, ?_, Lib.hid (bs_mk _), hB⟩
  rw [mk_size, hn]; omega
/-- A buffer's state within the call. -/
def BfI (w1 : World) (t : List UInt8) (wx : World) : Prop := Lib.IsBuffer 53 5 w1.heap.size w1.heap.size (bcells t) wx ∧ Below w1.heap.size w1 wx
theorem BfI.fresh (w1 : World) : BfI w1 [] (w1.alloc (.cells #[.slice none 0 0, .int .i64 0, .int .i8 0] 53)) := ⟨Lib.fresh_isBuffer _ _ _, below_alloc1 _ _⟩
theorem BfI.al {w1 wx : World} {t : List UInt8} (h : BfI w1 t wx) (o : Obj) : BfI w1 t (wx.alloc o) := ⟨h.1.alloc o, below_al h.2 o⟩
theorem BfI.old {w1 wx w2 : World} {t : List UInt8} (h : BfI w1 t wx) (hb : Below wx.heap.size wx w2) : BfI w1 t w2 := ⟨h.1.old hb, bt h.2 hb⟩
theorem BfI.write {w1 wx : World} {t : List UInt8} (h : BfI w1 t wx) (s : ByteArray) (ht : t.length ≤ 13000000) (hs : s.size ≤ 13000000) :
    Calls Tryd.prog 27 #[.pointer (some ⟨w1.heap.size, 0, none⟩), .string s] wx fun e w' => e = .returned (.tuple #[.int .i64 s.size, .nilIface]) ∧ BfI w1 (t ++ bs s) w' := by
  refine (Tryd.Buffer_WriteString w1.heap.size w1.heap.size (bcells t) s wx h.1 h.2.size (bcells_one t) (by rw [bcells_len]; omega)).mono ?_
  rintro e w' ⟨rfl, hB, hb⟩
  exact ⟨rfl, by rw [bcells_app]; exact hB, h.2.trans hb⟩
theorem own_bys {w : World} {B : Nat} {v : Value} {l : List UInt8} {n : Nat} (hn : n = l.length) (h : w.ownsRow B 5 1 v n (bcells l)) : ∃ A c, v = .slice A l.length c ∧ l.length ≤ c ∧ c ≤ maxLen ∧ Bys w A l := by
  subst hn
  rcases h.2 with ⟨rfl, h0⟩ | ⟨g, cap, cur, rfl, hb, hg, hnc, hcm, hcs, htake⟩
  · refine ⟨none, 0, by rw [h0], by omega, Nat.zero_le _, fun i hi => by omega⟩
  · refine ⟨some ⟨g, 0, none⟩, cap, rfl, hnc, hcm, fun i hi => ⟨g, 0, rfl, ?_⟩⟩
    rw [Nat.zero_add]
    refine (World.ownsRow.cellAt (w := w) (g := g) h i (by omega)).trans ?_
    unfold bcells
    rw [List.getElem?_map, List.getElem?_eq_getElem hi]; rfl
/-- What Show leaves. -/
def SP (w : World) (p : Pd) (e : Ending) (w' : World) : Prop :=
  Below w.heap.size w w' ∧ ((checkP p ≠ 0 ∧ e = .returned (.tuple #[.slice none 0 0, .int .i64 (checkP p)])) ∨ (checkP p = 0 ∧ ∃ A c, e = .returned (.tuple #[.slice A (textP p).length c, .int .i64 0]) ∧ (textP p).length ≤ c ∧ c ≤ maxLen ∧ Bys w' A (textP p)))
set_option maxRecDepth 100000 in
set_option maxHeartbeats 4000000 in
theorem Show_calls (h : Hd) (w : World) (hk : h.Ok w) : Calls Tryd.prog 13 #[h.val] w (SP w h.pd) := by
  obtain ⟨W0, hW0⟩ : ∃ W0, W0 = w.alloc (.cells h.cells 25 (0, 0)) := ⟨_, rfl⟩
  have HB0 : Hid (Below w.heap.size w W0) := Lib.hid (hW0 ▸ below_alloc1 w _)
  have HK : Hid (h.Ok W0) := Lib.hid (hk.below HB0.out)
  have HAT : Hid (h.At W0 w.heap.size) := Lib.hid (hW0 ▸ h.box w 25)
  have hch := Check_calls h W0 HK.out
  have HP0 := Lib.hid (preB_zero h)
  have HP1 := Lib.hid (preB_succ h)
  have HP2 := Lib.hid (preB_all h)
  have HPL := Lib.hid (fun i => preB_len h W0 HK.out i)
  have HTB : Hid (topB h.pd = (bs h.a ++ ([32] ++ (bs h.b ++ ([32] ++ bs h.c)))) ++ [13, 10]) := Lib.hid rfl
  have hla := hk.la
  have hlb := hk.lb
  have hlc := hk.lc
  have hfl := hk.fl
  have HFZ := Lib.hid hk.fz
  have HS : Hid (∀ e w', SP w h.pd e w' ↔ SP w h.pd e w') := Lib.hid fun _ _ => Iff.rfl
  obtain ⟨C, hC⟩ : ∃ C, C = checkP h.pd := ⟨_, rfl⟩
  have HC := Lib.hid hC
  rw [← hC] at hch
  clear hC hk
  obtain ⟨f0, f1, f2, f3⟩ := HAT.out
  by_cases h0 : C = 0
  · obtain rfl := h0
    unfold SP
    rw [← HC.out]
    generalize hTX : textP h.pd = TX at HP2 ⊢
    clear hTX
    obtain ⟨ha, hb, hc, A, kc, fs⟩ := h
    simp only at *
    go_enter Tryd.func13, Tryd.ntmps13
    go_wp2_with (first
      | (go_at_call 15; rw [← hW0]; refine hch.mono ?_; rintro e w1 ⟨rfl, hb1⟩; have HB1 := Lib.hid hb1; have HAT1 := Lib.hid (HAT.out.below hb1); have HX0 := Lib.hid (BfI.fresh w1); have HAT2 := Lib.hid (HAT1.out.below (below_alloc1 w1 (.cells #[.slice none 0 0, .int .i64 0, .int .i8 0] 53))); obtain ⟨g0, g1, g2, g3⟩ := HAT1.out; clear hb1)
      | (go_at_call 28; refine (join3_calls ha hb hc w.heap.size _ hla hlb hlc HAT2.out.f0 HAT2.out.f1 HAT2.out.f2).mono ?_; rintro e w2 ⟨t, rfl, ht, HT, hb2⟩; have HX1 := Lib.hid (HX0.out.old hb2); clear hb2)
      | (go_at_call 27; go_loud (refine (HX1.out.write _ ?h1 ?h2).mono ?_; (case h1 => simp); (case h2 => simp only [ByteArray.size_append, crlf_size, colon_size]; omega); rintro e w3 ⟨rfl, hx⟩; have HX2 : Hid (BfI w1 (preB ⟨ha, hb, hc, A, kc, fs⟩ 0) w3) := Lib.hid (by rw [HP0.out, HTB.out, ← HT.out, ← bs_mk [13, 10], ← bs_app]; exact hx); have HAT3 := Lib.hid (HAT1.out.below HX2.out.2); have k3 := HAT3.out.f3; simp only at k3; clear hx)))
    go_loopg [21] fs.length (fun gh v21 wx => ∃ k : Nat, v21 = .int .i64 k ∧ k + gh = fs.length ∧ Hid (BfI w1 (preB ⟨ha, hb, hc, A, kc, fs⟩ k) wx))
    case atStart => exact ⟨0, rfl, by omega, HX2⟩
    case round =>
      obtain ⟨k, rfl, hk, HX⟩ := hrel
      by_cases hlt : k < fs.length
      · obtain ⟨b, off, rfl, g0, g1⟩ := ((HK.out.below HB1.out).fd.below HX.out.2) k hlt
        have hz := HFZ.out _ (List.getElem_mem hlt)
        have HN := Lib.hid (HP1.out k hlt)
        have HL := Lib.hid (HPL.out k)
        obtain ⟨z1, z2⟩ := hz
        generalize fs[k] = f at g0 g1 z1 z2 HN
        obtain ⟨nm, vl⟩ := f
        simp only at g0 g1 z1 z2
        have HF : Hid (lineB (Fd.pd ⟨nm, vl⟩) = bs nm ++ [58, 32] ++ bs vl ++ [13, 10]) := Lib.hid rfl
        go_wp2_with (go_at_call 27; refine ((HX.out.al _).write _ ?h1 ?h2).mono ?_; (case h1 => have := HL.out; omega); (case h2 => simp only [ByteArray.size_append, crlf_size, colon_size]; omega); rintro e w4 ⟨rfl, hx⟩; have HX2 : Hid (BfI w1 (preB ⟨ha, hb, hc, some ⟨b, off, none⟩, kc, fs⟩ (k + 1)) w4) := Lib.hid (by rw [HN.out, HF.out, ← bs_mk [58, 32], ← bs_mk [13, 10], ← bs_app, ← bs_app, ← bs_app]; exact hx); clear hx)
        go_roundg (fs.length - (k + 1))
        case measure => omega
        case rel => exact ⟨k + 1, by go_num, by omega, HX2⟩
      · obtain rfl : k = fs.length := by omega
        have HL := Lib.hid (HPL.out fs.length)
        go_wp2_with (first
          | (go_at_call 27; refine (HX.out.write _ ?h1 ?h2).mono ?_; (case h1 => have := HL.out; omega); (case h2 => decide); rintro e w4 ⟨rfl, hx⟩; have HX2 : Hid (BfI w1 TX w4) := Lib.hid (by rw [HP2.out]; exact hx); clear hx)
          | (go_at_call 29; refine (Tryd.Buffer_Bytes _ _ _ _ HX2.out.1).mono ?_; rintro e w5 ⟨v, rfl, ho, n, rfl⟩; obtain ⟨A5, c5, rfl, q1, q2, q3⟩ := own_bys (bcells_len _) ho; have HQ := Lib.hid (And.intro q1 (And.intro q2 q3)); clear ho q1 q2 q3))
        go_ret2
        exact ⟨below_drewN (bt HB0.out (bt HB1.out HX2.out.2)) _, .inr ⟨trivial, A5, c5, rfl, HQ.out.1, HQ.out.2.1, HQ.out.2.2⟩⟩
  · unfold SP
    rw [← HC.out]
    have hne : ((C : Int) != 0) = true := by simpa using h0
    obtain ⟨ha, hb, hc, A, kc, fs⟩ := h
    simp only at *
    go_enter Tryd.func13, Tryd.ntmps13
    go_wp2_with (first
      | (go_at_call 15; rw [← hW0]; refine hch.mono ?_; rintro e w1 ⟨rfl, hb1⟩; have HB1 := Lib.hid hb1; clear hb1))
    go_ret2
    exact ⟨bt HB0.out HB1.out, .inl ⟨h0, rfl⟩⟩
end Go.Proofs.YtknfoolcbfmpaaaDoor
