/- A head that was read, in a box of the law's own; the law HeadReads: the walk; conditions: the library's bound lies where it is laid. -/
import Derived.Test.YtknfoolcbfmpaaaDoorIm
import Derived.Test.YtknfoolcbfmpaaaDoorIf
import Derived.Test.YtknfoolcbfmpaaaDoorHo
namespace Go.Proofs.YtknfoolcbfmpaaaDoor
set_option linter.unusedSimpArgs false
set_option linter.unusedVariables false
open Go.RowKit
/-- head.Read of a string's bytes. -/
theorem ReadConv (s : ByteArray) (w : World) (hs : s.size ≤ 100000) (hm : MaxL w) :
    Calls Tryd.prog 16 #[.slice (some ⟨w.heap.size, 0, none⟩) s.size (cvC w s)] (cvW w s) (RP (cvW w s) (bs s)) := by
  have hl := bs_length s
  obtain ⟨h1, h2⟩ := cv_cap w s (mx hs)
  have := Read_calls w.heap.size 0 (cvC w s) (bs s) (cvW w s) (by omega) h2 (by omega) (hm.below (cv_below w s)) (cv_bys w s)
  rw [hl] at this
  exact this
/-- A head in a box of the law's own. -/
structure HX (w : World) (h : Hd) (N : Nat) (wx : World) : Prop where
  be : Below w.heap.size w wx
  bx : h.At wx N
  ok : h.Ok wx
  mx : MaxL wx
theorem HX.below {w wx w2 : World} {h : Hd} {N : Nat} (k : HX w h N wx) (hb : Below wx.heap.size wx w2) : HX w h N w2 := ⟨bt k.be hb, k.bx.below hb, k.ok.below hb, k.mx.below hb⟩
theorem HX.box {w w1 W : World} {h : Hd} (hb : Below w.heap.size w w1) (hk : h.Ok w1) (hm : MaxL w) (hB : Below w1.heap.size w1 W) (ha : h.At W w1.heap.size) : HX w h w1.heap.size W := ⟨bt hb hB, ha, hk.below hB, hm.below (bt hb hB)⟩
theorem alike_same {p q : Pd} (h : p = q) : alikeB p q = true := decide_eq_true h
theorem at_of_blk {W : World} {K : Nat} {a b c : ByteArray} {A : Option Addr} {k : Nat} {l : List Fd} {t : TypeId} (h : Blk W K (hCells a b c (.slice A l.length k)) t) : (Hd.mk a b c A k l).At W K :=
  ⟨(h.cell 0).trans rfl, (h.cell 1).trans rfl, (h.cell 2).trans rfl, (h.cell 3).trans rfl⟩
set_option maxRecDepth 100000 in
set_option maxHeartbeats 4000000 in
theorem headReads_calls (s : ByteArray) (w : World) (hs : s.size ≤ maxLen) (hm : MaxL w) :
    Calls Tryd.prog 4 #[.string s] w fun e w' => e = .returned (.bool true) ∧ Below w.heap.size w w' := by
  unfold maxLen at hs
  by_cases h1 : 2500 < s.size
  · have da : decide ((2500 : Int) < (s.size : Int)) = true := decide_eq_true (by omega)
    go_enter Tryd.func4, Tryd.ntmps4
    go_wp2_with (go_at_call 11; first | ((with_reducible refine (awake_calls _ hm).mono ?_); rintro e w1 ⟨rfl, hb⟩; have HB1 := Lib.hid hb; have HM1 := Lib.hid (hm.below hb); clear hb) | ((with_reducible refine (awake_calls _ HM1.out).mono ?_); rintro e w2 ⟨rfl, hb⟩; have HB2 := Lib.hid (bt HB1.out hb); clear hb))
    go_ret
    exact ⟨rfl, HB2.out⟩
  · have da : decide ((2500 : Int) < (s.size : Int)) = false := decide_eq_false (by omega)
    have hcv := fun w => conv_bytes w s
    go_enter Tryd.func4, Tryd.ntmps4
    go_upto_region 3 with (go_at_call 11; ((with_reducible refine (awake_calls _ hm).mono ?_); rintro e w1 ⟨rfl, hb⟩; have HB1 := Lib.hid hb; have HM1 := Lib.hid (hm.below hb); clear hb))
    have hrd := ReadConv s w1 (by omega) HM1.out
    go_cut [3, 4, 5] (fun v3 v4 v5 wx => ∃ (h : Hd) (N : Nat) (n er : Int), v3 = .pointer (some ⟨N, 0, none⟩) ∧ v4 = .int .i64 n ∧ v5 = .int .i64 er ∧ Hid (readB (bs s) = ⟨h.pd, n, er⟩) ∧ Hid (HX w h N wx))
    case first =>
      unfold RP at hrd
      go_wp2_with (go_at_call 16; refine hrd.mono ?_; clear hrd; rintro e w2 ⟨⟨ha, hb, hc, A, k, fs⟩, n, er, rfl, hr, hk, hb2⟩; have HR := Lib.hid hr; have HK := Lib.hid hk; have HB2 := Lib.hid (bt (bt HB1.out (cv_below w1 s)) hb2); clear hr hk hb2)
      go_meet
      refine ⟨⟨ha, hb, hc, A, k, fs⟩, w2.heap.size, n, er, rfl, rfl, rfl, HR, Lib.hid (HX.box HB2.out HK.out hm ?_ (at_of_blk (t := 25) ?_))⟩
      · repeat' first | exact Below.refl _ _ | exact below_alloc1 _ _ | refine below_set ?_ (Nat.le_refl _) _ _
      · first
          | exact Blk.new' _ _ _ rfl
          | exact (((Blk.new' w2 (hCells ⟨#[]⟩ ⟨#[]⟩ ⟨#[]⟩ (.slice none 0 0)) _ rfl).set 0 _).set 1 _ |>.set 2 _).set 3 _
    case rest =>
      obtain ⟨h, N, n, er, rfl, rfl, rfl, HR, HH⟩ := hcut
      clear hrd hcv HB1 HM1
      go_upto_region 4 with (fail)
      have hrr := RefRead_calls s wc (by omega) HH.out.mx
      go_cut [6, 7, 8] (fun v6 v7 v8 wx => ∃ (g : Hd) (M : Nat), v6 = .pointer (some ⟨M, 0, none⟩) ∧ v7 = .int .i64 n ∧ v8 = .int .i64 er ∧ Hid (g.pd = h.pd) ∧ Hid (HX w g M wx) ∧ Hid (HX w h N wx))
      case first =>
        unfold RP at hrr
        go_wp2_with (go_at_call 19; refine hrr.mono ?_; clear hrr; rintro e w2 ⟨⟨ha, hb, hc, A, k, fs⟩, n2, er2, rfl, hr, hk, hb2⟩; have HR2 := Lib.hid hr; have HK := Lib.hid hk; have HB2 := Lib.hid hb2; clear hr hk hb2)
        go_meet
        have hq := HR.out.symm.trans HR2.out
        obtain ⟨q1, q2, q3⟩ := Rd.mk.inj hq
        subst q2 q3
        refine ⟨⟨ha, hb, hc, A, k, fs⟩, w2.heap.size, rfl, rfl, rfl, Lib.hid q1.symm, Lib.hid (HX.box (bt HH.out.be HB2.out) HK.out hm (below_alloc1 _ _) (at_of_blk (t := 25) ?_)), Lib.hid ((HH.out.below HB2.out).below (below_alloc1 _ _))⟩
        first
          | exact Blk.new' _ _ _ rfl
          | exact (((Blk.new' w2 (hCells ⟨#[]⟩ ⟨#[]⟩ ⟨#[]⟩ (.slice none 0 0)) _ rfl).set 0 _).set 1 _ |>.set 2 _).set 3 _
      case rest =>
        clear hrr HH HR
        obtain ⟨g, M, rfl, rfl, rfl, HP, HG, HH⟩ := hcut
        have hal := Alike_calls h g wc HH.out.ok HG.out.ok
        rw [alike_same HP.out.symm] at hal
        obtain ⟨f0, f1, f2, f3⟩ := HH.out.bx
        obtain ⟨g0, g1, g2, g3⟩ := HG.out.bx
        have HB := Lib.hid HH.out.be
        clear HP HG HH
        obtain ⟨ha, hb, hc, A, k, fs⟩ := h
        obtain ⟨ga, gb, gc, G, j, gs⟩ := g
        simp only at *
        go_wp2_with (go_at_call 18; refine hal.mono ?_; rintro e w5 ⟨rfl, hb5⟩; have HB5 := Lib.hid (bt HB.out hb5); clear hb5)
        go_ret
        exact ⟨rfl, HB5.out⟩
end Go.Proofs.YtknfoolcbfmpaaaDoor
