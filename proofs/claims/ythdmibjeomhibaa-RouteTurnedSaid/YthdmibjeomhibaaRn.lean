/- A world behind calls with the boxes of the configuration and of the offer in it; the contracts in such a world; conditions: the slices can be read. -/
import Derived.Test.YthdmibjeomhibaaRm
import Derived.Test.YthdmibjeomhibaaAp
namespace Go.Proofs.Ythdmibjeomhibaa
set_option linter.unusedSimpArgs false
set_option linter.unusedVariables false
open Go.RowKit
/-- A world behind calls, with the boxes of the configuration and of the offer in it. -/
structure OW (c : Cfg) (o : Off) (w wx : World) : Prop where
  bel : Below w.heap.size w wx
  cb : Blk wx w.heap.size c.cells 25
  ob : Blk wx (w.heap.size + 1) o.cells 31
  ok : c.Ok wx
  oo : o.Ok wx
theorem OW.next {c : Cfg} {o : Off} {w wx w1 : World} (h : OW c o w wx) (hb : Below wx.heap.size wx w1) : OW c o w w1 :=
  ⟨h.bel.trans (hb.mono h.bel.size), h.cb.below hb, h.ob.below hb, h.ok.below hb, ⟨h.oo.pl, h.oo.p.below hb, h.oo.path⟩⟩
theorem OW.start {c : Cfg} {o : Off} {w : World} (hc : c.Ok w) (ho : o.Ok w) :
    OW c o w ((w.alloc (.cells c.cells 25 (0, 0))).alloc (.cells o.cells 31 (0, 0))) := by
  have b1 := below_alloc1 w (.cells c.cells 25 (0, 0))
  have b2 : Below w.heap.size w ((w.alloc (.cells c.cells 25 (0, 0))).alloc (.cells o.cells 31 (0, 0))) := b1.alloc (by simp) _
  exact ⟨b2, (Blk.new w _ _).alloc _, Blk.new' _ _ _ (by simp), hc.below b2, ⟨ho.pl, ho.p.below b2, ho.path⟩⟩
theorem ow_awake {c : Cfg} {o : Off} {w : World} (wx : World) (h : Hid (OW c o w wx)) : Calls Try.prog 10 #[] wx fun e w' => e = .returned (.bool true) ∧ Hid (OW c o w w') :=
  (awake_calls wx).mono fun _ _ ⟨he, hb⟩ => ⟨he, Lib.hid (h.out.next hb)⟩
theorem ow_few {c : Cfg} {o : Off} {w : World} (wx : World) (h : Hid (OW c o w wx)) : Calls Try.prog 11 #[c.val] wx fun e w' => e = .returned (.bool (few15 c)) ∧ Hid (OW c o w w') :=
  (Few15_calls c wx h.out.ok).mono fun _ _ ⟨he, hb⟩ => ⟨he, Lib.hid (h.out.next hb)⟩
theorem ow_few6 {c : Cfg} {o : Off} {w : World} (wx : World) (h : Hid (OW c o w wx)) : Calls Try.prog 14 #[.slice o.A o.ps.length o.c] wx fun e w' => e = .returned (.bool (fewB o.ps)) ∧ w' = wx :=
  Few_calls o.A o.ps o.c wx h.out.oo.pl h.out.oo.p
theorem ow_pick {c : Cfg} {o : Off} {w : World} (hrs : Rts.Ok c.rs) (A : Option Addr) (k : Nat) (wx : World) (h : Hid (OW c o w wx)) (hA : Hid (Strs wx A o.ps)) :
    Calls Try.prog 15 #[c.val, .string o.path, .slice A o.ps.length k] wx fun e w' =>
      e = .returned (.tuple #[((pickB o.path o.ps c.rs).getD Rt.zero).val, .bool (pickB o.path o.ps c.rs).isSome]) ∧ Hid (OW c o w w' ∧ Below wx.heap.size wx w') :=
  (Pick_calls c o.path A k o.ps wx h.out.ok h.out.oo.path hrs h.out.oo.pl hA.out).mono fun _ _ ⟨he, hb⟩ => ⟨he, Lib.hid ⟨h.out.next hb, hb⟩⟩
theorem ow_ref {c : Cfg} {o : Off} {w : World} (hrs : Rts.Ok c.rs) (wx : World) (h : Hid (OW c o w wx)) :
    Calls Try.prog 16 #[c.val, .string o.path, .slice o.A o.ps.length o.c] wx fun e w' =>
      e = .returned (.tuple #[((pickB o.path o.ps c.rs).getD Rt.zero).val, .bool (pickB o.path o.ps c.rs).isSome]) ∧ Hid (OW c o w w' ∧ Below wx.heap.size wx w') :=
  (refPick_calls c o.path o.A o.c o.ps wx h.out.ok h.out.oo.path hrs h.out.oo.pl h.out.oo.p).mono fun _ _ ⟨he, hb⟩ => ⟨he, Lib.hid ⟨h.out.next hb, hb⟩⟩
theorem ow_admit {c : Cfg} {o : Off} {w : World} (hrs : Rts.Ok c.rs) (n : Int) (wx : World) (h : Hid (OW c o w wx)) :
    Calls Try.prog 17 #[c.val, o.val, .int .i64 n] wx fun e w' => e = .returned (.tuple #[(admitB c o n).1.val, .int .i64 (admitB c o n).2]) ∧ Hid (OW c o w w' ∧ Below wx.heap.size wx w') :=
  (Admit_calls c o n wx h.out.ok h.out.oo hrs).mono fun _ _ ⟨he, hb⟩ => ⟨he, Lib.hid ⟨h.out.next hb, hb⟩⟩
theorem ow_refadmit {c : Cfg} {o : Off} {w : World} (hrs : Rts.Ok c.rs) (n : Int) (wx : World) (h : Hid (OW c o w wx)) :
    Calls Try.prog 18 #[c.val, o.val, .int .i64 n] wx fun e w' => e = .returned (.tuple #[(admitB c o n).1.val, .int .i64 (admitB c o n).2]) ∧ Hid (OW c o w w' ∧ Below wx.heap.size wx w') :=
  (refAdmit_calls c o n wx h.out.ok h.out.oo hrs).mono fun _ _ ⟨he, hb⟩ => ⟨he, Lib.hid ⟨h.out.next hb, hb⟩⟩
theorem OW.cells {c : Cfg} {o : Off} {w wx : World} (h : OW c o w wx) : c.At wx w.heap.size ∧ wx.cell? ⟨w.heap.size + 1, 0, none⟩ = some (.string o.path) ∧ wx.cell? ⟨w.heap.size + 1, 1, none⟩ = some (.string o.host) ∧ wx.cell? ⟨w.heap.size + 1, 2, none⟩ = some (.string o.key) ∧
    wx.cell? ⟨w.heap.size + 1, 3, none⟩ = some (.string o.origin) ∧ wx.cell? ⟨w.heap.size + 1, 4, none⟩ = some (.slice o.A o.ps.length o.c) := by
  have f := h.cb.cell
  have g := h.ob.cell
  exact ⟨⟨(f 0).trans rfl, (f 1).trans rfl, (f 2).trans rfl, (f 3).trans rfl, (f 4).trans rfl, (f 5).trans rfl, (f 6).trans rfl, (f 7).trans rfl, (f 8).trans rfl, (f 9).trans rfl, (f 10).trans rfl, (f 11).trans rfl⟩, (g 0).trans rfl, (g 1).trans rfl, (g 2).trans rfl, (g 3).trans rfl, (g 4).trans rfl⟩
theorem OW.held {c : Cfg} {o : Off} {w wr wx : World} (h : OW c o w wr) (hb : Below wr.heap.size wr wx) :
    wx.cell? ⟨w.heap.size, 0, none⟩ = some (.slice c.A0 c.rs.length c.c0) ∧ wx.cell? ⟨w.heap.size, 1, none⟩ = some (.slice c.A1 c.os.length c.c1) ∧ wx.cell? ⟨w.heap.size, 2, none⟩ = some (.int .i64 c.n2) ∧ wx.cell? ⟨w.heap.size, 3, none⟩ = some (.int .i64 c.n3) ∧
    wx.cell? ⟨w.heap.size, 4, none⟩ = some (.int .i64 c.n4) ∧ wx.cell? ⟨w.heap.size, 5, none⟩ = some (.int .i64 c.n5) ∧ wx.cell? ⟨w.heap.size, 6, none⟩ = some (.int .i64 c.n6) ∧ wx.cell? ⟨w.heap.size, 7, none⟩ = some (.int .i64 c.n7) ∧ wx.cell? ⟨w.heap.size, 8, none⟩ = some (.int .i64 c.n8) ∧
    wx.cell? ⟨w.heap.size, 9, none⟩ = some (.int .i64 c.n9) ∧ wx.cell? ⟨w.heap.size, 10, none⟩ = some (.int .i64 c.n10) ∧ wx.cell? ⟨w.heap.size, 11, none⟩ = some (.int .i64 c.n11) ∧ wx.cell? ⟨w.heap.size + 1, 0, none⟩ = some (.string o.path) ∧ wx.cell? ⟨w.heap.size + 1, 4, none⟩ = some (.slice o.A o.ps.length o.c) ∧
    Hid (Below wr.heap.size wr wx) := by
  obtain ⟨⟨f0, f1, f2, f3, f4, f5, f6, f7, f8, f9, f10, f11⟩, p0, p1, p2, p3, p4⟩ := (h.next hb).cells
  exact ⟨f0, f1, f2, f3, f4, f5, f6, f7, f8, f9, f10, f11, p0, p4, Lib.hid hb⟩
end Go.Proofs.Ythdmibjeomhibaa
