/- The law RoutePicks: of every configuration and offer whose slices can be read, it answers yes. -/
import Derived.Test.YthdmibjeomhibaaRn
namespace Go.Proofs.Ythdmibjeomhibaa
set_option linter.unusedSimpArgs false
set_option linter.unusedVariables false
open Go.RowKit
theorem alloc_size (w : World) (o : Obj) : (w.alloc o).drew.heap.size = w.heap.size + 1 := by simp
theorem eqR_same (d : Nat) (w : World) (x : Rt) : (Op.equalIn (d + 2) 34 x.val x.val).run Try.prog w = .ok true w := by rw [eqR, decide_eq_true rfl]
theorem few_len {l : List ByteArray} (h : fewB l = true) : l.length ≤ 30 := by
  rw [fewB, Bool.and_eq_true, decide_eq_true_eq] at h; exact h.2
set_option maxRecDepth 100000 in
set_option maxHeartbeats 8000000 in
theorem RoutePicks_calls (c : Cfg) (o : Off) (n : Int) (w : World) (hc : c.Ok w) (ho : o.Ok w) (hor : o.origin.size ≤ maxLen) (hrs : Rts.Ok c.rs) :
    Calls Try.prog 4 #[c.val, o.val, .int .i64 n] w fun e w' => e = .returned (.bool true) ∧ Below w.heap.size w w' := by
  obtain ⟨W, hW⟩ : ∃ W, W = (w.alloc (.cells c.cells 25 (0, 0))).alloc (.cells o.cells 31 (0, 0)) := ⟨_, rfl⟩
  have hS : Hid (OW c o w W) := Lib.hid (by rw [hW]; exact OW.start hc ho)
  have hF := fun wx => ow_few (c := c) (o := o) (w := w) wx
  have hF6 := fun wx => ow_few6 (c := c) (o := o) (w := w) wx
  have hpl := ho.pl
  have hpp := ho.path
  clear hc ho
  unfold maxLen at hpl hpp hor
  generalize few15 c = fb at hF
  have hlen : fewB o.ps = true → o.ps.length ≤ 30 := few_len
  generalize fewB o.ps = f6 at hF6 hlen
  by_cases hfew : fb = true ∧ f6 = true ∧ o.path.size ≤ 300 ∧ o.origin.size ≤ 300
  · obtain ⟨rfl, rfl, hb1, hb2⟩ := hfew
    have HL30 := Lib.hid (hlen rfl)
    clear hlen
    have hd1 : decide (300 < (o.path.size : Int)) = false := decide_eq_false (by omega)
    have hd2 : decide (300 < (o.origin.size : Int)) = false := decide_eq_false (by omega)
    go_enter Try.func4, Try.ntmps4
    go_upto_region 1 with (fail)
    rw [← hW]
    clear hW
    go_upto_region 3 with (first
      | (go_at_call 10; refine Calls.mono (ow_awake (c := c) (o := o) (w := w) _ (by assumption)) ?_; rintro e w1 ⟨rfl, hs⟩; obtain ⟨⟨f0, f1, f2, f3, f4, f5, f6, f7, f8, f9, f10, f11⟩, p0, p1, p2, p3, p4⟩ := hs.out.cells)
      | (go_at_call 11; refine Calls.mono (hF _ (by assumption)) ?_; clear f0 f1 f2 f3 f4 f5 f6 f7 f8 f9 f10 f11 p0 p1 p2 p3 p4 hs; rintro e w1 ⟨rfl, hs⟩; obtain ⟨⟨f0, f1, f2, f3, f4, f5, f6, f7, f8, f9, f10, f11⟩, p0, p1, p2, p3, p4⟩ := hs.out.cells)
      | (go_at_call 14; refine Calls.mono (hF6 _ (by assumption)) ?_; rintro e w' ⟨rfl, rfl⟩))
    go_cut [7, 8] (fun v7 v8 wx => ∃ g : Nat, v7 = .pointer (some ⟨g, 0, none⟩) ∧ v8 = .bool (pickB o.path o.ps c.rs).isSome ∧ Hid (OW c o w wx ∧ Blk wx g ((pickB o.path o.ps c.rs).getD Rt.zero).cells 34))
    case first =>
      clear hF hF6 f0 f1 f2 f3 f4 f5 f6 f7 f8 f9 f10 f11 p0 p1 p2 p3 p4
      have hpk := fun A k wx => ow_pick (c := c) (o := o) (w := w) hrs A k wx
      have hk := fun wx => OW.held (wx := wx) hs.out
      go_region_held3 (fun wx => wx.cell? ⟨w.heap.size, 0, none⟩ = some (.slice c.A0 c.rs.length c.c0) ∧ wx.cell? ⟨w.heap.size, 1, none⟩ = some (.slice c.A1 c.os.length c.c1) ∧ wx.cell? ⟨w.heap.size, 2, none⟩ = some (.int .i64 c.n2) ∧ wx.cell? ⟨w.heap.size, 3, none⟩ = some (.int .i64 c.n3) ∧ wx.cell? ⟨w.heap.size, 4, none⟩ = some (.int .i64 c.n4) ∧ wx.cell? ⟨w.heap.size, 5, none⟩ = some (.int .i64 c.n5) ∧ wx.cell? ⟨w.heap.size, 6, none⟩ = some (.int .i64 c.n6) ∧ wx.cell? ⟨w.heap.size, 7, none⟩ = some (.int .i64 c.n7) ∧ wx.cell? ⟨w.heap.size, 8, none⟩ = some (.int .i64 c.n8) ∧ wx.cell? ⟨w.heap.size, 9, none⟩ = some (.int .i64 c.n9) ∧ wx.cell? ⟨w.heap.size, 10, none⟩ = some (.int .i64 c.n10) ∧ wx.cell? ⟨w.heap.size, 11, none⟩ = some (.int .i64 c.n11) ∧ wx.cell? ⟨w.heap.size + 1, 0, none⟩ = some (.string o.path) ∧ wx.cell? ⟨w.heap.size + 1, 4, none⟩ = some (.slice o.A o.ps.length o.c) ∧ Hid (Below w'.heap.size w' wx))
        ((refine hk _ ?_; repeat' first | exact Below.refl _ _ | exact Hid.out (by assumption) | refine below_drew1 ?_ | refine below_al ?_ _ | refine below_set ?_ (by omega) _ _))
        (first
          | (refine step_app (by rfl) _ _ _ (by rfl) (.slice (some ⟨_, 0, none⟩) 0 0) (.slice o.A o.ps.length o.c) (by rfl) (by rfl) (OwnS.app (base := w'.heap.size) (l := []) (by repeat' first | exact OwnS.new' _ (by simp) (by simp) | refine OwnS.drew1 ?_ | refine OwnS.al ?_ _) _ o.A o.ps o.c (hs.out.oo.p.below (by repeat' first | exact Below.refl _ _ | exact Hid.out (by assumption) | refine below_drew1 ?_ | refine below_al ?_ _)) (by have hl3 := HL30.out; show 0 + o.ps.length ≤ 1000; omega) (by simp <;> omega)) ?_
             intro v1 w2 hF
             obtain ⟨hown, hbel, hkeep⟩ := hF
             obtain ⟨A1, k1, rfl, _, _, hst⟩ := OwnS.form hown
             have HST := Lib.hid hst
             have HB2 : Hid (Below w'.heap.size w' w2) := Lib.hid (Below.trans (by repeat' first | exact Below.refl _ _ | exact Hid.out (by assumption) | refine below_drew1 ?_ | refine below_al ?_ _) hbel)
             have hsz2 : w'.heap.size ≤ w2.heap.size := HB2.out.size
             clear hown hbel hst
             simp only [List.nil_append] at HST ⊢
             first
               | (have hz := hkeep w'.heap.size Rt.zero.cells 34 (fun e => absurd (Option.some.inj e) (Nat.ne_of_lt (Nat.lt_succ_self _))) (Blk.drew1 (Blk.alloc (Blk.drew1 (Blk.new' _ _ _ rfl)) _))
                  have HZ := Lib.hid hz; clear hz)
               | (have hz := hkeep (w'.heap.size + 1) Rt.zero.cells 34 (fun e => absurd (Option.some.inj e) (Nat.ne_of_gt (Nat.lt_succ_self _))) (Blk.drew1 (Blk.new' _ _ _ (alloc_size _ _).symm))
                  have HZ := Lib.hid hz; clear hz)
               | skip
             clear hkeep)
          | (go_at_call 15
             refine Calls.mono (hpk _ _ _ (Lib.hid (hs.out.next (by repeat' first | exact Below.refl _ _ | exact Hid.out (by assumption) | refine below_drew1 ?_ | refine below_al ?_ _))) (Lib.hid (by repeat' first | exact Hid.out (by assumption) | refine Strs.drew1 ?_ | refine Strs.alloc ?_ _))) ?_
             rintro e w3 ⟨rfl, h3⟩
             have HB3 : Hid (Below w'.heap.size w' w3) := Lib.hid (Below.trans (by repeat' first | exact Below.refl _ _ | exact Hid.out (by assumption) | refine below_drew1 ?_ | refine below_al ?_ _) (Below.mono h3.out.2 (Below.size (by repeat' first | exact Below.refl _ _ | exact Hid.out (by assumption) | refine below_drew1 ?_ | refine below_al ?_ _))))
             have hsz3 : w'.heap.size ≤ w3.heap.size := HB3.out.size
             have HO3 := Lib.hid h3.out.1
             first
               | (have HZ3 := Lib.hid (Blk.below (by repeat' first | exact Hid.out (by assumption) | exact Blk.new' _ Rt.zero.cells 34 rfl | refine Blk.drew1 ?_ | refine Blk.alloc ?_ _) h3.out.2)
                  have z0 := (HZ3.out.cell 0).trans rfl
                  have z1 := (HZ3.out.cell 1).trans rfl
                  have z2 := (HZ3.out.cell 2).trans rfl
                  have zf := HZ3.out.frozen
                  clear h3)
               | clear h3)
          | fail)
      all_goals
        go_wp2
        go_meet
        refine ⟨_, rfl, rfl, Lib.hid ⟨hs.out.next (by repeat' first | exact Below.refl _ _ | exact Hid.out (by assumption) | refine below_drew1 ?_ | refine below_al ?_ _ | refine below_set ?_ (by omega) _ _), ?_⟩⟩
        repeat' first | exact ((Hid.out ‹Hid (Blk w3 _ _ _)›).set 0 _ |>.set 1 _).set 2 _ | exact Blk.new' _ _ _ (by first | rfl | simp) | refine Blk.drew1 ?_
    case rest =>
      obtain ⟨g, rfl, rfl, hcut⟩ := hcut
      clear f0 f1 f2 f3 f4 f5 f6 f7 f8 f9 f10 f11 p0 p1 p2 p3 p4 hs
      have hs := Lib.hid hcut.out.1
      go_upto_region 4 with (fail)
      go_cut [9, 10] (fun v9 v10 wx => ∃ g1 : Nat, v9 = .pointer (some ⟨g1, 0, none⟩) ∧ v10 = .bool (pickB o.path o.ps c.rs).isSome ∧ Hid (OW c o w wx ∧ Blk wx g ((pickB o.path o.ps c.rs).getD Rt.zero).cells 34 ∧ Blk wx g1 ((pickB o.path o.ps c.rs).getD Rt.zero).cells 34))
      case first =>
        obtain ⟨⟨f0, f1, f2, f3, f4, f5, f6, f7, f8, f9, f10, f11⟩, p0, p1, p2, p3, p4⟩ := hs.out.cells
        go_wp2_with (go_at_call 16; refine Calls.mono (ow_ref (c := c) (o := o) (w := w) hrs _ hs) ?_; rintro e w1 ⟨rfl, hb⟩)
        go_meet
        exact ⟨w1.heap.size, rfl, rfl, Lib.hid ⟨hb.out.1.next (below_alloc1 _ _), (hcut.out.2.below hb.out.2).alloc _, Blk.new w1 ((pickB o.path o.ps c.rs).getD Rt.zero).cells _⟩⟩
      case rest =>
        clear hs
        obtain ⟨g1, rfl, rfl, hcut⟩ := hcut
        have hs := Lib.hid hcut.out.1
        go_upto_region 5 with (fail)
        go_cut [11, 12] (fun v11 v12 wx => ∃ g2 : Nat, v11 = .pointer (some ⟨g2, 0, none⟩) ∧ v12 = .int .i64 (admitB c o n).2 ∧ Hid (OW c o w wx ∧ Blk wx g ((pickB o.path o.ps c.rs).getD Rt.zero).cells 34 ∧ Blk wx g1 ((pickB o.path o.ps c.rs).getD Rt.zero).cells 34 ∧ Blk wx g2 (admitB c o n).1.cells 34))
        case first =>
          obtain ⟨⟨f0, f1, f2, f3, f4, f5, f6, f7, f8, f9, f10, f11⟩, p0, p1, p2, p3, p4⟩ := hs.out.cells
          go_wp2_with (go_at_call 17; refine Calls.mono (ow_admit (c := c) (o := o) (w := w) hrs n _ hs) ?_; rintro e w1 ⟨rfl, hb⟩)
          go_meet
          exact ⟨w1.heap.size, rfl, rfl, Lib.hid ⟨hb.out.1.next (below_alloc1 _ _), (hcut.out.2.1.below hb.out.2).alloc _, (hcut.out.2.2.below hb.out.2).alloc _, Blk.new w1 (admitB c o n).1.cells _⟩⟩
        case rest =>
          clear hs
          obtain ⟨g2, rfl, rfl, hcut⟩ := hcut
          have hs := Lib.hid hcut.out.1
          go_upto_region 6 with (fail)
          go_cut [13, 14] (fun v13 v14 wx => ∃ g3 : Nat, v13 = .pointer (some ⟨g3, 0, none⟩) ∧ v14 = .int .i64 (admitB c o n).2 ∧ Hid (OW c o w wx ∧ Blk wx g ((pickB o.path o.ps c.rs).getD Rt.zero).cells 34 ∧ Blk wx g1 ((pickB o.path o.ps c.rs).getD Rt.zero).cells 34 ∧ Blk wx g2 (admitB c o n).1.cells 34 ∧ Blk wx g3 (admitB c o n).1.cells 34))
          case first =>
            obtain ⟨⟨f0, f1, f2, f3, f4, f5, f6, f7, f8, f9, f10, f11⟩, p0, p1, p2, p3, p4⟩ := hs.out.cells
            go_wp2_with (go_at_call 18; refine Calls.mono (ow_refadmit (c := c) (o := o) (w := w) hrs n _ hs) ?_; rintro e w1 ⟨rfl, hb⟩)
            go_meet
            exact ⟨w1.heap.size, rfl, rfl, Lib.hid ⟨hb.out.1.next (below_alloc1 _ _), (hcut.out.2.1.below hb.out.2).alloc _, (hcut.out.2.2.1.below hb.out.2).alloc _, (hcut.out.2.2.2.below hb.out.2).alloc _, Blk.new w1 (admitB c o n).1.cells _⟩⟩
          case rest =>
            clear hs
            obtain ⟨g3, rfl, rfl, hcut⟩ := hcut
            go_upto_region 7 with (fail)
            have a0 := (hcut.out.2.1.cell 0).trans rfl
            have a1 := (hcut.out.2.1.cell 1).trans rfl
            have a2 := (hcut.out.2.1.cell 2).trans rfl
            have b0 := (hcut.out.2.2.1.cell 0).trans rfl
            have b1 := (hcut.out.2.2.1.cell 1).trans rfl
            have b2 := (hcut.out.2.2.1.cell 2).trans rfl
            have c0 := (hcut.out.2.2.2.1.cell 0).trans rfl
            have c1 := (hcut.out.2.2.2.1.cell 1).trans rfl
            have c2 := (hcut.out.2.2.2.1.cell 2).trans rfl
            have d0 := (hcut.out.2.2.2.2.cell 0).trans rfl
            have d1 := (hcut.out.2.2.2.2.cell 1).trans rfl
            have d2 := (hcut.out.2.2.2.2.cell 2).trans rfl
            have e1 := fun (d : Nat) (w : World) => eqR_same d w ((pickB o.path o.ps c.rs).getD Rt.zero)
            have e2 := fun (d : Nat) (w : World) => eqR_same d w (admitB c o n).1
            have HBEL := Lib.hid hcut.out.1.bel
            clear hcut
            go_wp2
            go_ret
            exact ⟨rfl, HBEL.out⟩
  · have HN := Lib.hid hfew
    clear hfew hlen
    cases fb <;> cases f6
    all_goals
      go_enter Try.func4, Try.ntmps4
      go_upto_region 1 with (fail)
      rw [← hW]
      clear hW
      go_wp2_with (first
        | (go_at_call 10; refine Calls.mono (ow_awake (c := c) (o := o) (w := w) _ (by assumption)) ?_; rintro e w1 ⟨rfl, hs⟩; obtain ⟨⟨f0, f1, f2, f3, f4, f5, f6, f7, f8, f9, f10, f11⟩, p0, p1, p2, p3, p4⟩ := hs.out.cells)
        | (go_at_call 11; refine Calls.mono (hF _ (by assumption)) ?_; rintro e w1 ⟨rfl, hs⟩; obtain ⟨⟨f0, f1, f2, f3, f4, f5, f6, f7, f8, f9, f10, f11⟩, p0, p1, p2, p3, p4⟩ := hs.out.cells)
        | (go_at_call 14; refine Calls.mono (hF6 _ (by assumption)) ?_; rintro e w' ⟨rfl, rfl⟩))
      all_goals first
        | (exfalso; omega)
        | (exfalso; have hn := HN.out; simp only [true_and] at hn; omega)
        | (go_ret; exact ⟨rfl, hs.out.bel⟩)
end Go.Proofs.Ythdmibjeomhibaa
