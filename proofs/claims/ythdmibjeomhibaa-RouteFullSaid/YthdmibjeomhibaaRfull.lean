/- The law RouteFull: of every configuration and offer whose slices can be read, it answers yes. -/
import Derived.Test.YthdmibjeomhibaaRroot
namespace Go.Proofs.Ythdmibjeomhibaa
set_option linter.unusedSimpArgs false
set_option linter.unusedVariables false
open Go.RowKit
theorem allowed_more (s : ByteArray) (os : List ByteArray) : allowedB s (os ++ [s]) = true := by
  rw [allowedB]; simp [inB]
/-- What refusals with fewer sessions, with more, and with one origin more come to. -/
theorem full_law (c : Cfg) (o : Off) (a b : Int) (h : a ≤ b) (A : Option Addr) (k : Nat) :
    ((admitB c o a).2 = 403 ∧ (admitB c o b).2 = 403 ∧ ((admitB (c.withO A k (c.os ++ [o.origin])) o a).2 == 403) = false) ∨
    ((admitB c o a).2 = 404 ∧ (admitB c o b).2 = 404 ∧ (admitB (c.withO A k (c.os ++ [o.origin])) o a).2 = 404 ∧ (admitB (c.withO A k (c.os ++ [o.origin])) o a).1 = (admitB c o a).1) ∨
    ((admitB c o a).2 = 0 ∧ (admitB c o b).2 = 0 ∧ (admitB c o b).1 = (admitB c o a).1 ∧ (admitB (c.withO A k (c.os ++ [o.origin])) o a).2 = 0 ∧ (admitB (c.withO A k (c.os ++ [o.origin])) o a).1 = (admitB c o a).1) ∨
    ((admitB c o a).2 = 0 ∧ (admitB c o b).2 = 503 ∧ (admitB (c.withO A k (c.os ++ [o.origin])) o a).2 = 0 ∧ (admitB (c.withO A k (c.os ++ [o.origin])) o a).1 = (admitB c o a).1) ∨
    ((admitB c o a).2 = 503 ∧ (admitB c o b).2 = 503 ∧ (admitB (c.withO A k (c.os ++ [o.origin])) o a).2 = 503 ∧ (admitB (c.withO A k (c.os ++ [o.origin])) o a).1 = (admitB c o a).1) := by
  have hd : ∀ n, admitB (c.withO A k (c.os ++ [o.origin])) o n = match pickB o.path o.ps c.rs with | none => (Rt.zero, 404) | some r => if n ≥ c.n2 then (Rt.zero, 503) else (r, 0) := fun n => by
    unfold admitB
    rw [show (c.withO A k (c.os ++ [o.origin])).os = c.os ++ [o.origin] from rfl, allowed_more, if_pos rfl]; rfl
  rw [hd]
  cases hal : allowedB o.origin c.os with
  | false =>
    have e : ∀ n, admitB c o n = (Rt.zero, 403) := fun n => by unfold admitB; rw [hal]; rfl
    rw [e, e]
    refine .inl ⟨rfl, rfl, ?_⟩
    cases pickB o.path o.ps c.rs with
    | none => rfl
    | some r => by_cases hn : a ≥ c.n2 <;> simp [hn]
  | true =>
    have e : ∀ n, admitB c o n = match pickB o.path o.ps c.rs with | none => (Rt.zero, 404) | some r => if n ≥ c.n2 then (Rt.zero, 503) else (r, 0) := fun n => by unfold admitB; rw [hal, if_pos rfl]; rfl
    rw [e, e]
    cases pickB o.path o.ps c.rs with
    | none => exact .inr (.inl ⟨rfl, rfl, rfl, rfl⟩)
    | some r =>
      by_cases ha : a ≥ c.n2
      · have hb : b ≥ c.n2 := by omega
        simp only [if_pos ha, if_pos hb]
        exact .inr (.inr (.inr (.inr ⟨trivial, trivial, trivial, trivial⟩)))
      · by_cases hb : b ≥ c.n2
        · simp only [if_neg ha, if_pos hb]
          exact .inr (.inr (.inr (.inl ⟨trivial, trivial, trivial, trivial⟩)))
        · simp only [if_neg ha, if_neg hb]
          exact .inr (.inr (.inl ⟨trivial, trivial, trivial, trivial, trivial⟩))
theorem withO_ok {c : Cfg} {wx : World} (h : c.Ok wx) {A : Option Addr} {k : Nat} {os : List ByteArray} (hn : os.length ≤ maxLen) (ho : Strs wx A os) : (c.withO A k os).Ok wx := ⟨h.rl, h.rc, h.cm, hn, h.r, ho⟩
theorem OW.re {c : Cfg} {o : Off} {w w1 : World} (hc : c.Ok w) (ho : o.Ok w) (hb : Below w.heap.size w w1) (hB : Blk w1 w.heap.size c.cells 25) (hO : Blk w1 (w.heap.size + 1) o.cells 31) : OW c o w w1 :=
  ⟨hb, hB, hO, hc.below hb, ⟨ho.pl, ho.p.below hb, ho.path⟩⟩
theorem ow_admit' {c d : Cfg} {o : Off} {w : World} (hd : Rts.Ok d.rs) (n : Int) (wx : World) (h : Hid (OW c o w wx)) (hk : d.Ok wx) {x : Rt} {m : Int} (hx : admitB d o n = (x, m)) :
    Calls Try.prog 17 #[d.val, o.val, .int .i64 n] wx fun e w' => e = .returned (.tuple #[x.val, .int .i64 m]) ∧ Hid (OW c o w w' ∧ Below wx.heap.size wx w') :=
  (Admit_calls d o n wx hk h.out.oo hd).mono fun _ _ ⟨he, hb⟩ => ⟨by rw [hx] at he; exact he, Lib.hid ⟨h.out.next hb, hb⟩⟩
set_option maxRecDepth 1000000 in
set_option maxHeartbeats 8000000 in
theorem RouteFull_calls (c : Cfg) (o : Off) (a b : Int) (w : World) (hc : c.Ok w) (ho : o.Ok w) (hor : o.origin.size ≤ maxLen) (hrs : Rts.Ok c.rs) :
    Calls Try.prog 8 #[c.val, o.val, .int .i64 a, .int .i64 b] w fun e w' => e = .returned (.bool true) ∧ Below w.heap.size w w' := by
  obtain ⟨W, hW⟩ : ∃ W, W = (w.alloc (.cells c.cells 25 (0, 0))).alloc (.cells o.cells 31 (0, 0)) := ⟨_, rfl⟩
  have hS : Hid (OW c o w W) := Lib.hid (by rw [hW]; exact OW.start hc ho)
  have hF := fun wx => ow_few (c := c) (o := o) (w := w) wx
  have hF6 := fun wx => ow_few6 (c := c) (o := o) (w := w) wx
  have hpl := ho.pl
  have hpp := ho.path
  have HCO := Lib.hid (And.intro hc ho)
  clear hc ho
  unfold maxLen at hpl hpp hor
  have HL := Lib.hid (few15_len (c := c))
  generalize few15 c = fb at hF HL
  generalize fewB o.ps = f6 at hF6
  by_cases hfew : fb = true ∧ f6 = true ∧ o.path.size ≤ 300 ∧ o.origin.size ≤ 300 ∧ a ≤ b
  · obtain ⟨rfl, rfl, hb1, hb2, hab⟩ := hfew
    have HL30 := Lib.hid (HL.out rfl)
    clear HL
    have hd1 : decide (300 < (o.path.size : Int)) = false := decide_eq_false (by omega)
    have hd2 : decide (300 < (o.origin.size : Int)) = false := decide_eq_false (by omega)
    have hd3 : decide (b < a) = false := decide_eq_false (by omega)
    obtain ⟨xa, na, hpa⟩ : ∃ x n, admitB c o a = (x, n) := ⟨_, _, rfl⟩
    obtain ⟨xb, nb, hpb⟩ : ∃ x n, admitB c o b = (x, n) := ⟨_, _, rfl⟩
    have HFL : Hid (∀ A k, _) := Lib.hid fun A k => full_law c o a b hab A k
    rw [hpa, hpb] at HFL
    have HPA := Lib.hid hpa
    have HPB := Lib.hid hpb
    clear hpa hpb hab
    go_enter Try.func8, Try.ntmps8
    go_upto_region 1 with (fail)
    rw [← hW]
    clear hW
    go_upto_region 3 with (first
      | (go_at_call 10; refine Calls.mono (ow_awake (c := c) (o := o) (w := w) _ (by assumption)) ?_; rintro e w1 ⟨rfl, hs⟩; obtain ⟨⟨f0, f1, f2, f3, f4, f5, f6, f7, f8, f9, f10, f11⟩, p0, p1, p2, p3, p4⟩ := hs.out.cells)
      | (go_at_call 11; refine Calls.mono (hF _ (by assumption)) ?_; clear f0 f1 f2 f3 f4 f5 f6 f7 f8 f9 f10 f11 p0 p1 p2 p3 p4 hs; rintro e w1 ⟨rfl, hs⟩; obtain ⟨⟨f0, f1, f2, f3, f4, f5, f6, f7, f8, f9, f10, f11⟩, p0, p1, p2, p3, p4⟩ := hs.out.cells)
      | (go_at_call 14; refine Calls.mono (hF6 _ (by assumption)) ?_; rintro e w' ⟨rfl, rfl⟩))
    clear hF hF6
    go_cut [9, 10] (fun v9 v10 wx => ∃ g : Nat, v9 = .pointer (some ⟨g, 0, none⟩) ∧ v10 = .int .i64 na ∧ Hid (OW c o w wx ∧ Blk wx g xa.cells 34))
    case first =>
      go_wp2_with (go_at_call 17; refine Calls.mono (ow_admit' hrs a _ hs hs.out.ok HPA.out) ?_; rintro e w2 ⟨rfl, hb⟩)
      go_meet
      exact ⟨w2.heap.size, rfl, rfl, Lib.hid ⟨hb.out.1.next (below_alloc1 _ _), Blk.new w2 xa.cells _⟩⟩
    case rest =>
      clear hs f0 f1 f2 f3 f4 f5 f6 f7 f8 f9 f10 f11 p0 p1 p2 p3 p4
      obtain ⟨g, rfl, rfl, hcut⟩ := hcut
      have hs := Lib.hid hcut.out.1
      go_upto_region 4 with (fail)
      go_cut [11, 12] (fun v11 v12 wx => ∃ g1 : Nat, v11 = .pointer (some ⟨g1, 0, none⟩) ∧ v12 = .int .i64 nb ∧ Hid (OW c o w wx ∧ Blk wx g xa.cells 34 ∧ Blk wx g1 xb.cells 34))
      case first =>
        obtain ⟨⟨f0, f1, f2, f3, f4, f5, f6, f7, f8, f9, f10, f11⟩, p0, p1, p2, p3, p4⟩ := hs.out.cells
        go_wp2_with (go_at_call 17; refine Calls.mono (ow_admit' hrs b _ hs hs.out.ok HPB.out) ?_; rintro e w2 ⟨rfl, hb⟩)
        go_meet
        exact ⟨w2.heap.size, rfl, rfl, Lib.hid ⟨hb.out.1.next (below_alloc1 _ _), (hcut.out.2.below hb.out.2).alloc _, Blk.new w2 xb.cells _⟩⟩
      case rest =>
        clear hs
        obtain ⟨g1, rfl, rfl, hcut⟩ := hcut
        go_upto_region 5 with (fail)
        have HC4 := hcut
        go_cut [95] (fun v95 wx => v95 = .bool false ∧ wx = wc)
        case first =>
          have a0 : wc.cell? ⟨g, 0, none⟩ = some (.string xa.pre) := (hcut.out.2.1.cell 0).trans rfl
          have a1 : wc.cell? ⟨g, 1, none⟩ = some (.string xa.pro) := (hcut.out.2.1.cell 1).trans rfl
          have a2 : wc.cell? ⟨g, 2, none⟩ = some (.string xa.dst) := (hcut.out.2.1.cell 2).trans rfl
          have b0 : wc.cell? ⟨g1, 0, none⟩ = some (.string xb.pre) := (hcut.out.2.2.cell 0).trans rfl
          have b1 : wc.cell? ⟨g1, 1, none⟩ = some (.string xb.pro) := (hcut.out.2.2.cell 1).trans rfl
          have b2 : wc.cell? ⟨g1, 2, none⟩ = some (.string xb.dst) := (hcut.out.2.2.cell 2).trans rfl
          have e1 := fun (d : Nat) (w : World) => eqR_same d w xa
          have hfl := HFL.out none 0
          clear HFL HPA HPB
          clear hcut
          rcases hfl with ⟨h1, h2, -⟩ | ⟨h1, h2, -, -⟩ | ⟨h1, h2, h3, -, -⟩ | ⟨h1, h2, -, -⟩ | ⟨h1, h2, -, -⟩
          all_goals
            try dsimp only at h1 h2
            try dsimp only at h3
            subst h1 h2
            try subst h3
            go_wp2
            go_meet
            exact ⟨rfl, rfl⟩
        case rest =>
          obtain ⟨rfl, hw⟩ := hcut
          subst hw
          clear hcut
          have hs := Lib.hid HC4.out.1
          go_upto_region 7 with (fail)
          go_cut [13] (fun v13 wx => ∃ gd : Nat, v13 = .pointer (some ⟨gd, 0, none⟩) ∧ Hid (w.heap.size + 1 < gd ∧ g < gd) ∧ Hid (OW c o w wx ∧ Blk wx g xa.cells 34 ∧ Blk wx gd c.cells 25))
          case first =>
            obtain ⟨⟨f0, f1, f2, f3, f4, f5, f6, f7, f8, f9, f10, f11⟩, p0, p1, p2, p3, p4⟩ := hs.out.cells
            go_wp2
            go_meet
            exact ⟨wc.heap.size, rfl, Lib.hid ⟨hs.out.ob.lt, HC4.out.2.1.lt⟩, Lib.hid ⟨hs.out.next (below_alloc1 _ _), HC4.out.2.1.alloc _, Blk.new wc c.cells _⟩⟩
          case rest =>
            clear hs HC4
            obtain ⟨gd, rfl, HG, hcut⟩ := hcut
            have hs := Lib.hid hcut.out.1
            obtain ⟨os', hos'⟩ : ∃ os', os' = c.os ++ [o.origin] := ⟨_, rfl⟩
            have HOS := Lib.hid hos'
            have HON : Hid (os'.length ≤ maxLen) := Lib.hid (by rw [hos', List.length_append]; have h3 := HL30.out.2; show c.os.length + 1 ≤ maxLen; unfold maxLen; omega)
            rw [← hos'] at HFL
            clear hos'
            go_upto_region 8 with (fail)
            go_cut [97] (fun v97 wx => ∃ (A : Option Addr) (k : Nat), Hid (OW c o w wx ∧ Blk wx g xa.cells 34 ∧ Blk wx gd (c.withO A k os').cells 25 ∧ (c.withO A k os').Ok wx))
            case first =>
              have hk : ∀ wx, OW c o w wx → wx.cell? ⟨w.heap.size, 1, none⟩ = some (.slice c.A1 c.os.length c.c1) ∧ wx.cell? ⟨w.heap.size + 1, 3, none⟩ = some (.string o.origin) ∧ Hid (OW c o w wx) := fun wx h => ⟨h.cells.1.f1, h.cells.2.2.2.2.1, Lib.hid h⟩
              go_region_held3 (fun wx => wx.cell? ⟨w.heap.size, 1, none⟩ = some (.slice c.A1 c.os.length c.c1) ∧ wx.cell? ⟨w.heap.size + 1, 3, none⟩ = some (.string o.origin) ∧ Hid (OW c o w wx))
                (first
                  | (refine hk _ (hs.out.next ?_); (repeat' first | exact Below.refl _ _ | exact Hid.out (by assumption) | refine below_drew1 ?_ | refine below_al ?_ _); done)
                  | exact hk _ (HSET.out _))
                (first
                  | (refine step_app (by rfl) _ _ _ (by rfl) (.slice (some ⟨_, 0, none⟩) 0 0) (.slice c.A1 c.os.length c.c1) (by rfl) (by rfl) (OwnS.app (base := wc.heap.size) (l := []) (by repeat' first | exact OwnS.new' _ (by simp) (by simp) | refine OwnS.drew1 ?_ | refine OwnS.al ?_ _) _ c.A1 c.os c.c1 (hs.out.ok.o.below (by repeat' first | exact Below.refl _ _ | exact Hid.out (by assumption) | refine below_drew1 ?_ | refine below_al ?_ _)) (by have hl3 := HL30.out.2; show 0 + c.os.length ≤ 1000; omega) (by simp <;> omega)) ?_
                     intro v1 w2 hF
                     obtain ⟨hown, hbel, hkeep⟩ := hF
                     obtain ⟨A1, k1, rfl, _, _, hst⟩ := OwnS.form hown
                     have HOWN := Lib.hid hown
                     have HB2 : Hid (Below wc.heap.size wc w2) := Lib.hid (Below.trans (by repeat' first | exact Below.refl _ _ | exact Hid.out (by assumption) | refine below_drew1 ?_ | refine below_al ?_ _) hbel)
                     have hsz2 : wc.heap.size ≤ w2.heap.size := HB2.out.size
                     clear hown hbel hst
                     simp only [List.nil_append] at HOWN ⊢
                     first
                       | (have hz := hkeep wc.heap.size #[.string o.origin] 9 (fun e => absurd (Option.some.inj e) (Nat.ne_of_lt (Nat.lt_succ_self _))) (Blk.drew1 (Blk.alloc (Blk.drew1 (Blk.new' _ _ _ rfl)) _))
                          have HZ := Lib.hid hz; clear hz)
                       | (have hz := hkeep (wc.heap.size + 1) #[.string o.origin] 9 (fun e => absurd (Option.some.inj e) (Nat.ne_of_gt (Nat.lt_succ_self _))) (Blk.drew1 (Blk.new' _ _ _ (alloc_size _ _).symm))
                          have HZ := Lib.hid hz; clear hz)
                       | skip
                     clear hkeep)
                  | (refine step_app (by rfl) _ _ _ (by rfl) (.slice _ c.os.length _) (.slice (some ⟨_, 0, none⟩) 1 1) (by rfl) (by rfl) (OwnS.app (base := wc.heap.size) (l := c.os) (by repeat' first | exact HOWN.out | refine OwnS.drew1 ?_ | refine OwnS.al ?_ _) _ _ [o.origin] 1 (Strs_one (by repeat' first | exact Hid.out (by assumption) | exact Blk.new' _ _ _ rfl | refine Blk.drew1 ?_ | refine Blk.alloc ?_ _)) (by have hl3 := HL30.out.2; show c.os.length + 1 ≤ 1000; omega) (Below.size (by repeat' first | exact Below.refl _ _ | exact Hid.out (by assumption) | refine below_drew1 ?_ | refine below_al ?_ _))) ?_
                     intro v1 w3 hF
                     obtain ⟨hown, hbel, hkeep⟩ := hF
                     rw [← HOS.out] at hown
                     obtain ⟨A2, k2, rfl, hk1, hk2, hst⟩ := OwnS.form hown
                     have HST2 := Lib.hid hown
                     have HB3 : Hid (Below wc.heap.size wc w3) := Lib.hid (Below.trans (by repeat' first | exact Below.refl _ _ | exact Hid.out (by assumption) | refine below_drew1 ?_ | refine below_al ?_ _) hbel)
                     have HD := Lib.hid (hcut.out.2.2.below HB3.out)
                     have d0 : w3.cell? ⟨gd, 1, none⟩ = some (.slice c.A1 c.os.length c.c1) := (HD.out.cell 1).trans rfl
                     have df := HD.out.frozen 1
                     have HSET : Hid (∀ v, OW c o w (w3.setCell ⟨gd, 1, none⟩ v)) := Lib.hid fun v =>
                       OW.re HCO.out.1 HCO.out.2 (below_set (hs.out.next HB3.out).bel (by have := HG.out.1; omega) _ _) ((hs.out.next HB3.out).cb.far (by have := HG.out.1; omega) _ _) ((hs.out.next HB3.out).ob.far (Nat.ne_of_lt HG.out.1) _ _)
                     have HE : Hid (∀ v, Blk (w3.setCell ⟨gd, 1, none⟩ v) g xa.cells 34 ∧ Strs (w3.setCell ⟨gd, 1, none⟩ v) A2 os') := Lib.hid fun v => ⟨(hcut.out.2.1.below HB3.out).far (Nat.ne_of_lt HG.out.2) _ _, OwnS.strs_set HST2.out hcut.out.2.2.lt 1 v⟩
                     clear hown hbel hst hkeep hk1 hk2)
                  | fail)
              all_goals
                go_wp2
                go_meet
                exact ⟨A2, k2, Lib.hid ⟨HSET.out _, (HE.out _).1, HD.out.set 1 _, withO_ok (HSET.out _).ok HON.out (HE.out _).2⟩⟩
            case rest =>
              clear hs
              obtain ⟨A, k, hcut⟩ := hcut
              obtain ⟨xz, nz, hpz⟩ : ∃ x n, admitB (c.withO A k os') o a = (x, n) := ⟨_, _, rfl⟩
              have hfl := HFL.out A k
              rw [hpz] at hfl
              have HFL2 := Lib.hid hfl
              have HPZ := Lib.hid hpz
              clear hpz hfl HFL
              go_upto_region 9 with (fail)
              go_cut [14, 15] (fun v14 v15 wx => ∃ g2 : Nat, v14 = .pointer (some ⟨g2, 0, none⟩) ∧ v15 = .int .i64 nz ∧ Hid (OW c o w wx ∧ Blk wx g xa.cells 34 ∧ Blk wx g2 xz.cells 34))
              case first =>
                have hpk : Calls Try.prog 17 #[.agg #[.slice c.A0 c.rs.length c.c0, .slice A os'.length k, .int .i64 c.n2, .int .i64 c.n3, .int .i64 c.n4, .int .i64 c.n5, .int .i64 c.n6, .int .i64 c.n7, .int .i64 c.n8, .int .i64 c.n9, .int .i64 c.n10, .int .i64 c.n11], o.val, .int .i64 a] wc fun e w' =>
                    e = .returned (.tuple #[xz.val, .int .i64 nz]) ∧ Hid (OW c o w w' ∧ Below wc.heap.size wc w') :=
                  ow_admit' (c := c) (d := c.withO A k os') (o := o) (w := w) hrs a wc (Lib.hid hcut.out.1) hcut.out.2.2.2 HPZ.out
                obtain ⟨-, p0, p1, p2, p3, p4⟩ := hcut.out.1.cells
                have f := hcut.out.2.2.1.cell
                have f0 : wc.cell? ⟨gd, 0, none⟩ = some (.slice c.A0 c.rs.length c.c0) := (f 0).trans rfl
                have f1 : wc.cell? ⟨gd, 1, none⟩ = some (.slice A os'.length k) := (f 1).trans rfl
                have f2 : wc.cell? ⟨gd, 2, none⟩ = some (.int .i64 c.n2) := (f 2).trans rfl
                have f3 : wc.cell? ⟨gd, 3, none⟩ = some (.int .i64 c.n3) := (f 3).trans rfl
                have f4 : wc.cell? ⟨gd, 4, none⟩ = some (.int .i64 c.n4) := (f 4).trans rfl
                have f5 : wc.cell? ⟨gd, 5, none⟩ = some (.int .i64 c.n5) := (f 5).trans rfl
                have f6 : wc.cell? ⟨gd, 6, none⟩ = some (.int .i64 c.n6) := (f 6).trans rfl
                have f7 : wc.cell? ⟨gd, 7, none⟩ = some (.int .i64 c.n7) := (f 7).trans rfl
                have f8 : wc.cell? ⟨gd, 8, none⟩ = some (.int .i64 c.n8) := (f 8).trans rfl
                have f9 : wc.cell? ⟨gd, 9, none⟩ = some (.int .i64 c.n9) := (f 9).trans rfl
                have f10 : wc.cell? ⟨gd, 10, none⟩ = some (.int .i64 c.n10) := (f 10).trans rfl
                have f11 : wc.cell? ⟨gd, 11, none⟩ = some (.int .i64 c.n11) := (f 11).trans rfl
                clear f
                go_wp2_with (go_at_call 17; refine Calls.mono hpk ?_; rintro e w2 ⟨rfl, hb⟩)
                go_meet
                exact ⟨w2.heap.size, rfl, rfl, Lib.hid ⟨hb.out.1.next (below_alloc1 _ _), (hcut.out.2.1.below hb.out.2).alloc _, Blk.new w2 _ _⟩⟩
              case rest =>
                obtain ⟨g2, rfl, rfl, hcut⟩ := hcut
                go_upto_region 10 with (fail)
                have HBEL : Hid (Below w.heap.size w wc) := Lib.hid hcut.out.1.bel
                have a0 : wc.cell? ⟨g, 0, none⟩ = some (.string xa.pre) := (hcut.out.2.1.cell 0).trans rfl
                have a1 : wc.cell? ⟨g, 1, none⟩ = some (.string xa.pro) := (hcut.out.2.1.cell 1).trans rfl
                have a2 : wc.cell? ⟨g, 2, none⟩ = some (.string xa.dst) := (hcut.out.2.1.cell 2).trans rfl
                have b0 : wc.cell? ⟨g2, 0, none⟩ = some (.string xz.pre) := (hcut.out.2.2.cell 0).trans rfl
                have b1 : wc.cell? ⟨g2, 1, none⟩ = some (.string xz.pro) := (hcut.out.2.2.cell 1).trans rfl
                have b2 : wc.cell? ⟨g2, 2, none⟩ = some (.string xz.dst) := (hcut.out.2.2.cell 2).trans rfl
                have e1 := fun (d : Nat) (w : World) => eqR_same d w xa
                have hfl := HFL2.out
                clear HFL2 HPA HPB HPZ hcut
                rcases hfl with ⟨h1, h2, h3⟩ | ⟨h1, h2, h3, h4⟩ | ⟨h1, h2, -, h3, h4⟩ | ⟨h1, h2, h3, h4⟩ | ⟨h1, h2, h3, h4⟩
                · try dsimp only at h1 h3
                  subst h1
                  have h3' : (nz != 403) = true := by rw [bne, h3]; rfl
                  clear h2
                  go_wp2
                  go_ret
                  exact ⟨rfl, HBEL.out⟩
                all_goals
                  try dsimp only at h1 h3 h4
                  subst h1 h3 h4
                  clear h2
                  go_wp2
                  go_ret
                  exact ⟨rfl, HBEL.out⟩
  · have HN := Lib.hid hfew
    clear hfew HL
    cases fb <;> cases f6
    all_goals
      go_enter Try.func8, Try.ntmps8
      go_upto_region 1 with (fail)
      rw [← hW]
      clear hW
      go_wp2_with (first
        | (go_at_call 10; refine Calls.mono (ow_awake (c := c) (o := o) (w := w) _ (by assumption)) ?_; rintro e w1 ⟨rfl, hs⟩; obtain ⟨⟨f0, f1, f2, f3, f4, f5, f6, f7, f8, f9, f10, f11⟩, p0, p1, p2, p3, p4⟩ := hs.out.cells)
        | (go_at_call 11; refine Calls.mono (hF _ (by assumption)) ?_; rintro e w1 ⟨rfl, hs⟩; obtain ⟨⟨f0, f1, f2, f3, f4, f5, f6, f7, f8, f9, f10, f11⟩, p0, p1, p2, p3, p4⟩ := hs.out.cells)
        | (go_at_call 14; refine Calls.mono (hF6 _ (by assumption)) ?_; rintro e w' ⟨rfl, rfl⟩))
      all_goals first
        | (exfalso; omega)
        | (exfalso; have hn := HN.out; simp only [true_and] at hn; omega)
        | (go_ret; exact ⟨rfl, hs.out.bel⟩)
end Go.Proofs.Ythdmibjeomhibaa
