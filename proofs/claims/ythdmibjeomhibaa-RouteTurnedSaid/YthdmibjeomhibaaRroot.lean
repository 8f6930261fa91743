/- The law RouteRoot: of every configuration whose slices can be read, and every path, it answers yes. -/
import Derived.Test.YthdmibjeomhibaaRs
namespace Go.Proofs.Ythdmibjeomhibaa
set_option linter.unusedSimpArgs false
set_option linter.unusedVariables false
open Go.RowKit
theorem heap_far {w : World} {g K i : Nat} {v : Value} (hn : g ≠ K) : (w.setCell ⟨K, i, none⟩ v).heap[g]? = w.heap[g]? := by
  unfold World.setCell
  simp [Array.getElem?_modify, Ne.symm hn]
theorem owns_set {w : World} {base size : Nat} {e : TypeId} {v : Value} {n : Nat} {xs : List Value} (h : w.ownsRow base e size v n xs) {K : Nat} (hK : K < base) (i : Nat) (x : Value) : (w.setCell ⟨K, i, none⟩ x).ownsRow base e size v n xs := by
  refine ⟨h.1, ?_⟩
  rcases h.2 with h2 | ⟨g, cap, cur, hv, hb, hg, hr⟩
  · exact .inl h2
  · exact .inr ⟨g, cap, cur, hv, hb, (heap_far (by omega)).trans hg, hr⟩
theorem OwnR.rts_set {w : World} {base : Nat} {A : Option Addr} {k m : Nat} {l : List Rt} (h : OwnR w base (.slice A m k) l) {K : Nat} (hK : K < base) (i : Nat) (x : Value) : Rts (w.setCell ⟨K, i, none⟩ x) A l := by
  obtain ⟨A', c', e, _, _, hr⟩ := OwnR.form (w := w.setCell ⟨K, i, none⟩ x) (owns_set h hK i x)
  obtain ⟨rfl, _, _⟩ := Value.slice.inj e
  exact hr
theorem OwnS.strs_set {w : World} {base : Nat} {A : Option Addr} {k m : Nat} {l : List ByteArray} (h : OwnS w base (.slice A m k) l) {K : Nat} (hK : K < base) (i : Nat) (x : Value) : Strs (w.setCell ⟨K, i, none⟩ x) A l := by
  obtain ⟨A', c', e, _, _, hr⟩ := OwnS.form (w := w.setCell ⟨K, i, none⟩ x) (owns_set h hK i x)
  obtain ⟨rfl, _, _⟩ := Value.slice.inj e
  exact hr
theorem BW.re {c : Cfg} {A : Option Addr} {ps : List ByteArray} {w wx w1 : World} (h : BW c A ps w wx) (hc : c.Ok w) (hp : Strs w A ps) (hb : Below w.heap.size w w1) (hB : Blk w1 w.heap.size c.cells 25) : BW c A ps w w1 := ⟨hb, hB, hc.below hb, hp.below hb⟩
def rootR : Rt := ⟨⟨#[47]⟩, ⟨#[]⟩, ⟨#[97, 108, 108]⟩⟩
theorem root_below {path : ByteArray} (h0 : 0 < path.size) (h : path[0] = 47) : belowB (bs path) [47] = true := by
  cases hl : bs path with
  | nil => 
    have e := bs_length path
    rw [hl] at e
    exact absurd e (Nat.ne_of_lt h0)
  | cons x t =>
    have e := bs_get? path 0 h0
    rw [hl, List.getElem?_cons_zero] at e
    obtain rfl : x = 47 := (Option.some.inj e).trans h
    rw [belowB, cutB, List.takeWhile_cons, if_pos (by decide), belowL]
    simp [List.isPrefixOf]
theorem root_fits {path : ByteArray} (h0 : 0 < path.size) (h : path[0] = 47) : fitsB path [] rootR = true := by
  rw [fitsB, show bs rootR.pre = [47] from rfl, root_below h0 h, show rootR.pro.toList = [] by rw [toList_bs]; rfl]; rfl
theorem root_law {path : ByteArray} (h0 : 0 < path.size) (h : path[0] = 47) (rs : List Rt) :
    (pickB path [] rs = none ∧ pickB path [] (rs ++ [rootR]) = some rootR) ∨ (∃ b, pickB path [] rs = some b ∧ pickB path [] (rs ++ [rootR]) = some b) ∨
    (∃ b, pickB path [] rs = some b ∧ b.pre.size = 0 ∧ pickB path [] (rs ++ [rootR]) = some rootR) := by
  rw [pick_more]
  cases hp : pickB path [] rs with
  | none => exact .inl ⟨rfl, step_first (root_fits h0 h)⟩
  | some b =>
    rw [step_more (root_fits h0 h), better_key]
    by_cases hk : keyR b < keyR rootR
    · refine .inr (.inr ⟨b, rfl, ?_, by rw [decide_eq_true hk, if_pos rfl]⟩)
      have e : keyR rootR = 2 := by rw [keyR, show rootR.pro.toList = [] by rw [toList_bs]; rfl]; rfl
      rw [e, keyR] at hk
      split at hk <;> omega
    · exact .inr (.inl ⟨b, rfl, by rw [decide_eq_false hk, if_neg (by simp)]⟩)
theorem root_ok : rootR.Ok := ⟨aw_small _ (by decide), aw_small _ (by decide), aw_small _ (by decide)⟩
theorem withR_ok {c : Cfg} {wx : World} (h : c.Ok wx) {A : Option Addr} {k : Nat} {rs : List Rt} (hn : rs.length ≤ k) (hk : k ≤ maxLen) (hr : Rts wx A rs) : (c.withR A k rs).Ok wx := ⟨Nat.le_trans hn hk, hn, hk, h.ol, hr, h.o⟩
theorem rsok_app {rs : List Rt} (h : Rts.Ok rs) {r : Rt} (hr : r.Ok) : Rts.Ok (rs ++ [r]) := ⟨fun x hx => by
  rcases List.mem_append.1 hx with hx | hx
  · exact h.ok x hx
  · rw [List.mem_singleton] at hx; subst hx; exact hr⟩
theorem bw_pick0 {c d : Cfg} {w : World} (path : ByteArray) (hp : path.size ≤ maxLen) (wx : World) (h : Hid (BW c none [] w wx)) (hd : Hid (d.Ok wx ∧ Rts.Ok d.rs)) :
    Calls Try.prog 15 #[d.val, .string path, .slice none 0 0] wx fun e w' =>
      e = .returned (.tuple #[((pickB path [] d.rs).getD Rt.zero).val, .bool (pickB path [] d.rs).isSome]) ∧ Hid (BW c none [] w w' ∧ Below wx.heap.size wx w') :=
  (Pick_calls d path none 0 [] wx hd.out.1 hp hd.out.2 (by decide) (fun i hi => absurd hi (Nat.not_lt_zero i))).mono fun _ _ ⟨he, hb⟩ => ⟨he, Lib.hid ⟨h.out.next hb, hb⟩⟩
set_option maxRecDepth 100000 in
set_option maxHeartbeats 8000000 in
theorem RouteRoot_calls (c : Cfg) (path : ByteArray) (w : World) (hc : c.Ok w) (hp : path.size ≤ maxLen) (hrs : Rts.Ok c.rs) :
    Calls Try.prog 9 #[c.val, .string path] w fun e w' => e = .returned (.bool true) ∧ Below w.heap.size w w' := by
  obtain ⟨W, hW⟩ : ∃ W, W = w.alloc (.cells c.cells 25 (0, 0)) := ⟨_, rfl⟩
  have hS : Hid (BW c none [] w W) := Lib.hid (by rw [hW]; exact BW.start hc (fun i hi => absurd hi (Nat.not_lt_zero i)))
  have hF := fun wx => bw_few (c := c) (A := none) (ps := []) (w := w) wx
  have HPL := Lib.hid hp
  have HC := Lib.hid hc
  clear hc
  unfold maxLen at hp
  have HL := Lib.hid (few15_len (c := c))
  generalize few15 c = fb at hF HL
  by_cases hfew : fb = true ∧ path.size ≤ 300 ∧ ∃ h : 0 < path.size, path[0] = 47
  · obtain ⟨rfl, hb1, h0, h47⟩ := hfew
    have HL30 := Lib.hid (HL.out rfl)
    clear HL
    obtain ⟨rs', hrs'⟩ : ∃ rs', rs' = c.rs ++ [rootR] := ⟨_, rfl⟩
    have HRS := Lib.hid hrs'
    have HRL := Lib.hid (root_law h0 h47 c.rs)
    rw [← hrs'] at HRL
    have HRO : Hid (Rts.Ok rs') := Lib.hid (by rw [hrs']; exact rsok_app hrs root_ok)
    clear hrs'
    have HBR := Lib.hid (root_below h0 h47)
    have hbr := fun w => Below_calls path ⟨#[47]⟩ w HPL.out (aw_small _ (by decide))
    rw [show belowB (bs path) (bs ⟨#[47]⟩) = true from HBR.out] at hbr
    have hd1 : decide (300 < (path.size : Int)) = false := decide_eq_false (by omega)
    have hd2 : ((path.size : Int) == 0) = false := beq_eq_false_iff_ne.2 (by omega)
    have hd3 : ((path[0].toNat : Int) != 47) = false := by rw [h47]; rfl
    clear h47
    go_enter Try.func9, Try.ntmps9
    go_upto_region 1 with (fail)
    rw [← hW]
    clear hW
    go_upto_region 3 with (first
      | (go_at_call 10; refine Calls.mono (bw_awake (c := c) (A := none) (ps := []) (w := w) _ (by assumption)) ?_; rintro e w1 ⟨rfl, hs⟩; obtain ⟨f0, f1, f2, f3, f4, f5, f6, f7, f8, f9, f10, f11⟩ := hs.out.cells)
      | (go_at_call 11; refine Calls.mono (hF _ (by assumption)) ?_; clear f0 f1 f2 f3 f4 f5 f6 f7 f8 f9 f10 f11 hs; rintro e w1 ⟨rfl, hs⟩; obtain ⟨f0, f1, f2, f3, f4, f5, f6, f7, f8, f9, f10, f11⟩ := hs.out.cells))
    clear hF
    generalize hst : pickB path [] c.rs = st at HRL
    have HST := Lib.hid hst
    clear hst
    go_cut [5, 6] (fun v5 v6 wx => ∃ g : Nat, v5 = .pointer (some ⟨g, 0, none⟩) ∧ v6 = .bool st.isSome ∧ Hid (BW c none [] w wx ∧ Blk wx g (st.getD Rt.zero).cells 34))
    case first =>
      have hpk := bw_pick0 (c := c) (d := c) (w := w) path HPL.out w1 hs (Lib.hid ⟨hs.out.ok, hrs⟩)
      rw [HST.out] at hpk
      go_wp2_with (go_at_call 15; refine Calls.mono hpk ?_; rintro e w2 ⟨rfl, hb⟩)
      go_meet
      exact ⟨w2.heap.size, rfl, rfl, Lib.hid ⟨hb.out.1.next (below_alloc1 _ _), Blk.new w2 _ _⟩⟩
    case rest =>
      obtain ⟨g, rfl, rfl, hcut⟩ := hcut
      clear hs f0 f1 f2 f3 f4 f5 f6 f7 f8 f9 f10 f11
      go_upto_region 4 with (fail)
      go_cut [7] (fun v7 wx => ∃ gd : Nat, v7 = .pointer (some ⟨gd, 0, none⟩) ∧ Hid (w.heap.size < gd ∧ g < gd) ∧ Hid (BW c none [] w wx ∧ Blk wx g (st.getD Rt.zero).cells 34 ∧ Blk wx gd c.cells 25))
      case first =>
        obtain ⟨f0, f1, f2, f3, f4, f5, f6, f7, f8, f9, f10, f11⟩ := hcut.out.1.cells
        go_wp2
        go_meet
        exact ⟨wc.heap.size, rfl, Lib.hid ⟨hcut.out.1.cb.lt, hcut.out.2.lt⟩, Lib.hid ⟨hcut.out.1.next (below_alloc1 _ _), hcut.out.2.alloc _, Blk.new wc c.cells _⟩⟩
      case rest =>
        obtain ⟨gd, rfl, HG, hcut⟩ := hcut
        go_upto_region 5 with (fail)
        go_cut [40] (fun v40 wx => ∃ (A : Option Addr) (k : Nat), Hid (BW c none [] w wx ∧ Blk wx g (st.getD Rt.zero).cells 34 ∧ Blk wx gd (c.withR A k rs').cells 25 ∧ (c.withR A k rs').Ok wx))
        case first =>
          obtain ⟨f0, f1, f2, f3, f4, f5, f6, f7, f8, f9, f10, f11⟩ := hcut.out.1.cells
          clear f1 f2 f3 f4 f5 f6 f7 f8 f9 f10 f11
          have F0 : ∀ o, (wc.alloc o).cell? ⟨w.heap.size, 0, none⟩ = some (.slice c.A0 c.rs.length c.c0) := fun o => (hcut.out.1.next (below_alloc1 _ _)).cells.f0
          go_wp2_with (first
            | (at_builtin
               refine wpList_app rfl _ _ _ rfl (.slice (some ⟨_, 0, none⟩) 0 0) (.slice c.A0 c.rs.length c.c0) (by rfl) (by rfl) (OwnR.app (base := wc.heap.size) (l := []) (OwnR.new' _ rfl (Nat.le_refl _)) _ c.A0 c.rs c.c0 (hcut.out.1.ok.r.alloc _) (by have hl3 := HL30.out.1; show 0 + c.rs.length ≤ 1000; omega) (below_alloc1 _ _).size) ?_
               intro v1 w2 hF
               obtain ⟨hown, hbel, hkeep⟩ := hF
               obtain ⟨A1, k1, rfl, _, _, hst⟩ := OwnR.form hown
               have HOWN := Lib.hid hown
               have HB2 : Hid (Below wc.heap.size wc w2) := Lib.hid (Below.trans (below_alloc1 _ _) hbel)
               clear hown hbel hst hkeep f0 F0
               simp only [List.nil_append] at HOWN ⊢)
            | (at_builtin
               refine wpList_app rfl _ _ _ rfl (.slice _ c.rs.length _) (.slice (some ⟨_, 0, none⟩) 1 1) (by rfl) (by rfl) (OwnR.app (base := wc.heap.size) (l := c.rs) (OwnR.al HOWN.out _) _ _ [rootR] 1 (Rts_one (Blk.new' _ rootR.cells _ rfl)) (by have hl3 := HL30.out.1; show c.rs.length + 1 ≤ 1000; omega) (Nat.le_trans HB2.out.size (below_alloc1 _ _).size)) ?_
               intro v1 w3 hF
               obtain ⟨hown, hbel, hkeep⟩ := hF
               rw [← HRS.out] at hown
               obtain ⟨A2, k2, rfl, hk1, hk2, hst⟩ := OwnR.form hown
               have HST2 := Lib.hid (And.intro hown (And.intro hk1 hk2))
               have HB3 : Hid (Below wc.heap.size wc w3) := Lib.hid (Below.trans (below_al HB2.out _) hbel)
               have HD := Lib.hid (hcut.out.2.2.below HB3.out)
               have d0 : w3.cell? ⟨gd, 0, none⟩ = some (.slice c.A0 c.rs.length c.c0) := (HD.out.cell 0).trans rfl
               have df := HD.out.frozen 0
               clear hown hbel hst hkeep hk1 hk2))
          go_meet
          have hb4 : Below w.heap.size w (w3.setCell ⟨gd, 0, none⟩ (.slice A2 rs'.length k2)) := below_set (hcut.out.1.next HB3.out).bel (Nat.le_of_lt HG.out.1) _ _
          exact ⟨A2, k2, Lib.hid ⟨hcut.out.1.re HC.out (fun i hi => absurd hi (Nat.not_lt_zero i)) hb4 ((hcut.out.1.next HB3.out).cb.far (Nat.ne_of_lt HG.out.1) _ _), (hcut.out.2.1.below HB3.out).far (Nat.ne_of_lt HG.out.2) _ _, HD.out.set 0 _,
            withR_ok (HC.out.below hb4) HST2.out.2.1 HST2.out.2.2 (OwnR.rts_set HST2.out.1 hcut.out.2.2.lt 0 _)⟩⟩
        case rest =>
          obtain ⟨A, k, hcut⟩ := hcut
          generalize hst2 : pickB path [] rs' = st2 at HRL
          have HST2 := Lib.hid hst2
          clear hst2
          go_upto_region 6 with (fail)
          go_cut [8, 9] (fun v8 v9 wx => ∃ g2 : Nat, v8 = .pointer (some ⟨g2, 0, none⟩) ∧ v9 = .bool st2.isSome ∧ Hid (BW c none [] w wx ∧ Blk wx g (st.getD Rt.zero).cells 34 ∧ Blk wx g2 (st2.getD Rt.zero).cells 34))
          case first =>
            have hpk : Calls Try.prog 15 #[.agg #[.slice A rs'.length k, .slice c.A1 c.os.length c.c1, .int .i64 c.n2, .int .i64 c.n3, .int .i64 c.n4, .int .i64 c.n5, .int .i64 c.n6, .int .i64 c.n7, .int .i64 c.n8, .int .i64 c.n9, .int .i64 c.n10, .int .i64 c.n11], .string path, .slice none 0 0] wc fun e w' =>
                e = .returned (.tuple #[(st2.getD Rt.zero).val, .bool st2.isSome]) ∧ Hid (BW c none [] w w' ∧ Below wc.heap.size wc w') := by
              have h := bw_pick0 (c := c) (d := c.withR A k rs') (w := w) path HPL.out wc (Lib.hid hcut.out.1) (Lib.hid ⟨hcut.out.2.2.2, HRO.out⟩)
              rw [show pickB path [] (c.withR A k rs').rs = st2 from HST2.out] at h
              exact h
            have f := hcut.out.2.2.1.cell
            have f0 : wc.cell? ⟨gd, 0, none⟩ = some (.slice A rs'.length k) := (f 0).trans rfl
            have f1 : wc.cell? ⟨gd, 1, none⟩ = some (.slice c.A1 c.os.length c.c1) := (f 1).trans rfl
            have f2 : wc.cell? ⟨gd, 2, none⟩ = some (.int .i64 c.n2) := (f 2).trans rfl
            have f3 : wc.cell? ⟨gd, 3, none⟩ = some (.int .i64 c.n3) := (f 3).trans rfl
            have f4 : wc.cell? ⟨gd, 4, none⟩ = some (.int .i64 c.n4) := (f 4).trans rfl
            have f5 : wc.cell? ⟨gd, 5, none⟩ = some (.int .i64 c.n5) := (f 5).trans rfl
            have f6 : wc.cell? ⟨gd, 6, none⟩ = some (.int .i64 c.n6) := (f 6).trans rfl
            have f7 : wc.cell? ⟨gd, 7, none⟩ = some (.int .i64 c.n7) := (f 7).trans rfl
            have f8 : wc.cell? ⟨gd, 8, none⟩ = some (.int .i64 c.n8) := (f 8).trans rfl
            have f9 : wc.cell? ⟨gd, 9, none⟩ = some (.int .i64 c.n9) := (f 9).trans rfl
            have f10 : wc.cell? ⟨gd, 10, none⟩ = some (.int .i64 c.n10) := (f 10).trans rfl
            have f11 : wc.cell? ⟨gd, 11, none⟩ = some (.int .i64 c.n11) := (f 11).trans rfl
            clear f
            go_wp2_with (go_at_call 15; refine Calls.mono hpk ?_; rintro e w2 ⟨rfl, hb⟩)
            go_meet
            exact ⟨w2.heap.size, rfl, rfl, Lib.hid ⟨hb.out.1.next (below_alloc1 _ _), (hcut.out.2.1.below hb.out.2).alloc _, Blk.new w2 _ _⟩⟩
          case rest =>
            obtain ⟨g2, rfl, rfl, hcut⟩ := hcut
            go_upto_region 7 with (fail)
            have HBEL : Hid (∀ n, Below w.heap.size w (wc.drewN n)) := Lib.hid fun n => below_drewN hcut.out.1.bel n
            have HRLO := HRL.out
            clear HRL
            rcases HRLO with ⟨h1, h2⟩ | ⟨b, h1, h2⟩ | ⟨b, h1, hz, h2⟩
            · subst h1 h2
              have b0 : wc.cell? ⟨g2, 0, none⟩ = some (.string ⟨#[47]⟩) := (hcut.out.2.2.cell 0).trans rfl
              have b1 : wc.cell? ⟨g2, 1, none⟩ = some (.string ⟨#[]⟩) := (hcut.out.2.2.cell 1).trans rfl
              have b2 : wc.cell? ⟨g2, 2, none⟩ = some (.string ⟨#[97, 108, 108]⟩) := (hcut.out.2.2.cell 2).trans rfl
              have e1 : ∀ (d : Nat) (w : World), (Op.equalIn (d + 2) 34 (.agg #[.string ⟨#[47]⟩, .string ⟨#[]⟩, .string ⟨#[97, 108, 108]⟩]) (.agg #[.string ⟨#[47]⟩, .string ⟨#[]⟩, .string ⟨#[97, 108, 108]⟩])).run Try.prog w = .ok true w := fun d w => eqR_same d w rootR
              clear hcut
              go_wp2_with (go_at_call 19; refine (hbr _).mono ?_; rintro e w' ⟨rfl, n, rfl⟩)
              go_ret
              exact ⟨rfl, HBEL.out _⟩
            · subst h1 h2
              have a0 : wc.cell? ⟨g, 0, none⟩ = some (.string b.pre) := (hcut.out.2.1.cell 0).trans rfl
              have a1 : wc.cell? ⟨g, 1, none⟩ = some (.string b.pro) := (hcut.out.2.1.cell 1).trans rfl
              have a2 : wc.cell? ⟨g, 2, none⟩ = some (.string b.dst) := (hcut.out.2.1.cell 2).trans rfl
              have b0 : wc.cell? ⟨g2, 0, none⟩ = some (.string b.pre) := (hcut.out.2.2.cell 0).trans rfl
              have b1 : wc.cell? ⟨g2, 1, none⟩ = some (.string b.pro) := (hcut.out.2.2.cell 1).trans rfl
              have b2 : wc.cell? ⟨g2, 2, none⟩ = some (.string b.dst) := (hcut.out.2.2.cell 2).trans rfl
              have e1 := fun (d : Nat) (w : World) => eqR_same d w b
              clear hcut
              go_wp2_with (go_at_call 19; refine (hbr _).mono ?_; rintro e w' ⟨rfl, n, rfl⟩)
              go_ret
              exact ⟨rfl, HBEL.out _⟩
            · subst h1 h2
              have a0 : wc.cell? ⟨g, 0, none⟩ = some (.string b.pre) := (hcut.out.2.1.cell 0).trans rfl
              have a1 : wc.cell? ⟨g, 1, none⟩ = some (.string b.pro) := (hcut.out.2.1.cell 1).trans rfl
              have a2 : wc.cell? ⟨g, 2, none⟩ = some (.string b.dst) := (hcut.out.2.1.cell 2).trans rfl
              have b0 : wc.cell? ⟨g2, 0, none⟩ = some (.string ⟨#[47]⟩) := (hcut.out.2.2.cell 0).trans rfl
              have b1 : wc.cell? ⟨g2, 1, none⟩ = some (.string ⟨#[]⟩) := (hcut.out.2.2.cell 1).trans rfl
              have b2 : wc.cell? ⟨g2, 2, none⟩ = some (.string ⟨#[97, 108, 108]⟩) := (hcut.out.2.2.cell 2).trans rfl
              have e1 : ∀ (d : Nat) (w : World), (Op.equalIn (d + 2) 34 (.agg #[.string b.pre, .string b.pro, .string b.dst]) (.agg #[.string ⟨#[47]⟩, .string ⟨#[]⟩, .string ⟨#[97, 108, 108]⟩])).run Try.prog w = .ok (decide (b = rootR)) w := fun d w => eqR d w b rootR
              generalize decide (b = rootR) = dq at e1
              clear hcut
              cases dq
              all_goals
                go_wp2_with (go_at_call 19; refine (hbr _).mono ?_; rintro e w' ⟨rfl, n, rfl⟩)
                go_ret
                exact ⟨rfl, HBEL.out _⟩
  · have HN := Lib.hid hfew
    clear HL
    by_cases h0 : 0 < path.size
    · by_cases h47 : path[0] = 47
      · have hn : ¬ (fb = true ∧ path.size ≤ 300) := fun h => hfew ⟨h.1, h.2, h0, h47⟩
        have HN' := Lib.hid hn
        have hd2 : ((path.size : Int) == 0) = false := beq_eq_false_iff_ne.2 (by omega)
        have hd3 : ((path[0].toNat : Int) != 47) = false := by rw [h47]; rfl
        clear hfew h47 hn
        cases fb
        all_goals
          go_enter Try.func9, Try.ntmps9
          go_upto_region 1 with (fail)
          rw [← hW]
          clear hW
          go_wp2_with (first
            | (go_at_call 10; refine Calls.mono (bw_awake (c := c) (A := none) (ps := []) (w := w) _ (by assumption)) ?_; rintro e w1 ⟨rfl, hs⟩; obtain ⟨f0, f1, f2, f3, f4, f5, f6, f7, f8, f9, f10, f11⟩ := hs.out.cells)
            | (go_at_call 11; refine Calls.mono (hF _ (by assumption)) ?_; rintro e w1 ⟨rfl, hs⟩; obtain ⟨f0, f1, f2, f3, f4, f5, f6, f7, f8, f9, f10, f11⟩ := hs.out.cells))
          all_goals first
            | (exfalso; omega)
            | (exfalso; have hn := HN'.out; simp only [true_and] at hn; omega)
            | (go_ret; exact ⟨rfl, hs.out.bel⟩)
      · have hd2 : ((path.size : Int) == 0) = false := beq_eq_false_iff_ne.2 (by omega)
        have hd3 : ((path[0].toNat : Int) != 47) = true := by
          rw [bne_iff_ne]; exact fun e => h47 (UInt8.toNat_inj.1 (by rw [show (47 : UInt8).toNat = 47 from rfl]; omega))
        clear hfew h47
        cases fb
        all_goals
          go_enter Try.func9, Try.ntmps9
          go_upto_region 1 with (fail)
          rw [← hW]
          clear hW
          go_wp2_with (first
            | (go_at_call 10; refine Calls.mono (bw_awake (c := c) (A := none) (ps := []) (w := w) _ (by assumption)) ?_; rintro e w1 ⟨rfl, hs⟩; obtain ⟨f0, f1, f2, f3, f4, f5, f6, f7, f8, f9, f10, f11⟩ := hs.out.cells)
            | (go_at_call 11; refine Calls.mono (hF _ (by assumption)) ?_; rintro e w1 ⟨rfl, hs⟩; obtain ⟨f0, f1, f2, f3, f4, f5, f6, f7, f8, f9, f10, f11⟩ := hs.out.cells))
          all_goals first
            | (exfalso; omega)
            | (go_ret; exact ⟨rfl, hs.out.bel⟩)
    · have hd2 : ((path.size : Int) == 0) = true := beq_iff_eq.2 (by omega)
      have hz : path.size = 0 := by omega
      clear hfew
      cases fb
      all_goals
        go_enter Try.func9, Try.ntmps9
        go_upto_region 1 with (fail)
        rw [← hW]
        clear hW
        go_wp2_with (first
          | (go_at_call 10; refine Calls.mono (bw_awake (c := c) (A := none) (ps := []) (w := w) _ (by assumption)) ?_; rintro e w1 ⟨rfl, hs⟩; obtain ⟨f0, f1, f2, f3, f4, f5, f6, f7, f8, f9, f10, f11⟩ := hs.out.cells)
          | (go_at_call 11; refine Calls.mono (hF _ (by assumption)) ?_; rintro e w1 ⟨rfl, hs⟩; obtain ⟨f0, f1, f2, f3, f4, f5, f6, f7, f8, f9, f10, f11⟩ := hs.out.cells))
        all_goals first
          | (exfalso; omega)
          | (go_ret; exact ⟨rfl, hs.out.bel⟩)
end Go.Proofs.Ythdmibjeomhibaa
