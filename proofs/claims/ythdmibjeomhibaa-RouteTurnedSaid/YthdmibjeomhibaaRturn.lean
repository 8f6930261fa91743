/- The law RouteTurned: of every configuration whose slices can be read, a path and a protocol, it answers yes. -/
import Derived.Test.YthdmibjeomhibaaRroot
import Derived.BigQuiet
namespace Go.Proofs.Ythdmibjeomhibaa
set_option linter.unusedSimpArgs false
set_option linter.unusedVariables false
open Go.RowKit
theorem Rts.at0 {w : World} {A : Option Addr} {l : List Rt} (h : Rts w A l) (h0 : 0 < l.length) : ∃ b off, A = some ⟨b, off, none⟩ ∧ ∀ i (hi : i < l.length),
    w.cell? ⟨b, off + i * 3, none⟩ = some (.string l[i].pre) ∧ w.cell? ⟨b, off + i * 3 + 1, none⟩ = some (.string l[i].pro) ∧ w.cell? ⟨b, off + i * 3 + 2, none⟩ = some (.string l[i].dst) := by
  obtain ⟨b, off, e, _⟩ := h 0 h0
  refine ⟨b, off, e, fun i hi => ?_⟩
  obtain ⟨b', off', e', hc⟩ := h i hi
  rw [e] at e'
  cases e'
  exact hc
theorem Rts.dropAt {w : World} {b off : Nat} {l : List Rt} (h : Rts w (some ⟨b, off, none⟩) l) (n : Nat) : Rts w (some ⟨b, off + n * 3, none⟩) (l.drop n) := fun i hi => by
  rw [List.length_drop] at hi
  obtain ⟨b', off', e, h0, h1, h2⟩ := h (n + i) (by omega)
  cases e
  refine ⟨b, off + n * 3, rfl, ?_⟩
  rw [List.getElem_drop, show off + n * 3 + i * 3 = off + (n + i) * 3 by omega]
  exact ⟨h0, h1, h2⟩
theorem Rts.takeAt {w : World} {b off : Nat} {l : List Rt} (h : Rts w (some ⟨b, off, none⟩) l) (n : Nat) : Rts w (some ⟨b, off, none⟩) (l.take n) := fun i hi => by
  rw [List.length_take] at hi
  obtain ⟨b', off', e, h0, h1, h2⟩ := h i (by omega)
  cases e
  refine ⟨b, off, rfl, ?_⟩
  rw [List.getElem_take]
  exact ⟨h0, h1, h2⟩
/-- No two of the first i are the same by prefix and protocol. -/
def Apart (l : List Rt) (i : Nat) : Prop := ∀ x (hx : x < l.length) y (hy : y < l.length), x < i → y < x → l[y].pre = l[x].pre → l[y].pro = l[x].pro → False
/-- None of the first k is the same as that at i. -/
def ApartAt (l : List Rt) (i k : Nat) : Prop := ∀ (hi : i < l.length) y (hy : y < l.length), y < k → l[y].pre = l[i].pre → l[y].pro = l[i].pro → False
theorem apart_mem {l : List Rt} (h : Apart l l.length) : ∀ r ∈ l, ∀ s ∈ l, r.pre = s.pre → r.pro = s.pro → r = s := by
  intro r hr s hs h1 h2
  obtain ⟨x, hx, rfl⟩ := List.mem_iff_getElem.1 hr
  obtain ⟨y, hy, rfl⟩ := List.mem_iff_getElem.1 hs
  rcases Nat.lt_trichotomy x y with hlt | rfl | hlt
  · exact (h y hy x hx hy hlt h1 h2).elim
  · rfl
  · exact (h x hx y hy hx hlt h1.symm h2.symm).elim
theorem turned_mem (l : List Rt) (n : Nat) (r : Rt) : r ∈ l ↔ r ∈ l.drop n ++ l.take n := by
  rw [List.mem_append]
  constructor
  · intro h
    rw [← List.take_append_drop n l, List.mem_append] at h
    exact h.symm
  · rintro (h | h)
    · exact List.mem_of_mem_drop h
    · exact List.mem_of_mem_take h
theorem bw_pick1 {c d : Cfg} {w : World} (path pr : ByteArray) (hp : path.size ≤ maxLen) (wx : World) (h : Hid (BW c none [] w wx)) (g : Nat) (hd : d.Ok wx) (hr : Rts.Ok d.rs) (hg : Blk wx g #[.string pr] 9) :
    Calls Try.prog 15 #[d.val, .string path, .slice (some ⟨g, 0, none⟩) 1 1] wx fun e w' =>
      e = .returned (.tuple #[((pickB path [pr] d.rs).getD Rt.zero).val, .bool (pickB path [pr] d.rs).isSome]) ∧ Hid (BW c none [] w w' ∧ Below wx.heap.size wx w') :=
  (Pick_calls d path (some ⟨g, 0, none⟩) 1 [pr] wx hd hp hr (by show 1 ≤ maxLen; unfold maxLen; omega) (Strs_one hg)).mono fun _ _ ⟨he, hb⟩ => ⟨he, Lib.hid ⟨h.out.next hb, hb⟩⟩
theorem OwnR.appN {w : World} {base : Nat} {v : Value} {l : List Rt} (h : OwnR w base v l) (ty : TypeId) (A : Option Addr) (k : List Rt) (m c : Nat) (hm : k.length = m) (hk : Rts w A k) (hn : l.length + k.length ≤ 1000) (hbase : base ≤ w.heap.size) :
    ∃ v' w', (Builtin.append_ #[22, 22] ty #[v, .slice A m c]).run Try.prog w = .ok v' w' ∧ OwnR w' base v' (l ++ k) ∧ Below base w w' := by
  subst hm
  obtain ⟨v', w', h1, h2, h3, _⟩ := h.app ty A k c hk hn hbase
  exact ⟨v', w', h1, h2, h3⟩
set_option maxRecDepth 1000000 in
set_option maxHeartbeats 8000000 in
theorem RouteTurned_calls (c : Cfg) (path pr : ByteArray) (m : Nat) (w : World) (hc : c.Ok w) (hp : path.size ≤ maxLen) (hq : pr.size ≤ maxLen) (hm : m ≤ 255) (hrs : Rts.Ok c.rs) :
    Calls Try.prog 7 #[c.val, .string path, .string pr, .int .u8 m] w fun e w' => e = .returned (.bool true) ∧ Below w.heap.size w w' := by
  obtain ⟨W, hW⟩ : ∃ W, W = w.alloc (.cells c.cells 25 (0, 0)) := ⟨_, rfl⟩
  have hS : Hid (BW c none [] w W) := Lib.hid (by rw [hW]; exact BW.start hc (fun i hi => absurd hi (Nat.not_lt_zero i)))
  have hF := fun wx => bw_few (c := c) (A := none) (ps := []) (w := w) wx
  have HPL := Lib.hid hp
  have HC := Lib.hid hc
  have rl := hc.rl
  clear hc
  unfold maxLen at hp hq rl
  have HL := Lib.hid (few15_len (c := c))
  generalize few15 c = fb at hF HL
  by_cases hfew : fb = true ∧ 0 < c.rs.length ∧ path.size ≤ 300 ∧ pr.size ≤ 300
  · obtain ⟨rfl, h0, hb1, hb2⟩ := hfew
    have HL30 := Lib.hid (HL.out rfl)
    clear HL
    have hd1 : decide (300 < (path.size : Int)) = false := decide_eq_false (by omega)
    have hd2 : decide (300 < (pr.size : Int)) = false := decide_eq_false (by omega)
    have hd3 : ((c.rs.length : Int) == 0) = false := beq_eq_false_iff_ne.2 (by omega)
    go_enter Try.func7, Try.ntmps7
    go_upto_region 1 with (fail)
    rw [← hW]
    clear hW
    go_upto_region 3 with (first
      | (go_at_call 10; refine Calls.mono (bw_awake (c := c) (A := none) (ps := []) (w := w) _ (by assumption)) ?_; rintro e w1 ⟨rfl, hs⟩; obtain ⟨f0, f1, f2, f3, f4, f5, f6, f7, f8, f9, f10, f11⟩ := hs.out.cells)
      | (go_at_call 11; refine Calls.mono (hF _ (by assumption)) ?_; clear f0 f1 f2 f3 f4 f5 f6 f7 f8 f9 f10 f11 hs; rintro e w1 ⟨rfl, hs⟩; obtain ⟨f0, f1, f2, f3, f4, f5, f6, f7, f8, f9, f10, f11⟩ := hs.out.cells))
    clear hF
    obtain ⟨b, off, hA0, hcs⟩ := hs.out.ok.r.at0 h0
    rw [hA0] at f0
    clear f1 f2 f3 f4 f5 f6 f7 f8 f9 f10 f11
    have HCS := Lib.hid hcs
    have HA0 := Lib.hid hA0
    clear hcs hA0
    go_wp2
    go_loopg [9] c.rs.length (fun gh v9 wx => ∃ i n : Nat, v9 = .int .i64 i ∧ i + gh = c.rs.length ∧ Hid (Apart c.rs i) ∧ wx = w1.drewN n)
    case atStart => exact ⟨0, 0, rfl, by omega, Lib.hid (fun x hx y hy h => absurd h (Nat.not_lt_zero x)), rfl⟩
    case round =>
      obtain ⟨i, n, rfl, hi, hap, rfl⟩ := hrel
      by_cases hlt : i < c.rs.length
      · go_wp2
        go_loopg [10] i (fun gh v10 wx => ∃ k n : Nat, v10 = .int .i64 k ∧ k + gh = i ∧ Hid (ApartAt c.rs i k) ∧ wx = w1.drewN n)
        case atStart => exact ⟨0, n, rfl, by omega, Lib.hid (fun _ y hy h => absurd h (Nat.not_lt_zero y)), rfl⟩
        case round =>
          obtain ⟨k, n, rfl, hk, hak, rfl⟩ := hrel
          by_cases hki : k < i
          · obtain ⟨x0, x1, -⟩ := HCS.out i hlt
            obtain ⟨y0, y1, -⟩ := HCS.out k (by omega)
            have i0 : (0 : Int) ≤ (i : Int) := Int.natCast_nonneg _
            have i1 : (i : Int) < (c.rs.length : Int) := by omega
            have k0 : (0 : Int) ≤ (k : Int) := Int.natCast_nonneg _
            have k1 : (k : Int) < (c.rs.length : Int) := by omega
            have hkl : k < c.rs.length := by omega
            have hb1' := str_beq (c.rs[k]'hkl).pre c.rs[i].pre
            have hb2' := str_beq (c.rs[k]'hkl).pro c.rs[i].pro
            by_cases e1 : (c.rs[k]'hkl).pre = c.rs[i].pre
            · by_cases e2 : (c.rs[k]'hkl).pro = c.rs[i].pro
              · rw [decide_eq_true e1] at hb1'
                rw [decide_eq_true e2] at hb2'
                clear e1 e2
                go_upto_region 9 with (fail)
                go_quiet (fail)
                go_wp2
                go_ret
                exact ⟨rfl, below_drewN (below_drewN hs.out.bel _) _⟩
              · rw [decide_eq_true e1] at hb1'
                rw [decide_eq_false e2] at hb2'
                have HE := Lib.hid e2
                clear e1 e2
                go_upto_region 9 with (fail)
                go_quiet (fail)
                go_wp2
                go_roundg (i - (k + 1))
                case measure => omega
                case rel =>
                  refine ⟨k + 1, _, by go_num, by omega, Lib.hid ?_, rfl⟩
                  intro hi' y hy hyk h1 h2
                  rcases Nat.lt_succ_iff_lt_or_eq.1 hyk with h | rfl
                  · exact hak.out hi' y hy h h1 h2
                  · exact HE.out h2
            · rw [decide_eq_false e1] at hb1'
              have HE := Lib.hid e1
              clear e1
              go_upto_region 9 with (fail)
              go_quiet (fail)
              go_wp2
              go_roundg (i - (k + 1))
              case measure => omega
              case rel =>
                refine ⟨k + 1, _, by go_num, by omega, Lib.hid ?_, rfl⟩
                intro hi' y hy hyk h1 h2
                rcases Nat.lt_succ_iff_lt_or_eq.1 hyk with h | rfl
                · exact hak.out hi' y hy h h1 h2
                · exact HE.out h1
          · obtain rfl : k = i := by omega
            go_wp2
            go_roundg (c.rs.length - (k + 1))
            case measure => omega
            case rel =>
              refine ⟨k + 1, _, by go_num, by omega, Lib.hid ?_, rfl⟩
              intro x hx y hy hxk hyx h1 h2
              rcases Nat.lt_succ_iff_lt_or_eq.1 hxk with h | rfl
              · exact hap.out x hx y hy h hyx h1 h2
              · exact hak.out hx y hy hyx h1 h2
      · obtain rfl : i = c.rs.length := by omega
        go_upto_region 11 with (fail)
        have hs2 : Hid (BW c none [] w (w1.drewN n)) := Lib.hid (hs.out.next (below_drewN (Below.refl _ _) n))
        have HAP := hap
        clear hs hap
        generalize w1.drewN n = wr at hs2 ⊢
        go_cut [11] (fun v11 wx => ∃ t : Nat, v11 = .int .i64 t ∧ t < c.rs.length ∧ wx = wr)
        case first =>
          obtain ⟨f0, f1, f2, f3, f4, f5, f6, f7, f8, f9, f10, f11⟩ := hs2.out.cells
          rw [HA0.out] at f0
          go_wp2
          go_meet
          exact ⟨m % c.rs.length, by rw [Int.natCast_emod], Nat.mod_lt _ h0, rfl⟩
        case rest =>
          obtain ⟨t, rfl, ht, hw⟩ := hcut
          subst hw
          go_upto_region 12 with (fail)
          go_cut [12] (fun v12 wx => ∃ gd : Nat, v12 = .pointer (some ⟨gd, 0, none⟩) ∧ Hid (w.heap.size < gd) ∧ Hid (BW c none [] w wx ∧ Blk wx gd c.cells 25))
          case first =>
            obtain ⟨f0, f1, f2, f3, f4, f5, f6, f7, f8, f9, f10, f11⟩ := hs2.out.cells
            go_wp2
            go_meet
            exact ⟨wc.heap.size, rfl, Lib.hid hs2.out.cb.lt, Lib.hid ⟨hs2.out.next (below_alloc1 _ _), Blk.new wc c.cells _⟩⟩
          case rest =>
            clear hs2
            obtain ⟨gd, rfl, HG, hcut⟩ := hcut
            have hs := Lib.hid hcut.out.1
            go_upto_region 13 with (fail)
            obtain ⟨dl, hdl⟩ : ∃ dl, dl = c.rs.drop t := ⟨_, rfl⟩
            obtain ⟨tl, htl⟩ : ∃ tl, tl = c.rs.take t := ⟨_, rfl⟩
            obtain ⟨rs', hrs'⟩ : ∃ rs', rs' = dl ++ tl := ⟨_, rfl⟩
            have HDN : Hid (dl.length = c.rs.length - t ∧ tl.length = t) := Lib.hid ⟨by rw [hdl, List.length_drop], by rw [htl, List.length_take]; omega⟩
            have HLN : Hid (dl.length + tl.length ≤ 30) := Lib.hid (by have h3 := HL30.out.1; have := HDN.out; omega)
            have HDL : Hid (∀ wx, Below wc.heap.size wc wx → Rts wx (some ⟨b, off + t * 3, none⟩) dl ∧ Rts wx (some ⟨b, off, none⟩) tl) := Lib.hid fun wx hb => by
              have h := (hs.out.next hb).ok.r
              rw [HA0.out] at h
              rw [hdl, htl]
              exact ⟨h.dropAt t, h.takeAt t⟩
            have HRS := Lib.hid hrs'
            have HPT : Hid (pickB path [pr] rs' = pickB path [pr] c.rs) := Lib.hid (by
              rw [hrs', hdl, htl]; exact (pick_turned path pr c.rs _ (turned_mem c.rs t) (apart_mem HAP.out)).symm)
            have HRO : Hid (Rts.Ok rs') := Lib.hid ⟨fun r hr => hrs.ok r ((turned_mem c.rs t r).2 (by rw [← hdl, ← htl, ← hrs']; exact hr))⟩
            clear hrs' hdl htl
            have t0 : (0 : Int) ≤ (t : Int) := Int.natCast_nonneg _
            have t1 : (t : Int) < (c.rs.length : Int) := by omega
            have t2 : (t : Int) ≤ (c.rs.length : Int) := by omega
            have cc := Lib.hid hs.out.ok.rc
            have t3 : (c.rs.length : Int) ≤ (c.c0 : Int) := by have := cc.out; omega
            have t4 : (t : Int) ≤ (c.c0 : Int) := by omega
            have t5 : (c.c0 = t) = False := eq_false (by omega)
            go_cut [88] (fun v88 wx => ∃ (A : Option Addr) (k : Nat), Hid (BW c none [] w wx ∧ Blk wx gd (c.withR A k rs').cells 25 ∧ (c.withR A k rs').Ok wx))
            case first =>
              have hk : ∀ wx, BW c none [] w wx → wx.cell? ⟨w.heap.size, 0, none⟩ = some (.slice (some ⟨b, off, none⟩) c.rs.length c.c0) ∧ Hid (BW c none [] w wx) := fun wx h => ⟨by rw [← HA0.out]; exact h.cells.f0, Lib.hid h⟩
              go_region_held3 (fun wx => wx.cell? ⟨w.heap.size, 0, none⟩ = some (.slice (some ⟨b, off, none⟩) c.rs.length c.c0) ∧ Hid (BW c none [] w wx))
                (first
                  | (refine hk _ (hs.out.next ?_); (repeat' first | exact Below.refl _ _ | exact Hid.out (by assumption) | refine below_drew1 ?_ | refine below_al ?_ _); done)
                  | exact hk _ (HSET.out _))
                (first
                  | (refine step_app (by rfl) _ _ _ (by rfl) (.slice (some ⟨_, 0, none⟩) 0 0) (.slice (some ⟨b, off + t * 3, none⟩) (c.rs.length - t) (c.c0 - t)) (by rfl) (by rfl) (OwnR.appN (base := wc.heap.size) (l := []) (by repeat' first | exact OwnR.new' _ (by simp) (by simp) | refine OwnR.drew1 ?_ | refine OwnR.al ?_ _) _ _ dl _ _ HDN.out.1 (HDL.out _ (by repeat' first | exact Below.refl _ _ | exact Hid.out (by assumption) | refine below_drew1 ?_ | refine below_al ?_ _)).1 (by have hl3 := HLN.out; show 0 + dl.length ≤ 1000; omega) (by simp <;> omega)) ?_
                     intro v1 w2 hF
                     obtain ⟨hown, hbel⟩ := hF
                     obtain ⟨A1, k1, rfl, _, _, hst⟩ := OwnR.form hown
                     have HOWN := Lib.hid hown
                     have HB2 : Hid (Below wc.heap.size wc w2) := Lib.hid (Below.trans (by repeat' first | exact Below.refl _ _ | exact Hid.out (by assumption) | refine below_drew1 ?_ | refine below_al ?_ _) hbel)
                     have hsz2 : wc.heap.size ≤ w2.heap.size := HB2.out.size
                     clear hown hbel hst
                     simp only [List.nil_append] at HOWN ⊢)
                  | (refine step_app (by rfl) _ _ _ (by rfl) (.slice _ dl.length _) (.slice (some ⟨b, off, none⟩) t c.c0) (by rfl) (by rfl) (OwnR.appN (base := wc.heap.size) (l := dl) (by repeat' first | exact HOWN.out | refine OwnR.drew1 ?_ | refine OwnR.al ?_ _) _ _ tl _ _ HDN.out.2 (HDL.out _ (by repeat' first | exact Below.refl _ _ | exact Hid.out (by assumption) | refine below_drew1 ?_ | refine below_al ?_ _)).2 (by have hl3 := HLN.out; omega) (Below.size (by repeat' first | exact Below.refl _ _ | exact Hid.out (by assumption) | refine below_drew1 ?_ | refine below_al ?_ _))) ?_
                     intro v1 w3 hF
                     obtain ⟨hown, hbel⟩ := hF
                     rw [← HRS.out] at hown
                     obtain ⟨A2, k2, rfl, hk1, hk2, hst⟩ := OwnR.form hown
                     have HST2 := Lib.hid (And.intro hown (And.intro hk1 hk2))
                     have HB3 : Hid (Below wc.heap.size wc w3) := Lib.hid (Below.trans (by repeat' first | exact Below.refl _ _ | exact Hid.out (by assumption) | refine below_drew1 ?_ | refine below_al ?_ _) hbel)
                     have HD := Lib.hid (hcut.out.2.below HB3.out)
                     have d0 : w3.cell? ⟨gd, 0, none⟩ = some (.slice c.A0 c.rs.length c.c0) := (HD.out.cell 0).trans rfl
                     have df := HD.out.frozen 0
                     have HSET : Hid (∀ v, BW c none [] w (w3.setCell ⟨gd, 0, none⟩ v)) := Lib.hid fun v =>
                       hs.out.re HC.out (fun i hi => absurd hi (Nat.not_lt_zero i)) (below_set (hs.out.next HB3.out).bel (Nat.le_of_lt HG.out) _ _) ((hs.out.next HB3.out).cb.far (Nat.ne_of_lt HG.out) _ _)
                     have HE : Hid (∀ v, Rts (w3.setCell ⟨gd, 0, none⟩ v) A2 rs') := Lib.hid fun v => OwnR.rts_set HST2.out.1 hcut.out.2.lt 0 v
                     clear hown hbel hst hk1 hk2)
                  | fail)
              all_goals
                go_wp2
                go_meet
                exact ⟨A2, k2, Lib.hid ⟨HSET.out _, HD.out.set 0 _, withR_ok (HSET.out _).ok HST2.out.2.1 HST2.out.2.2 (HE.out _)⟩⟩
            case rest =>
              clear hs t0 t1 t2 t3 t4 t5
              obtain ⟨A, k, hcut⟩ := hcut
              generalize hpk0 : pickB path [pr] c.rs = st at HPT
              have HPK0 := Lib.hid hpk0
              clear hpk0
              go_upto_region 14 with (fail)
              go_cut [13, 14] (fun v13 v14 wx => ∃ g : Nat, v13 = .pointer (some ⟨g, 0, none⟩) ∧ v14 = .bool st.isSome ∧ Hid (BW c none [] w wx ∧ Blk wx gd (c.withR A k rs').cells 25 ∧ (c.withR A k rs').Ok wx ∧ Blk wx g (st.getD Rt.zero).cells 34))
              case first =>
                obtain ⟨f0, f1, f2, f3, f4, f5, f6, f7, f8, f9, f10, f11⟩ := hcut.out.1.cells
                have hb0 := below_alloc1 wc (.cells #[.string pr] 9 (0, 0))
                have hpk := bw_pick1 (c := c) (d := c) (w := w) path pr HPL.out _ (Lib.hid (hcut.out.1.next hb0)) wc.heap.size (hcut.out.1.next hb0).ok hrs (Blk.new wc _ _)
                rw [HPK0.out] at hpk
                have hb0' := Lib.hid hb0
                clear hb0
                go_wp2_with (go_at_call 15; refine Calls.mono hpk ?_; rintro e w2 ⟨rfl, hb⟩)
                go_meet
                exact ⟨w2.heap.size, rfl, rfl, Lib.hid ⟨hb.out.1.next (below_alloc1 _ _), ((hcut.out.2.1.below hb0'.out).below hb.out.2).alloc _, ((hcut.out.2.2.below hb0'.out).below hb.out.2).below (below_alloc1 _ _), Blk.new w2 _ _⟩⟩
              case rest =>
                obtain ⟨g, rfl, rfl, hcut⟩ := hcut
                go_upto_region 15 with (fail)
                go_cut [15, 16] (fun v15 v16 wx => ∃ g2 : Nat, v15 = .pointer (some ⟨g2, 0, none⟩) ∧ v16 = .bool st.isSome ∧ Hid (BW c none [] w wx ∧ Blk wx g (st.getD Rt.zero).cells 34 ∧ Blk wx g2 (st.getD Rt.zero).cells 34))
                case first =>
                  have f := hcut.out.2.1.cell
                  have f0 : wc.cell? ⟨gd, 0, none⟩ = some (.slice A rs'.length k) := (f 0).trans rfl
                  have f1 : wc.cell? ⟨gd, 1, none⟩ = some (.slice c.A1 c.os.length c.c1) := (f 1).trans rfl
                  have f2 : wc.cell? ⟨gd, 2, none⟩ = some (.int .i64 c.n2) := (f 2).trans rfl
                  have f3 : wc.cell? ⟨gd, 3, none⟩ = some (.int .i64 c.n3) := (f 3).trans rfl
                  have f4 : wc.cell? ⟨gd, 4, none⟩ = some (.int .i64 c.n4) := (f 4).trans rfl
                  have f5 : wc.cell? ⟨gd, 5, none⟩ = some (.int .i64 c.n5) := (f 5).trans rfl
                  have f6 : wc.cell? ⟨gd, 6, none⟩ = some (.int .i64 c.n6) := (f 6).trans rfl
                  have f7 : wc.cell? ⟨gd, 7, none⟩ = some (.int .i64 c.n7) := (f 7).trans rfl
                  have f8 : wc.cell? ⟨gd, 8, none⟩ = some (.int .i64 c.n8) := (f 8).trans rfl
                  have f9 : wc.cell? ⟨gd, 9, none⟩ = some (.int .i64 c.n9) := (f 9).trans rfl
                  have f10 : wc.cell? ⟨gd, 10, none⟩ = some (.int .i64 c.n10) := (f 10).trans rfl
                  have f11 : wc.cell? ⟨gd, 11, none⟩ = some (.int .i64 c.n11) := (f 11).trans rfl
                  clear f
                  have hb0 := below_alloc1 wc (.cells #[.string pr] 9 (0, 0))
                  have hpk : Calls Try.prog 15 #[.agg #[.slice A rs'.length k, .slice c.A1 c.os.length c.c1, .int .i64 c.n2, .int .i64 c.n3, .int .i64 c.n4, .int .i64 c.n5, .int .i64 c.n6, .int .i64 c.n7, .int .i64 c.n8, .int .i64 c.n9, .int .i64 c.n10, .int .i64 c.n11], .string path, .slice (some ⟨wc.heap.size, 0, none⟩) 1 1] (wc.alloc (.cells #[.string pr] 9 (0, 0))) fun e w' =>
                      e = .returned (.tuple #[(st.getD Rt.zero).val, .bool st.isSome]) ∧ Hid (BW c none [] w w' ∧ Below (wc.alloc (.cells #[.string pr] 9 (0, 0))).heap.size (wc.alloc (.cells #[.string pr] 9 (0, 0))) w') := by
                    have h := bw_pick1 (c := c) (d := c.withR A k rs') (w := w) path pr HPL.out _ (Lib.hid (hcut.out.1.next hb0)) wc.heap.size (hcut.out.2.2.1.below hb0) HRO.out (Blk.new wc _ _)
                    rw [show pickB path [pr] (c.withR A k rs').rs = st from HPT.out] at h
                    exact h
                  have hb0' := Lib.hid hb0
                  clear hb0
                  go_wp2_with (go_at_call 15; refine Calls.mono hpk ?_; rintro e w2 ⟨rfl, hb⟩)
                  go_meet
                  exact ⟨w2.heap.size, rfl, rfl, Lib.hid ⟨hb.out.1.next (below_alloc1 _ _), ((hcut.out.2.2.2.below hb0'.out).below hb.out.2).alloc _, Blk.new w2 _ _⟩⟩
                case rest =>
                  obtain ⟨g2, rfl, rfl, hcut⟩ := hcut
                  go_upto_region 16 with (fail)
                  have HBEL : Hid (Below w.heap.size w wc) := Lib.hid hcut.out.1.bel
                  have a0 : wc.cell? ⟨g, 0, none⟩ = some (.string (st.getD Rt.zero).pre) := (hcut.out.2.1.cell 0).trans rfl
                  have a1 : wc.cell? ⟨g, 1, none⟩ = some (.string (st.getD Rt.zero).pro) := (hcut.out.2.1.cell 1).trans rfl
                  have a2 : wc.cell? ⟨g, 2, none⟩ = some (.string (st.getD Rt.zero).dst) := (hcut.out.2.1.cell 2).trans rfl
                  have b0 : wc.cell? ⟨g2, 0, none⟩ = some (.string (st.getD Rt.zero).pre) := (hcut.out.2.2.cell 0).trans rfl
                  have b1 : wc.cell? ⟨g2, 1, none⟩ = some (.string (st.getD Rt.zero).pro) := (hcut.out.2.2.cell 1).trans rfl
                  have b2 : wc.cell? ⟨g2, 2, none⟩ = some (.string (st.getD Rt.zero).dst) := (hcut.out.2.2.cell 2).trans rfl
                  have e1 := fun (d : Nat) (w : World) => eqR_same d w (st.getD Rt.zero)
                  clear hcut
                  go_wp2
                  go_ret
                  exact ⟨rfl, HBEL.out⟩
  · have HN := Lib.hid hfew
    clear HL
    by_cases h0 : 0 < c.rs.length
    · have hn : ¬ (fb = true ∧ path.size ≤ 300 ∧ pr.size ≤ 300) := fun h => hfew ⟨h.1, h0, h.2⟩
      have HN' := Lib.hid hn
      have hd3 : ((c.rs.length : Int) == 0) = false := beq_eq_false_iff_ne.2 (by omega)
      clear hfew hn
      cases fb
      all_goals
        go_enter Try.func7, Try.ntmps7
        go_upto_region 1 with (fail)
        rw [← hW]
        clear hW
        go_upto_region 3 with (first
          | (go_at_call 10; refine Calls.mono (bw_awake (c := c) (A := none) (ps := []) (w := w) _ (by assumption)) ?_; rintro e w1 ⟨rfl, hs⟩; obtain ⟨f0, f1, f2, f3, f4, f5, f6, f7, f8, f9, f10, f11⟩ := hs.out.cells)
          | (go_at_call 11; refine Calls.mono (hF _ (by assumption)) ?_; rintro e w1 ⟨rfl, hs⟩; obtain ⟨f0, f1, f2, f3, f4, f5, f6, f7, f8, f9, f10, f11⟩ := hs.out.cells))
        all_goals first
          | (exfalso; omega)
          | (exfalso; have hn := HN'.out; simp only [true_and] at hn; omega)
          | (go_ret; exact ⟨rfl, hs.out.bel⟩)
    · have hd3 : ((c.rs.length : Int) == 0) = true := beq_iff_eq.2 (by omega)
      clear hfew
      cases fb
      all_goals
        go_enter Try.func7, Try.ntmps7
        go_upto_region 1 with (fail)
        rw [← hW]
        clear hW
        go_upto_region 3 with (first
          | (go_at_call 10; refine Calls.mono (bw_awake (c := c) (A := none) (ps := []) (w := w) _ (by assumption)) ?_; rintro e w1 ⟨rfl, hs⟩; obtain ⟨f0, f1, f2, f3, f4, f5, f6, f7, f8, f9, f10, f11⟩ := hs.out.cells)
          | (go_at_call 11; refine Calls.mono (hF _ (by assumption)) ?_; rintro e w1 ⟨rfl, hs⟩; obtain ⟨f0, f1, f2, f3, f4, f5, f6, f7, f8, f9, f10, f11⟩ := hs.out.cells))
        all_goals first
          | (exfalso; omega)
          | (go_ret; exact ⟨rfl, hs.out.bel⟩)
end Go.Proofs.Ythdmibjeomhibaa
