/- The law RouteBest: of every configuration and protocols whose slices can be read, it answers yes. -/
import Derived.Test.YthdmibjeomhibaaRs
namespace Go.Proofs.Ythdmibjeomhibaa
set_option linter.unusedSimpArgs false
set_option linter.unusedVariables false
open Go.RowKit
set_option maxRecDepth 100000 in
set_option maxHeartbeats 8000000 in
theorem RouteBest_calls (c : Cfg) (path : ByteArray) (A : Option Addr) (ps : List ByteArray) (kp : Nat) (w : World) (hc : c.Ok w) (hp : path.size ≤ maxLen) (hl : ps.length ≤ maxLen) (hA : Strs w A ps) (hrs : Rts.Ok c.rs) :
    Calls Try.prog 6 #[c.val, .string path, .slice A ps.length kp] w fun e w' => e = .returned (.bool true) ∧ Below w.heap.size w w' := by
  obtain ⟨W, hW⟩ : ∃ W, W = w.alloc (.cells c.cells 25 (0, 0)) := ⟨_, rfl⟩
  have hS : Hid (BW c A ps w W) := Lib.hid (by rw [hW]; exact BW.start hc hA)
  have hF := fun wx => bw_few (c := c) (A := A) (ps := ps) (w := w) wx
  have hF6 := fun wx => bw_few6 (c := c) (A := A) (ps := ps) (w := w) hl kp wx
  have HPL := Lib.hid (And.intro hp hl)
  have rl := hc.rl
  clear hc hA
  unfold maxLen at hl hp rl
  generalize few15 c = fb at hF
  have hlen : fewB ps = true → ps.length ≤ 30 := few_len
  generalize fewB ps = f6 at hF6 hlen
  by_cases hfew : fb = true ∧ f6 = true ∧ path.size ≤ 300
  · obtain ⟨rfl, rfl, hb1⟩ := hfew
    have HL30 := Lib.hid (hlen rfl)
    clear hlen
    have hd1 : decide (300 < (path.size : Int)) = false := decide_eq_false (by omega)
    go_enter Try.func6, Try.ntmps6
    go_upto_region 1 with (fail)
    rw [← hW]
    clear hW
    go_upto_region 3 with (first
      | (go_at_call 10; refine Calls.mono (bw_awake (c := c) (A := A) (ps := ps) (w := w) _ (by assumption)) ?_; rintro e w1 ⟨rfl, hs⟩; obtain ⟨f0, f1, f2, f3, f4, f5, f6, f7, f8, f9, f10, f11⟩ := hs.out.cells)
      | (go_at_call 11; refine Calls.mono (hF _ (by assumption)) ?_; clear f0 f1 f2 f3 f4 f5 f6 f7 f8 f9 f10 f11 hs; rintro e w1 ⟨rfl, hs⟩; obtain ⟨f0, f1, f2, f3, f4, f5, f6, f7, f8, f9, f10, f11⟩ := hs.out.cells)
      | (go_at_call 14; refine Calls.mono (hF6 _ (by assumption)) ?_; rintro e w' ⟨rfl, rfl⟩))
    clear hF hF6 f0 f1 f2 f3 f4 f5 f6 f7 f8 f9 f10 f11
    go_cut [7, 8] (fun v7 v8 wx => ∃ g : Nat, v7 = .pointer (some ⟨g, 0, none⟩) ∧ v8 = .bool (pickB path ps c.rs).isSome ∧ Hid (BW c A ps w wx ∧ Blk wx g ((pickB path ps c.rs).getD Rt.zero).cells 34))
    case first =>
      have hpk := fun B k wx => bw_pick (c := c) (A := A) (ps := ps) (w := w) hrs path HPL.out.1 HPL.out.2 B k wx
      have hk := fun wx => BW.held (wx := wx) hs.out
      go_region_held3 (fun wx => wx.cell? ⟨w.heap.size, 0, none⟩ = some (.slice c.A0 c.rs.length c.c0) ∧ wx.cell? ⟨w.heap.size, 1, none⟩ = some (.slice c.A1 c.os.length c.c1) ∧ wx.cell? ⟨w.heap.size, 2, none⟩ = some (.int .i64 c.n2) ∧ wx.cell? ⟨w.heap.size, 3, none⟩ = some (.int .i64 c.n3) ∧ wx.cell? ⟨w.heap.size, 4, none⟩ = some (.int .i64 c.n4) ∧ wx.cell? ⟨w.heap.size, 5, none⟩ = some (.int .i64 c.n5) ∧ wx.cell? ⟨w.heap.size, 6, none⟩ = some (.int .i64 c.n6) ∧ wx.cell? ⟨w.heap.size, 7, none⟩ = some (.int .i64 c.n7) ∧ wx.cell? ⟨w.heap.size, 8, none⟩ = some (.int .i64 c.n8) ∧ wx.cell? ⟨w.heap.size, 9, none⟩ = some (.int .i64 c.n9) ∧ wx.cell? ⟨w.heap.size, 10, none⟩ = some (.int .i64 c.n10) ∧ wx.cell? ⟨w.heap.size, 11, none⟩ = some (.int .i64 c.n11) ∧ Hid (Below w'.heap.size w' wx))
        ((refine hk _ ?_; repeat' first | exact Below.refl _ _ | exact Hid.out (by assumption) | refine below_drew1 ?_ | refine below_al ?_ _ | refine below_set ?_ (by omega) _ _))
        (first
          | (refine step_app (by rfl) _ _ _ (by rfl) (.slice (some ⟨_, 0, none⟩) 0 0) (.slice A ps.length kp) (by rfl) (by rfl) (OwnS.app (base := w'.heap.size) (l := []) (by repeat' first | exact OwnS.new' _ (by simp) (by simp) | refine OwnS.drew1 ?_ | refine OwnS.al ?_ _) _ A ps kp (hs.out.p.below (by repeat' first | exact Below.refl _ _ | exact Hid.out (by assumption) | refine below_drew1 ?_ | refine below_al ?_ _)) (by have hl3 := HL30.out; show 0 + ps.length ≤ 1000; omega) (by simp <;> omega)) ?_
             intro v1 w2 hF
             obtain ⟨hown, hbel, hkeep⟩ := hF
             obtain ⟨A1, k1, rfl, _, _, hst⟩ := OwnS.form hown
             have HST := Lib.hid hst
             have HB2 : Hid (Below w'.heap.size w' w2) := Lib.hid (Below.trans (by repeat' first | exact Below.refl _ _ | exact Hid.out (by assumption) | refine below_drew1 ?_ | refine below_al ?_ _) hbel)
             have hsz2 : w'.heap.size ≤ w2.heap.size := HB2.out.size
             clear hown hbel hst
             simp only [List.nil_append] at HST ⊢
             first
               | (have hz := hkeep w'.heap.size Rt.zero.cells 34 (fun e => absurd (Option.some.inj e) (Nat.ne_of_lt (Nat.lt_succ_self _))) (Blk.drew1 (Blk.alloc (Blk.drew1 (Blk.new' _ _ _ rfl)) _))
                  have HZ := Lib.hid hz; clear hz)
               | (have hz := hkeep (w'.heap.size + 1) Rt.zero.cells 34 (fun e => absurd (Option.some.inj e) (Nat.ne_of_gt (Nat.lt_succ_self _))) (Blk.drew1 (Blk.new' _ _ _ (alloc_size _ _).symm))
                  have HZ := Lib.hid hz; clear hz)
               | skip
             clear hkeep)
          | (go_at_call 15
             refine Calls.mono (hpk _ _ _ (Lib.hid (hs.out.next (by repeat' first | exact Below.refl _ _ | exact Hid.out (by assumption) | refine below_drew1 ?_ | refine below_al ?_ _))) (Lib.hid (by repeat' first | exact Hid.out (by assumption) | refine Strs.drew1 ?_ | refine Strs.alloc ?_ _))) ?_
             rintro e w3 ⟨rfl, h3⟩
             have HB3 : Hid (Below w'.heap.size w' w3) := Lib.hid (Below.trans (by repeat' first | exact Below.refl _ _ | exact Hid.out (by assumption) | refine below_drew1 ?_ | refine below_al ?_ _) (Below.mono h3.out.2 (Below.size (by repeat' first | exact Below.refl _ _ | exact Hid.out (by assumption) | refine below_drew1 ?_ | refine below_al ?_ _))))
             have hsz3 : w'.heap.size ≤ w3.heap.size := HB3.out.size
             have HO3 := Lib.hid h3.out.1
             first
               | (have HZ3 := Lib.hid (Blk.below (by repeat' first | exact Hid.out (by assumption) | exact Blk.new' _ Rt.zero.cells 34 rfl | refine Blk.drew1 ?_ | refine Blk.alloc ?_ _) h3.out.2)
                  have z0 := (HZ3.out.cell 0).trans rfl
                  have z1 := (HZ3.out.cell 1).trans rfl
                  have z2 := (HZ3.out.cell 2).trans rfl
                  have zf := HZ3.out.frozen
                  clear h3)
               | clear h3)
          | fail)
      all_goals
        go_wp2
        go_meet
        refine ⟨_, rfl, rfl, Lib.hid ⟨hs.out.next (by repeat' first | exact Below.refl _ _ | exact Hid.out (by assumption) | refine below_drew1 ?_ | refine below_al ?_ _ | refine below_set ?_ (by omega) _ _), ?_⟩⟩
        repeat' first | exact ((Hid.out ‹Hid (Blk w3 _ _ _)›).set 0 _ |>.set 1 _).set 2 _ | exact Blk.new' _ _ _ (by first | rfl | simp) | refine Blk.drew1 ?_
    case rest =>
      obtain ⟨g, rfl, rfl, hcut⟩ := hcut
      clear hs
      have HFIT : Hid (∀ r ∈ c.rs, fitsB path ps r = true → (pickB path ps c.rs).isSome = true ∧ r.pre.size ≤ ((pickB path ps c.rs).getD Rt.zero).pre.size) := Lib.hid fun r hr hf => best_fits hr hf
      have HFOUND := Lib.hid (best_found path ps c.rs)
      have HZ : Hid ((pickB path ps c.rs).isSome = false → (pickB path ps c.rs).getD Rt.zero = Rt.zero) := Lib.hid fun h => by
        cases hb : pickB path ps c.rs with
        | none => rfl
        | some b => rw [hb] at h; cases h
      generalize (pickB path ps c.rs).getD Rt.zero = P at HFIT HFOUND HZ hcut
      generalize (pickB path ps c.rs).isSome = okb at HFIT HFOUND HZ hcut ⊢
      have he := fun (d : Nat) (w : World) (x : Rt) => eqR d w x P
      clear he
      cases okb
      · obtain rfl := HZ.out rfl
        clear HZ HFOUND
        go_wp2
        go_loopg [9, 10] c.rs.length (fun gh v9 v10 wx => ∃ k : Nat, v10 = .int .i64 k ∧ k + gh = c.rs.length ∧ v9 = .bool false ∧ Hid (BW c A ps w wx ∧ Blk wx g Rt.zero.cells 34))
        case atStart => exact ⟨0, rfl, by omega, rfl, hcut⟩
        case round =>
          obtain ⟨k, rfl, hk, rfl, hx⟩ := hrel
          obtain ⟨f0, f1, f2, f3, f4, f5, f6, f7, f8, f9, f10, f11⟩ := hx.out.1.cells
          by_cases hlt : k < c.rs.length
          · obtain ⟨b, off, hA0, h0, h1, h2⟩ := hx.out.1.ok.r k hlt
            rw [hA0] at f0
            have hr := hrs.ok c.rs[k] (List.getElem_mem hlt)
            have hbl := fun w => Below_calls path c.rs[k].pre w HPL.out.1 hr.p
            have hin := fun o n => In_calls c.rs[k].pro A ps kp ((wr.alloc o).drewN n) HPL.out.2 ((hx.out.1.p.alloc o).below (below_drewN (Below.refl _ _) n))
            have HF : Hid (fitsB path ps c.rs[k] = _) := Lib.hid (by rw [fitsB])
            have HNO : Hid (fitsB path ps c.rs[k] = false) := Lib.hid (by
              cases hf : fitsB path ps c.rs[k] with
              | false => rfl
              | true => exact absurd (HFIT.out _ (List.getElem_mem hlt) hf).1 (by simp))
            clear hr
            generalize belowB (bs path) (bs c.rs[k].pre) = bl at HF hbl
            generalize inB c.rs[k].pro ps = ib at HF hin
            generalize hpe : c.rs[k].pro.toList = pl at HF
            have HNX : Hid (∀ n, BW c A ps w ((wr.alloc (.cells c.rs[k].cells 34 (0, 0))).drewN n) ∧ Blk ((wr.alloc (.cells c.rs[k].cells 34 (0, 0))).drewN n) g Rt.zero.cells 34) :=
              Lib.hid fun n => ⟨hx.out.1.next (below_drewN (below_alloc1 _ _) n), (hx.out.2.alloc _).below (below_drewN (Below.refl _ _) n)⟩
            cases bl <;> cases pl <;> cases ib
            all_goals first
              | (exfalso; have hf := HF.out; rw [HNO.out] at hf; revert hf; simp; done)
              | (clear HF HNO
                 go_wp2_with (first
                   | (go_at_call 19; refine (hbl _).mono ?_; rintro e w' ⟨rfl, n, rfl⟩)
                   | (go_at_call 22; refine (hin _ _).mono ?_; rintro e w' ⟨rfl, rfl⟩))
                 go_roundg (c.rs.length - (k + 1))
                 case measure => omega
                 case rel => exact ⟨k + 1, by go_num, by omega, rfl, Lib.hid (HNX.out _)⟩)
          · have a0 : wr.cell? ⟨g, 0, none⟩ = some (.string ⟨#[]⟩) := (hx.out.2.cell 0).trans rfl
            have a1 : wr.cell? ⟨g, 1, none⟩ = some (.string ⟨#[]⟩) := (hx.out.2.cell 1).trans rfl
            have a2 : wr.cell? ⟨g, 2, none⟩ = some (.string ⟨#[]⟩) := (hx.out.2.cell 2).trans rfl
            have e1 : ∀ (d : Nat) (w : World), (Op.equalIn (d + 2) 34 (.agg #[.string ⟨#[]⟩, .string ⟨#[]⟩, .string ⟨#[]⟩]) (.agg #[.string ⟨#[]⟩, .string ⟨#[]⟩, .string ⟨#[]⟩])).run Try.prog w = .ok true w := fun d w => eqR_same d w Rt.zero
            go_wp2
            go_ret
            exact ⟨rfl, hx.out.1.bel⟩
      · clear HZ
        go_wp2
        go_loopg [9, 10] c.rs.length (fun gh v9 v10 wx => ∃ k : Nat, ∃ fb : Bool, v10 = .int .i64 k ∧ k + gh = c.rs.length ∧ v9 = .bool fb ∧ Hid (fb = (c.rs.take k).any fun x => fitsB path ps x && decide (x = P)) ∧ Hid (BW c A ps w wx ∧ Blk wx g P.cells 34))
        case atStart => exact ⟨0, false, rfl, by omega, rfl, Lib.hid rfl, hcut⟩
        case round =>
          obtain ⟨k, fb, rfl, hk, rfl, HFB, hx⟩ := hrel
          obtain ⟨f0, f1, f2, f3, f4, f5, f6, f7, f8, f9, f10, f11⟩ := hx.out.1.cells
          by_cases hlt : k < c.rs.length
          · obtain ⟨b, off, hA0, h0, h1, h2⟩ := hx.out.1.ok.r k hlt
            rw [hA0] at f0
            have hr := hrs.ok c.rs[k] (List.getElem_mem hlt)
            have hbl := fun w => Below_calls path c.rs[k].pre w HPL.out.1 hr.p
            have hin := fun o n => In_calls c.rs[k].pro A ps kp ((wr.alloc o).drewN n) HPL.out.2 ((hx.out.1.p.alloc o).below (below_drewN (Below.refl _ _) n))
            have HF : Hid (fitsB path ps c.rs[k] = _) := Lib.hid (by rw [fitsB])
            have HLE : Hid (fitsB path ps c.rs[k] = true → c.rs[k].pre.size ≤ P.pre.size) := Lib.hid fun hf => (HFIT.out _ (List.getElem_mem hlt) hf).2
            have hek := fun (d : Nat) (w : World) => eqR d w c.rs[k] P
            have HNX : Hid (∀ n, BW c A ps w ((wr.alloc (.cells c.rs[k].cells 34 (0, 0))).drewN n) ∧ Blk ((wr.alloc (.cells c.rs[k].cells 34 (0, 0))).drewN n) g P.cells 34) :=
              Lib.hid fun n => ⟨hx.out.1.next (below_drewN (below_alloc1 _ _) n), (hx.out.2.alloc _).below (below_drewN (Below.refl _ _) n)⟩
            have G0 : ∀ o, (wr.alloc o).cell? ⟨g, 0, none⟩ = some (.string P.pre) := fun o => ((hx.out.2.alloc o).cell 0).trans rfl
            have G1 : ∀ o, (wr.alloc o).cell? ⟨g, 1, none⟩ = some (.string P.pro) := fun o => ((hx.out.2.alloc o).cell 1).trans rfl
            have G2 : ∀ o, (wr.alloc o).cell? ⟨g, 2, none⟩ = some (.string P.dst) := fun o => ((hx.out.2.alloc o).cell 2).trans rfl
            have HAT := Lib.hid (any_take (p := fun x => fitsB path ps x && decide (x = P)) c.rs k hlt)
            clear hr
            generalize belowB (bs path) (bs c.rs[k].pre) = bl at HF hbl
            generalize inB c.rs[k].pro ps = ib at HF hin
            generalize hpe : c.rs[k].pro.toList = pl at HF
            generalize hdq : decide (c.rs[k] = P) = dq at hek HAT
            cases bl <;> cases pl <;> cases ib <;> cases fb
            all_goals
              first
              | (have hf : fitsB path ps c.rs[k] = true := HF.out
                 have hle : ((P.pre.size : Int) < (c.rs[k].pre.size : Int)) = False := eq_false (by have := HLE.out hf; omega)
                 have HFV := Lib.hid hf
                 clear hf)
              | (have HFV : Hid (fitsB path ps c.rs[k] = false) := Lib.hid (HF.out.trans (by simp)))
            all_goals
              clear HF HLE hdq
              go_wp2_with (first
                | (go_at_call 19; refine (hbl _).mono ?_; rintro e w' ⟨rfl, n, rfl⟩)
                | (go_at_call 22; refine (hin _ _).mono ?_; rintro e w' ⟨rfl, rfl⟩))
              go_roundg (c.rs.length - (k + 1))
              case measure => omega
              case rel => exact ⟨k + 1, _, by go_num, by omega, rfl, Lib.hid (by rw [HAT.out, ← HFB.out, HFV.out]; rfl), Lib.hid (HNX.out _)⟩
          · obtain rfl : k = c.rs.length := by omega
            have hfb : fb = true := by rw [HFB.out, List.take_length]; exact HFOUND.out
            subst hfb
            go_wp2
            go_ret
            exact ⟨rfl, hx.out.1.bel⟩
  · have HN := Lib.hid hfew
    clear hfew hlen
    cases fb <;> cases f6
    all_goals
      go_enter Try.func6, Try.ntmps6
      go_upto_region 1 with (fail)
      rw [← hW]
      clear hW
      go_wp2_with (first
        | (go_at_call 10; refine Calls.mono (bw_awake (c := c) (A := A) (ps := ps) (w := w) _ (by assumption)) ?_; rintro e w1 ⟨rfl, hs⟩; obtain ⟨f0, f1, f2, f3, f4, f5, f6, f7, f8, f9, f10, f11⟩ := hs.out.cells)
        | (go_at_call 11; refine Calls.mono (hF _ (by assumption)) ?_; rintro e w1 ⟨rfl, hs⟩; obtain ⟨f0, f1, f2, f3, f4, f5, f6, f7, f8, f9, f10, f11⟩ := hs.out.cells)
        | (go_at_call 14; refine Calls.mono (hF6 _ (by assumption)) ?_; rintro e w' ⟨rfl, rfl⟩))
      all_goals first
        | (exfalso; omega)
        | (exfalso; have hn := HN.out; simp only [true_and] at hn; omega)
        | (go_ret; exact ⟨rfl, hs.out.bel⟩)
end Go.Proofs.Ythdmibjeomhibaa
