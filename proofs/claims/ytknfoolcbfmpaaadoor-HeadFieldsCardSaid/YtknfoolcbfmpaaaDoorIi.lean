/- The law HeadFields: the walk itself; conditions: as before. -/
import Derived.Test.YtknfoolcbfmpaaaDoorIh
namespace Go.Proofs.YtknfoolcbfmpaaaDoor
set_option linter.unusedSimpArgs false
set_option linter.unusedVariables false
open Go.RowKit
set_option maxRecDepth 100000 in
set_option maxHeartbeats 800000 in
theorem headFields_calls (h : Hd) (f : Fd) (n : ByteArray) (w : World) (hk : h.In w) (hf1 : f.nm.size ≤ maxLen) (hf2 : f.vl.size ≤ maxLen) (hn : n.size ≤ maxLen) (hm : MaxL w) :
    Calls Tryd.prog 9 #[h.val, f.val, .string n] w fun e w' => e = .returned (.bool true) ∧ Below w.heap.size w w' := by
  obtain ⟨W0, hW0⟩ : ∃ W0, W0 = w.alloc (.cells h.cells 25 (0, 0)) := ⟨_, rfl⟩
  obtain ⟨W1, hW1⟩ : ∃ W1, W1 = W0.alloc (.cells f.cells 48 (0, 0)) := ⟨_, rfl⟩
  have hb0 : Below w.heap.size w W0 := hW0 ▸ below_alloc1 w _
  have hb1 : Below W0.heap.size W0 W1 := hW1 ▸ below_alloc1 W0 _
  have hs0 : W0.heap.size = w.heap.size + 1 := by rw [hW0]; simp
  have HB0 : Hid (Below w.heap.size w W1) := Lib.hid (bt hb0 hb1)
  have HAT : Hid (h.At W1 w.heap.size) := Lib.hid ((hW0 ▸ h.box w 25 : h.At W0 w.heap.size).below hb1)
  have HFB : Hid (Blk W1 (w.heap.size + 1) f.cells 48) := Lib.hid (by rw [hW1]; exact Blk.new' W0 _ _ hs0.symm)
  have HS1 : Hid (W1.heap.size = w.heap.size + 2) := Lib.hid (by rw [hW1]; simp [hs0])
  have HW : Hid (W1 = (w.alloc (.cells h.cells 25 (0, 0))).alloc (.cells f.cells 48 (0, 0))) := Lib.hid (by rw [hW1, hW0])
  clear hb0 hb1 hs0 hW1 hW0 W0
  have HK0 := Lib.hid hk
  have HK : Hid (h.In W1) := Lib.hid (hk.below HB0.out)
  have HM : Hid (MaxL W1) := Lib.hid (hm.below HB0.out)
  have hfew := fun (w' : World) (g : h.In w') => Few_calls h w' g
  have HOK : Hid (fewB h = true → ∀ w' : World, h.In w' → h.Ok w') := Lib.hid fun e w' g => g.ok e
  have HL50 : Hid (fewB h = true → h.fs.length ≤ 50) := Lib.hid few_50
  generalize fewB h = q at hfew HOK HL50
  clear hk hm
  by_cases hbig : q = true ∧ f.nm.size ≤ 300 ∧ n.size ≤ 300
  · obtain ⟨rfl, hq1, hq2⟩ := hbig
    have hd1 : decide ((300 : Int) < (f.nm.size : Int)) = false := decide_eq_false (by omega)
    have hd2 : decide ((300 : Int) < (n.size : Int)) = false := decide_eq_false (by omega)
    have HOK2 := Lib.hid (HOK.out rfl)
    have h50 := HL50.out rfl
    clear HOK HL50
    have hg1 := fun (w' : World) (g : h.Ok w') => Get_calls h n w' g hn
    have hg2 : ∀ (A2 : Option Addr) (k2 : Nat) (w' : World), (Hd.mk h.a h.b h.c A2 k2 (h.fs ++ [f])).Gt w' → Calls Tryd.prog 21 #[.agg #[.string h.a, .string h.b, .string h.c, .slice A2 (h.fs.length + 1) k2], .string n] w' (GP w' (getF n (h.fs ++ [f]))) := fun A2 k2 w' g => by
      have := GetG_calls (Hd.mk h.a h.b h.c A2 k2 (h.fs ++ [f])) n w' g hn
      simp only [Hd.val, List.length_append, List.length_cons, List.length_nil, Nat.zero_add] at this
      exact this
    have hsm := fun (w' : World) => Same_calls f.nm n w' hf1 hn
    have hl2 : Hid ((getF n h.fs).length ≤ maxLen) := Lib.hid (Nat.le_trans (getF_len n h.fs) HK.out.fl)
    rw [getF_snoc] at hg2
    have HMF : Hid (∀ x ∈ h.fs ++ [f], x.nm.size ≤ maxLen ∧ x.vl.size ≤ maxLen) := Lib.hid (by
      intro x hx
      rcases List.mem_append.1 hx with hx | hx
      · exact HK.out.fz x hx
      · rw [List.mem_singleton.1 hx]; exact ⟨hf1, hf2⟩)
    unfold GP at hg1 hg2
    obtain ⟨fn, fv⟩ := f
    simp only at *
    generalize sameB (bs fn) (bs n) = t at hg2 hsm
    generalize getF n h.fs = r at hg1 hg2 hl2
    have hrow : ∀ (A B : Option Addr) (c d : Nat) (w : World), Strs w A r → Strs w B r → Calls Tryd.prog 20 #[.slice A r.length c, .slice B r.length d] w fun e w' => e = .returned (.bool true) ∧ ∃ n, w' = w.drewN n := fun A B c d w hA hB => by
      have := Row_calls A B r r c d w hl2.out hl2.out hA hB
      rw [row_same] at this
      exact this
    have f0' := (HFB.out.cell 0).trans rfl
    have f1' := (HFB.out.cell 1).trans rfl
    have hg3 : ∀ (A2 : Option Addr) (k2 : Nat) (w' : World), (Hd.mk h.a h.b h.c A2 k2 (h.fs ++ [⟨fn, fv⟩])).Gt w' → Calls Tryd.prog 21 #[.agg #[.string h.a, .string h.b, .string h.c, .slice A2 (h.fs.length + 1) k2], .string n] w' fun e w'' => ∃ A c, e = .returned (.slice A (r.length + if t then 1 else 0) c) ∧ (r.length + if t then 1 else 0) ≤ c ∧ c ≤ maxLen ∧ Strs w'' A (r ++ if t then [fv] else []) ∧ Below w'.heap.size w' w'' := fun A2 k2 w' g => by
      refine (hg2 A2 k2 w' g).mono ?_
      rintro e w'' ⟨A, c, rfl, h1, h2, h3, h4⟩
      have e : (r ++ if t = true then [fv] else []).length = r.length + if t = true then 1 else 0 := by
        rw [List.length_append]; cases t <;> rfl
      rw [e] at h1 ⊢
      exact ⟨A, c, rfl, h1, h2, h3, h4⟩
    clear hg2
    obtain ⟨sa, sb, sc, A, kc, fs⟩ := h
    simp only at *
    go_enter Tryd.func9, Tryd.ntmps9
    go_upto_region 1 with (fail)
    rw [← HW.out]
    clear f0' f1'
    go_upto_region 3 with (first
      | (go_at_call 11; ((with_reducible refine (awake_calls _ HM.out).mono ?_); rintro e w1 ⟨rfl, hb⟩; have HB1 := Lib.hid (bt HB0.out hb); have HK1 := Lib.hid (HK.out.below hb); have HAT1 := Lib.hid (HAT.out.below hb); have HFB1 := Lib.hid (HFB.out.below hb); have HS1' := Lib.hid (Nat.le_trans (Nat.le_of_eq HS1.out.symm) hb.size); obtain ⟨f0, f1, f2, f3⟩ := HAT1.out; clear hb))
      | (go_at_call 12; refine (hfew _ HK1.out).mono ?_; clear f0 f1 f2 f3; rintro e w2 ⟨rfl, hb⟩; have HB2 := Lib.hid (bt HB1.out hb); have HAT2 := Lib.hid (HAT1.out.below hb); have HFB2 := Lib.hid (HFB1.out.below hb); have HO2 := Lib.hid (HOK2.out _ (HK1.out.below hb)); have HS2 := Lib.hid (Nat.le_trans HS1'.out hb.size); have f0' := (HFB2.out.cell 0).trans rfl; have f1' := (HFB2.out.cell 1).trans rfl; clear hb))
    clear HAT HAT1 HK HK1 HM hfew HFB HFB1 HS1 HS1' HB0 HB1 HW f0' f1'
    obtain ⟨f0, f1, f2, f3⟩ := HAT2.out
    go_cut [7] (fun v7 wx => v7 = .pointer (some ⟨w2.heap.size, 0, none⟩) ∧ Hid (Below w2.heap.size w2 wx ∧ Blk wx w2.heap.size (hCells sa sb sc (.slice A fs.length kc)) 25))
    case first =>
      go_wp2
      go_meet
      refine ⟨rfl, Lib.hid ⟨?_, ?_⟩⟩
      · exact below_alloc1 _ _
      · exact Blk.new' _ _ _ rfl
    case rest =>
      obtain ⟨rfl, HC⟩ := hcut
      clear f0 f1 f2 f3
      have HN := Lib.hid HS2.out
      have HC3 : Hid (wc.cell? ⟨w.heap.size, 3, none⟩ = some (.slice A fs.length kc)) := Lib.hid (HAT2.out.below HC.out.1).f3
      have HAc := Lib.hid (HAT2.out.below HC.out.1)
      have HFc := Lib.hid (HFB2.out.below HC.out.1)
      have HF0 : Hid (FW w wc w2.heap.size sa sb sc wc) := Lib.hid ⟨bt HB2.out HC.out.1, Below.refl _ _, HC.out.2.lt, HB2.out.size, _, HC.out.2⟩
      have HFD := Lib.hid HK0.out.fd
      clear HC HAT2 HFB2 HO2 HS2
      generalize w2.heap.size = K at HN HF0 ⊢
      have hN : w.heap.size + 1 < K := by have := HN.out; omega
      have hKs := HF0.out.ks
      have h3 := HC3.out
      have g0 : wc.cell? ⟨w.heap.size + 1, 0, none⟩ = some (.string fn) := (HFc.out.cell 0).trans rfl
      have g1 : wc.cell? ⟨w.heap.size + 1, 1, none⟩ = some (.string fv) := (HFc.out.cell 1).trans rfl
      go_upto_region 4 with (fail)
      go_cut [36] (fun v36 wx => ∃ (A2 : Option Addr) (k2 : Nat), v36 = .slice A2 (fs.length + 1) k2 ∧ Hid (FW w wc K sa sb sc wx ∧ Blk wx K (hCells sa sb sc (.slice A2 (fs.length + 1) k2)) 25 ∧ Fds wx A2 (fs ++ [⟨fn, fv⟩])))
      case first =>
        go_region_held3 (fun wx => wx.cell? ⟨w.heap.size, 3, none⟩ = some (.slice A fs.length kc) ∧ wx.cell? ⟨w.heap.size + 1, 0, none⟩ = some (.string fn) ∧ wx.cell? ⟨w.heap.size + 1, 1, none⟩ = some (.string fv) ∧ Hid (FW w wc K sa sb sc wx))
          ((refine keepF (Lib.hid ?_) hN h3 g0 g1; repeat' first | with_reducible exact Hid.out (by assumption) | with_reducible refine FW.drew ?_ | with_reducible refine FW.al ?_ _ | with_reducible refine FW.set ?_ _))
          (first
            | (refine step_app (by rfl) _ _ _ (by rfl) (.slice (some ⟨_, 0, none⟩) 0 0) (.slice A fs.length kc) (by rfl) (by rfl) (OwnF.app (base := K + 1) (l := []) (by repeat' first | exact OwnF.new' _ (by first | rfl | simp) (by first | exact hKs | (simp; omega)) | refine OwnF.al ?_ _) _ A fs kc (HFD.out.below (FW.bw (w := w) (W := wc) (K := K) (a := sa) (b := sb) (c := sc) (by repeat' first | with_reducible exact Hid.out (by assumption) | with_reducible refine FW.drew ?_ | with_reducible refine FW.al ?_ _))) (by simp; omega) (FW.ks (w := w) (W := wc) (K := K) (a := sa) (b := sb) (c := sc) (by repeat' first | with_reducible exact Hid.out (by assumption) | with_reducible refine FW.drew ?_ | with_reducible refine FW.al ?_ _))) ?_
               intro v1 w5 hF
               obtain ⟨hown, hbel, hgr⟩ := hF
               have HB5 : Hid (FW w wc K sa sb sc w5) := Lib.hid (FW.app (by repeat' first | with_reducible exact Hid.out (by assumption) | with_reducible refine FW.drew ?_ | with_reducible refine FW.al ?_ _) hbel)
               simp only [List.nil_append] at hown
               obtain ⟨A1, k1, rfl, _, _, _⟩ := OwnF.form hown
               have HO1 := Lib.hid hown
               first
                 | (have hz := Blk.other (M := wc.heap.size + 1) (Blk.drew1 (Blk.new' _ #[.string fn, .string fv] 48 (by simp))) hgr (by intro e; have e := Option.some.inj e; revert e; simp)
                    have HZ := Lib.hid hz; clear hz)
                 | (have hz := Blk.other (M := wc.heap.size) (Blk.drew1 (Blk.alloc (Blk.new' _ #[.string fn, .string fv] 48 rfl) _)) hgr (by intro e; have e := Option.some.inj e; revert e; simp)
                    have HZ := Lib.hid hz; clear hz)
                 | skip
               clear hown hbel hgr)
            | (refine step_app (by rfl) _ _ _ (by rfl) (.slice A1 fs.length k1) (.slice (some ⟨_, 0, none⟩) 1 1) (by rfl) (by rfl) (OwnF.app1 (base := K + 1) (fs := fs) (f := ⟨fn, fv⟩) (by repeat' first | with_reducible exact HO1.out | with_reducible refine OwnF.al ?_ _) _ _ (by repeat' first | exact HZ.out | exact Blk.new' _ _ _ rfl | refine Blk.alloc ?_ _) (by omega) (FW.ks (w := w) (W := wc) (K := K) (a := sa) (b := sb) (c := sc) (by repeat' first | with_reducible exact Hid.out (by assumption) | with_reducible refine FW.drew ?_ | with_reducible refine FW.al ?_ _))) ?_
               intro v2 w6 hF
               obtain ⟨hown, hbel⟩ := hF
               have HB6 : Hid (FW w wc K sa sb sc w6) := Lib.hid (FW.app (by repeat' first | with_reducible exact Hid.out (by assumption) | with_reducible refine FW.drew ?_ | with_reducible refine FW.al ?_ _) hbel)
               have hlen : (fs ++ [(⟨fn, fv⟩ : Fd)]).length = fs.length + 1 := by rw [List.length_append]; rfl
               obtain ⟨A2, k2, hv2, _, _, _⟩ := OwnF.form hown
               rw [hlen] at hv2
               subst hv2
               have HO2 := Lib.hid hown
               obtain ⟨vk, hvk⟩ := HB6.out.kb
               have z3 : w6.cell? ⟨K, 3, none⟩ = some vk := (hvk.cell 3).trans rfl
               have k3 : w6.frozen? ⟨K, 3, none⟩ = false := hvk.frozen 3
               have HVK := Lib.hid hvk
               clear hown hbel hvk hlen))
        all_goals
          go_wp2
          go_meet
          exact ⟨_, _, rfl, Lib.hid ⟨HB6.out.set _, HVK.out.set 3 _, (HO2.out.set (Nat.lt_succ_self K) 3 _).fds⟩⟩
      case rest =>
        obtain ⟨A2, k2, rfl, HC⟩ := hcut
        have HFW := Lib.hid HC.out.1
        have HGA : Hid ((Hd.mk sa sb sc A2 k2 (fs ++ [⟨fn, fv⟩])).At wc K) := Lib.hid (at_of_blkF HC.out.2.1 (by rw [List.length_append]; rfl))
        have HA := Lib.hid (HAc.out.belowB (by omega) HFW.out.be)
        have HFD2 := Lib.hid HC.out.2.2
        have HBW := Lib.hid HFW.out.bw
        have hN4 : w.heap.size + 1 < wc.heap.size := by have := HFW.out.ks; omega
        have e0 : wc.cell? ⟨w.heap.size + 1, 0, none⟩ = some (.string fn) := ((bcell HFW.out.be).1 _ 0 hN).trans g0
        have e1 : wc.cell? ⟨w.heap.size + 1, 1, none⟩ = some (.string fv) := ((bcell HFW.out.be).1 _ 1 hN).trans g1
        clear HC HFW HF0 g0 g1 h3 hKs HFc HAc HC3 HFD
        obtain ⟨W4, hW4⟩ : ∃ W4, W4 = wc := ⟨_, rfl⟩
        subst hW4
        have hok := fun (w' : World) (hb : Below W4.heap.size W4 w') => HOK2.out w' (HK0.out.below (bt HBW.out hb))
        have hgt := fun (w' : World) (hb : Below W4.heap.size W4 w') => (⟨by simp only [List.length_append, List.length_cons, List.length_nil]; omega, HMF.out, HFD2.out.below hb⟩ : (Hd.mk sa sb sc A2 k2 (fs ++ [⟨fn, fv⟩])).Gt w')
        cases t
        · simp only [Bool.false_eq_true, if_false, Nat.add_zero, List.append_nil] at hg3
          go_upto_region 5 with (fail)
          go_cut [8, 9] (fun v8 v9 wx => ∃ (A3 : Option Addr) (c3 : Nat) (A4 : Option Addr) (c4 : Nat), v8 = .slice A3 r.length c3 ∧ v9 = .slice A4 r.length c4 ∧ Hid (Strs wx A3 r ∧ Strs wx A4 r ∧ r.length ≤ c4 ∧ c4 ≤ maxLen ∧ Below W4.heap.size W4 wx))
          case first =>
            clear e0 e1
            go_region_held3 (fun wx => wx.cell? ⟨w.heap.size, 0, none⟩ = some (.string sa) ∧ wx.cell? ⟨w.heap.size, 1, none⟩ = some (.string sb) ∧ wx.cell? ⟨w.heap.size, 2, none⟩ = some (.string sc) ∧ wx.cell? ⟨w.heap.size, 3, none⟩ = some (.slice A fs.length kc) ∧ wx.cell? ⟨K, 0, none⟩ = some (.string sa) ∧ wx.cell? ⟨K, 1, none⟩ = some (.string sb) ∧ wx.cell? ⟨K, 2, none⟩ = some (.string sc) ∧ wx.cell? ⟨K, 3, none⟩ = some (.slice A2 (fs.length + 1) k2) ∧ Hid (Below W4.heap.size W4 wx))
              ((refine keepG3 HA.out HGA.out ?_; first | assumption | exact Lib.hid (below_drew1 (Below.refl _ _))))
              (first
                | (go_at_call 21
                   (with_reducible refine (hg1 _ (hok _ (by first | exact Hid.out (by assumption) | exact below_drew1 (Below.refl _ _)))).mono ?_)
                   rintro e w5 ⟨A3, c3, rfl, _, _, q3, hb⟩
                   have HL3 := Lib.hid q3
                   have HB3 : Hid (Below W4.heap.size W4 w5) := Lib.hid (bt (by first | exact Hid.out (by assumption) | exact below_drew1 (Below.refl _ _)) hb)
                   first
                     | (replace HR3 := Lib.hid (HR3.out.below hb))
                     | skip
                   clear q3 hb)
                | (go_at_call 21
                   (with_reducible refine (hg3 A2 k2 _ (hgt _ (by first | exact Hid.out (by assumption) | exact below_drew1 (Below.refl _ _)))).mono ?_)
                   rintro e w6 ⟨A4, c4, rfl, q1, q2, q3, hb⟩
                   have HR3 := Lib.hid q3
                   have HQ4 := Lib.hid (And.intro q1 q2)
                   have HB4 : Hid (Below W4.heap.size W4 w6) := Lib.hid (bt (by first | exact Hid.out (by assumption) | exact below_drew1 (Below.refl _ _)) hb)
                   first
                     | (replace HL3 := Lib.hid (HL3.out.below hb))
                     | skip
                   clear q1 q2 q3 hb))
            all_goals
              go_wp2
              go_meet
              exact ⟨A3, c3, A4, c4, rfl, rfl, Lib.hid ⟨HL3.out, HR3.out, HQ4.out.1, HQ4.out.2, Hid.out (by assumption)⟩⟩
          case rest =>
            obtain ⟨A3, c3, A4, c4, rfl, rfl, HD⟩ := hcut
            replace e0 : wc.cell? ⟨w.heap.size + 1, 0, none⟩ = some (.string fn) := ((bcell HD.out.2.2.2.2).1 _ 0 hN4).trans e0
            replace e1 : wc.cell? ⟨w.heap.size + 1, 1, none⟩ = some (.string fv) := ((bcell HD.out.2.2.2.2).1 _ 1 hN4).trans e1
            clear HA HGA hok hgt hg1 hg3
            go_wp2_with (first
              | (go_at_call 25; refine (hsm _).mono ?_; rintro e w6 ⟨rfl, m6, rfl⟩)
              | (go_at_call 20; refine (hrow _ _ _ _ _ (Strs.drewN HD.out.1 _) (Strs.drewN HD.out.2.1 _)).mono ?_; rintro e w7 ⟨rfl, m7, rfl⟩))
            go_ret
            exact ⟨rfl, below_drewN (bt HBW.out HD.out.2.2.2.2) _⟩
        · simp only [if_true] at hg3
          go_upto_region 5 with (fail)
          go_cut [8, 9] (fun v8 v9 wx => ∃ (A3 : Option Addr) (c3 : Nat) (A4 : Option Addr) (c4 : Nat), v8 = .slice A3 r.length c3 ∧ v9 = .slice A4 (r.length + 1) c4 ∧ Hid (Strs wx A3 r ∧ Strs wx A4 (r ++ [fv]) ∧ (r.length + 1) ≤ c4 ∧ c4 ≤ maxLen ∧ Below W4.heap.size W4 wx))
          case first =>
            clear e0 e1
            go_region_held3 (fun wx => wx.cell? ⟨w.heap.size, 0, none⟩ = some (.string sa) ∧ wx.cell? ⟨w.heap.size, 1, none⟩ = some (.string sb) ∧ wx.cell? ⟨w.heap.size, 2, none⟩ = some (.string sc) ∧ wx.cell? ⟨w.heap.size, 3, none⟩ = some (.slice A fs.length kc) ∧ wx.cell? ⟨K, 0, none⟩ = some (.string sa) ∧ wx.cell? ⟨K, 1, none⟩ = some (.string sb) ∧ wx.cell? ⟨K, 2, none⟩ = some (.string sc) ∧ wx.cell? ⟨K, 3, none⟩ = some (.slice A2 (fs.length + 1) k2) ∧ Hid (Below W4.heap.size W4 wx))
              ((refine keepG3 HA.out HGA.out ?_; first | assumption | exact Lib.hid (below_drew1 (Below.refl _ _))))
              (first
                | (go_at_call 21
                   (with_reducible refine (hg1 _ (hok _ (by first | exact Hid.out (by assumption) | exact below_drew1 (Below.refl _ _)))).mono ?_)
                   rintro e w5 ⟨A3, c3, rfl, _, _, q3, hb⟩
                   have HL3 := Lib.hid q3
                   have HB3 : Hid (Below W4.heap.size W4 w5) := Lib.hid (bt (by first | exact Hid.out (by assumption) | exact below_drew1 (Below.refl _ _)) hb)
                   first
                     | (replace HR3 := Lib.hid (HR3.out.below hb))
                     | skip
                   clear q3 hb)
                | (go_at_call 21
                   (with_reducible refine (hg3 A2 k2 _ (hgt _ (by first | exact Hid.out (by assumption) | exact below_drew1 (Below.refl _ _)))).mono ?_)
                   rintro e w6 ⟨A4, c4, rfl, q1, q2, q3, hb⟩
                   have HR3 := Lib.hid q3
                   have HQ4 := Lib.hid (And.intro q1 q2)
                   have HB4 : Hid (Below W4.heap.size W4 w6) := Lib.hid (bt (by first | exact Hid.out (by assumption) | exact below_drew1 (Below.refl _ _)) hb)
                   first
                     | (replace HL3 := Lib.hid (HL3.out.below hb))
                     | skip
                   clear q1 q2 q3 hb))
            all_goals
              go_wp2
              go_meet
              exact ⟨A3, c3, A4, c4, rfl, rfl, Lib.hid ⟨HL3.out, HR3.out, HQ4.out.1, HQ4.out.2, Hid.out (by assumption)⟩⟩
          case rest =>
            obtain ⟨A3, c3, A4, c4, rfl, rfl, HD⟩ := hcut
            replace e0 : wc.cell? ⟨w.heap.size + 1, 0, none⟩ = some (.string fn) := ((bcell HD.out.2.2.2.2).1 _ 0 hN4).trans e0
            replace e1 : wc.cell? ⟨w.heap.size + 1, 1, none⟩ = some (.string fv) := ((bcell HD.out.2.2.2.2).1 _ 1 hN4).trans e1
            clear HA HGA hok hgt hg1 hg3
            obtain ⟨b4, o4, rfl, hlast⟩ := HD.out.2.1 r.length (by rw [List.length_append]; simp)
            have hls : wc.cell? ⟨b4, o4 + r.length, none⟩ = some (.string fv) := by
              rw [hlast]
              simp
            have hc1 := HD.out.2.2.1
            have hc2 := HD.out.2.2.2.1
            unfold maxLen at hc2
            have hwr : IntKind.i64.wrap ((r.length : Int) + 1) = (r.length : Int) + 1 := by rw [IntKind.wrap_i64]; omega
            have hle : (r.length : Int) ≤ (c4 : Int) := by omega
            have hqq : (((r.length + 1 : Nat) : Int) == (r.length : Int) + 1) = true := beq_iff_eq.2 (by omega)
            have HT4 := Lib.hid HD.out.2.1.takeS
            have HT3 := Lib.hid HD.out.1
            have HBE := Lib.hid (bt HBW.out HD.out.2.2.2.2)
            clear hlast HD
            go_upto_region 8 with (go_at_call 25; refine (hsm _).mono ?_; rintro e w6 ⟨rfl, m6, hw6⟩; have e0' : w6.cell? ⟨w.heap.size + 1, 0, none⟩ = some (.string fn) := (by rw [hw6]; exact e0); have e1' : w6.cell? ⟨w.heap.size + 1, 1, none⟩ = some (.string fv) := (by rw [hw6]; exact e1); have hls' : w6.cell? ⟨b4, o4 + r.length, none⟩ = some (.string fv) := (by rw [hw6]; exact hls); have HT4' : Hid (Strs w6 (some ⟨b4, o4, none⟩) r) := Lib.hid (by rw [hw6]; exact HT4.out); have HT3' : Hid (Strs w6 A3 r) := Lib.hid (by rw [hw6]; exact HT3.out); have HBE' : Hid (Below w.heap.size w w6) := Lib.hid (by rw [hw6]; exact below_drewN HBE.out _); clear hw6)
            clear e0 e1 hls HT4 HT3 HBE
            go_quiet ((go_at_call 20; exact Calls.quiet_of (hrow _ _ _ _ _ (Strs.drewN HT4'.out _) (Strs.drewN HT3'.out _))))
            go_wp2
            go_ret
            exact ⟨rfl, below_drewN HBE'.out _⟩
  · obtain ⟨fn, fv⟩ := f
    have f0' := (HFB.out.cell 0).trans rfl
    have f1' := (HFB.out.cell 1).trans rfl
    obtain ⟨sa, sb, sc, A, kc, fs⟩ := h
    simp only at *
    cases q with
    | false =>
      clear hbig
      go_enter Tryd.func9, Tryd.ntmps9
      go_upto_region 1 with (fail)
      rw [← HW.out]
      clear f0' f1'
      go_wp2_with (first
        | (go_at_call 11; first | ((with_reducible refine (awake_calls _ HM.out).mono ?_); rintro e w1 ⟨rfl, hb⟩; have HB1 := Lib.hid (bt HB0.out hb); have HM1 := Lib.hid (HM.out.below hb); have HK1 := Lib.hid (HK.out.below hb); have HAT1 := Lib.hid (HAT.out.below hb); have HFB1 := Lib.hid (HFB.out.below hb); obtain ⟨f0, f1, f2, f3⟩ := HAT1.out; clear hb) | ((with_reducible refine (awake_calls _ HM2.out).mono ?_); rintro e w3 ⟨rfl, hb⟩; have HB3 := Lib.hid (bt HB2.out hb); clear hb))
        | (go_at_call 12; refine (hfew _ HK1.out).mono ?_; clear f0 f1 f2 f3; rintro e w2 ⟨rfl, hb⟩; have HB2 := Lib.hid (bt HB1.out hb); have HM2 := Lib.hid (HM1.out.below hb); have HFB2 := Lib.hid (HFB1.out.below hb); have f0' := (HFB2.out.cell 0).trans rfl; have f1' := (HFB2.out.cell 1).trans rfl; clear hb))
      go_ret
      exact ⟨rfl, HB3.out⟩
    | true =>
      by_cases hq1 : fn.size ≤ 300
      · have hd1 : decide ((300 : Int) < (fn.size : Int)) = false := decide_eq_false (by omega)
        have hd2 : decide ((300 : Int) < (n.size : Int)) = true := decide_eq_true (by
          have : ¬ n.size ≤ 300 := fun e => hbig ⟨rfl, hq1, e⟩
          omega)
        clear hbig
        go_enter Tryd.func9, Tryd.ntmps9
        go_upto_region 1 with (fail)
        rw [← HW.out]
        clear f0' f1'
        go_wp2_with (first
          | (go_at_call 11; first | ((with_reducible refine (awake_calls _ HM.out).mono ?_); rintro e w1 ⟨rfl, hb⟩; have HB1 := Lib.hid (bt HB0.out hb); have HM1 := Lib.hid (HM.out.below hb); have HK1 := Lib.hid (HK.out.below hb); have HAT1 := Lib.hid (HAT.out.below hb); have HFB1 := Lib.hid (HFB.out.below hb); obtain ⟨f0, f1, f2, f3⟩ := HAT1.out; clear hb) | ((with_reducible refine (awake_calls _ HM2.out).mono ?_); rintro e w3 ⟨rfl, hb⟩; have HB3 := Lib.hid (bt HB2.out hb); clear hb))
          | (go_at_call 12; refine (hfew _ HK1.out).mono ?_; clear f0 f1 f2 f3; rintro e w2 ⟨rfl, hb⟩; have HB2 := Lib.hid (bt HB1.out hb); have HM2 := Lib.hid (HM1.out.below hb); have HFB2 := Lib.hid (HFB1.out.below hb); have f0' := (HFB2.out.cell 0).trans rfl; have f1' := (HFB2.out.cell 1).trans rfl; clear hb))
        go_ret
        exact ⟨rfl, HB3.out⟩
      · have hd1 : decide ((300 : Int) < (fn.size : Int)) = true := decide_eq_true (by omega)
        clear hbig
        go_enter Tryd.func9, Tryd.ntmps9
        go_upto_region 1 with (fail)
        rw [← HW.out]
        clear f0' f1'
        go_wp2_with (first
          | (go_at_call 11; first | ((with_reducible refine (awake_calls _ HM.out).mono ?_); rintro e w1 ⟨rfl, hb⟩; have HB1 := Lib.hid (bt HB0.out hb); have HM1 := Lib.hid (HM.out.below hb); have HK1 := Lib.hid (HK.out.below hb); have HAT1 := Lib.hid (HAT.out.below hb); have HFB1 := Lib.hid (HFB.out.below hb); obtain ⟨f0, f1, f2, f3⟩ := HAT1.out; clear hb) | ((with_reducible refine (awake_calls _ HM2.out).mono ?_); rintro e w3 ⟨rfl, hb⟩; have HB3 := Lib.hid (bt HB2.out hb); clear hb))
          | (go_at_call 12; refine (hfew _ HK1.out).mono ?_; clear f0 f1 f2 f3; rintro e w2 ⟨rfl, hb⟩; have HB2 := Lib.hid (bt HB1.out hb); have HM2 := Lib.hid (HM1.out.below hb); have HFB2 := Lib.hid (HFB1.out.below hb); have f0' := (HFB2.out.cell 0).trans rfl; have f1' := (HFB2.out.cell 1).trans rfl; clear hb))
        go_ret
        exact ⟨rfl, HB3.out⟩
end Go.Proofs.YtknfoolcbfmpaaaDoor
