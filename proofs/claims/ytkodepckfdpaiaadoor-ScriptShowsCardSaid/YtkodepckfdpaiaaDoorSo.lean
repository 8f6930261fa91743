/- parse, by the program; conditions: a string of a length that a world can hold; the world holds what the library's numbers lean on. -/
import Derived.Test.YtkodepckfdpaiaaDoorSn
namespace Go.Proofs.YtkodepckfdpaiaaDoor
set_option linter.unusedSimpArgs false
set_option linter.unusedVariables false
open Go.RowKit
set_option maxRecDepth 100000 in
set_option maxHeartbeats 800000 in
theorem parse_calls (s : ByteArray) (w : World) (hs : s.size ≤ 100000) (he : Env w) :
    Calls Tryd.prog 28 #[.string s] w fun e w' => (∃ d : Dd, e = .returned d.val ∧ PD s d) ∧ Below w.heap.size w w' := by
  have hmf : ∀ (fn : Fn) (first cap : Array Value) (w : World), (Instr.makeFunc fn first cap).run Tryd.prog w = .ok (.func fn first cap) w := fun _ _ _ _ => rfl
  have hmy := fun w => must_yes w
  have hmn := fun w => must_no w
  obtain ⟨W1, hW1⟩ : ∃ W1, W1 = w.alloc (.cells zeroC 27 (0, 0)) := ⟨_, rfl⟩
  have HB1 : Hid (Below w.heap.size w W1) := Lib.hid (hW1 ▸ below_alloc1 w _)
  have HK1 : Hid (Blk W1 w.heap.size zeroC 27) := Lib.hid (hW1 ▸ Blk.new' w _ _ rfl)
  have HS1 : Hid (w.heap.size < W1.heap.size) := Lib.hid HK1.out.lt
  have hsp := split_calls s W1 hs (he.mx.below HB1.out)
  have HEN := Lib.hid he
  clear he
  go_enter_defers Tryd.func28, Tryd.ntmps28
  go_upto_region 1 with (fail)
  rw [← hW1]
  clear hW1
  go_upto_region 3 with (go_at_call 41; refine hsp.mono ?_; rintro e w2 ⟨l0, ls, rfl, hll, hz, HSP, hst, hb⟩; have HB2 := Lib.hid (bt HB1.out hb); have HK2 := Lib.hid (HK1.out.below hb); have HST := Lib.hid hst; clear hst hb)
  clear hsp
  obtain ⟨M, hM⟩ : ∃ M, M = W1.heap.size := ⟨_, rfl⟩
  have HM : Hid (M ≠ w.heap.size) := Lib.hid (by have := HS1.out; omega)
  rw [← hM] at HST ⊢
  clear hM HB1 HK1 HS1
  have z0 := HK2.out.frozen 0
  have f0 : w2.cell? ⟨w.heap.size, 0, none⟩ = some (.string ⟨#[]⟩) := (HK2.out.cell 0).trans rfl
  have m0 : w2.cell? ⟨M, 0, none⟩ = some (.string l0) := by
    obtain ⟨b, off, e, hc⟩ := HST.out 0 (by simp)
    cases e
    exact hc
  go_upto_region 4 with (fail)
  obtain ⟨W3, hW3⟩ : ∃ W3, W3 = w2.setCell ⟨w.heap.size, 0, none⟩ (.string l0) := ⟨_, rfl⟩
  have HX0 : Hid (∀ (wh : ByteArray) (R : Option Dp), setAll { zd with k := l0 }.dp (bs wh) (bss ls) = R → PS w M l0 ls wh R 0 { zd with k := l0 } W3) := Lib.hid fun wh R h =>
    ⟨hW3 ▸ below_set HB2.out (Nat.le_refl _) 0 _, hW3 ▸ HK2.out.set 0 _, hW3 ▸ HST.out.far HM.out 0 _, by rw [List.drop_zero, List.drop_zero]; exact h, small_zd l0⟩
  rw [← hW3]
  clear hW3 z0 f0 m0 HB2 HK2 HST
  have m0 : W3.cell? ⟨M, 0, none⟩ = some (.string l0) := by
    obtain ⟨b, off, e, hc⟩ := (HX0.out ⟨#[]⟩ _ rfl).ss 0 (by simp)
    cases e
    exact hc
  have hhas := fun w => has_calls l0 w
  have HLE := Lib.hid (fun (h : ls.length ≠ ((whatOf (bs l0)).getD []).length) => parse_len HSP.out h)
  have HSE := Lib.hid (fun (h : ls.length = ((whatOf (bs l0)).getD []).length) => parse_set HSP.out h)
  have HWW : Hid (∀ c ∈ (whatOf (bs l0)).getD [], c = 105 ∨ c = 115 ∨ c = 110 ∨ c = 100 ∨ c = 111) := Lib.hid (by
    rcases hwo : whatOf (bs l0) with _ | wl
    · intro c hc; cases hc
    · exact (what_letters hwo).2.2)
  have hw3 : ((whatOf (bs l0)).getD []).length ≤ 3 := by
    rcases hwo : whatOf (bs l0) with _ | wl
    · exact Nat.zero_le _
    · exact (what_letters hwo).1
  generalize (whatOf (bs l0)).getD [] = wl at *
  generalize (whatOf (bs l0)).isSome = kn at *
  obtain ⟨wh, rfl⟩ : ∃ wh, wl = bs wh := ⟨mk wl, (bs_mk _).symm⟩
  rw [mk_bs] at hhas
  rw [bs_length] at HLE HSE hw3
  have HWL : Hid (∀ (k : Nat) (h : k < wh.size), wh[k] = 105 ∨ wh[k] = 115 ∨ wh[k] = 110 ∨ wh[k] = 100 ∨ wh[k] = 111) := Lib.hid fun k h => HWW.out _ (List.mem_of_getElem? (bs_get? wh k h))
  clear HWW
  go_upto_region 5 with (go_at_call 19; refine (hhas _).mono ?_; rintro e w4 ⟨rfl, hb⟩; have HX1 : Hid (∀ R : Option Dp, setAll { zd with k := l0 }.dp (bs wh) (bss ls) = R → PS w M l0 ls wh R 0 { zd with k := l0 } w4) := Lib.hid (fun R h => (HX0.out wh R h).below hb); clear hb)
  clear HX0 m0 hhas
  by_cases hlen : ls.length = wh.size
  rotate_left
  · have hq : ((ls.length : Int) + 1 == 1 + wh.size) = false := by rw [beq_eq_false_iff_ne]; omega
    have HNO := Lib.hid (HLE.out hlen)
    have HBL := Lib.hid (HX1.out _ rfl).bl
    have HBE := Lib.hid (HX1.out _ rfl).be
    go_wp2_with (go_at_call 42; with_reducible refine (hmn _).mono ?_; rintro e w5 ⟨rfl, rfl⟩)
    refine leaves_cons (f := 40) (args := #[.pointer (some ⟨w.heap.size, 0, none⟩)]) (by simp) (by simp [go_sem]) ?_
    refine (catch_panicking w.heap.size _ 81 _ [] _ HBL.out).mono ?_
    rintro e u' w'' ⟨rfl, rfl, hbl, hb⟩
    have c0 : w''.cell? ⟨w.heap.size, 0, none⟩ = some (.string ⟨#[]⟩) := (hbl.cell 0).trans rfl
    have c1 : w''.cell? ⟨w.heap.size, 1, none⟩ = some (.int .i64 0) := (hbl.cell 1).trans rfl
    have c2 : w''.cell? ⟨w.heap.size, 2, none⟩ = some (.int .i64 0) := (hbl.cell 2).trans rfl
    have c3 : w''.cell? ⟨w.heap.size, 3, none⟩ = some (.int .i64 0) := (hbl.cell 3).trans rfl
    have c4 : w''.cell? ⟨w.heap.size, 4, none⟩ = some (.bool false) := (hbl.cell 4).trans rfl
    have c5 : w''.cell? ⟨w.heap.size, 5, none⟩ = some (.string ⟨#[]⟩) := (hbl.cell 5).trans rfl
    simp [Leaves, settle, results, Tryd.results28, go_sem, c0, c1, c2, c3, c4, c5]
    exact ⟨⟨zd, ⟨rfl, rfl, rfl, rfl, rfl, rfl⟩, pd_no HNO.out⟩, HBE.out.trans hb⟩
  have HSE := Lib.hid (HSE.out hlen)
  have HXX := Lib.hid (HX1.out _ rfl)
  clear HLE HX1
  rw [← HSE.out] at HXX
  generalize hR : parseL (Lib.split (bs s) [32]) = R at HXX
  have HR := Lib.hid hR
  clear hR HSE HSP
  have hq1 : ((ls.length : Int) + 1 == 1 + wh.size) = true := by rw [beq_iff_eq]; omega
  have hq2 : ((wh.size : Int) + 1 == 1 + wh.size) = true := by rw [beq_iff_eq]; omega
  go_wp2_with (go_at_call 42; (try rw [hq1]); (try rw [hq2]); with_reducible refine (hmy _).mono ?_; rintro e w5 ⟨rfl, rfl⟩)
  clear hq1 hq2
  · obtain ⟨d, hd⟩ : ∃ d : Dd, d = { zd with k := l0 } := ⟨_, rfl⟩
    rw [← hd] at HXX
    have HX := HXX
    have hwz : wh.size = 0 := by rw [‹wh = ByteArray.empty›]; rfl
    have hke : 0 = wh.size := hwz.symm
    have HST := Lib.hid ((set_end d.dp wh ls 0 hke).symm.trans HX.out.st)
    clear hd HXX hke
    obtain ⟨f0, f1, f2, f3, f4, f5⟩ := d.box HX.out.bl
    have z := HX.out.bl.frozen
    refine wp_loop_rounds 1 ?_
    rw [rounds_succ]
    go_wp2
    refine leaves_cons (f := 40) (args := #[.pointer (some ⟨w.heap.size, 0, none⟩)]) (by simp) (by simp [go_sem]) ?_
    refine (catch_idle ⟨w.heap.size, 0, none⟩ _).mono ?_
    rintro e u' w'' ⟨rfl, rfl, hw⟩
    have hbl : Blk w'' w.heap.size d.cells 27 := hw ▸ ((((((HX.out.bl.set 0 _).set 1 _).set 2 _).set 3 _).set 4 _).set 5 _)
    have hb : Below w.heap.size w w'' := hw ▸ below_set (below_set (below_set (below_set (below_set (below_set HX.out.be (Nat.le_refl _) _ _) (Nat.le_refl _) _ _) (Nat.le_refl _) _ _) (Nat.le_refl _) _ _) (Nat.le_refl _) _ _) (Nat.le_refl _) _ _
    clear hw f0 f1 f2 f3 f4 f5 z
    have HPY := Lib.hid (pd_yes (HR.out.trans HST.out.symm) HX.out.sm)
    obtain ⟨c0, c1, c2, c3, c4, c5⟩ := d.box hbl
    simp [Leaves, settle, results, Tryd.results28, go_sem, c0, c1, c2, c3, c4, c5]
    exact ⟨⟨d, ⟨rfl, rfl, rfl, rfl, rfl, rfl⟩, HPY.out⟩, hb⟩
  clear hq1 hq2
  go_loopg [34] wh.size (fun gh v34 wx => ∃ k : Nat, v34 = .int .i64 k ∧ k + gh = wh.size ∧ Hid (∃ e : Dd, PS w M l0 ls wh R k e wx))
  case atStart => exact ⟨0, rfl, by omega, Lib.hid ⟨_, HXX.out⟩⟩
  case round =>
    clear HXX
    obtain ⟨k, rfl, hk, HX⟩ := hrel
    obtain ⟨d, HX⟩ := HX.out
    have HX := Lib.hid HX
    by_cases hlt : k < wh.size
    · have hlt2 : k < ls.length := by omega
      have HST := Lib.hid ((set_step d.dp wh ls k hlt hlt2).symm.trans HX.out.st)
      have HSM := Lib.hid HX.out.sm
      have hpz : ls[k].size ≤ 100000 := Nat.le_trans (hz _ (List.mem_cons_of_mem _ (List.getElem_mem hlt2))) hs
      have m1 : wr.cell? ⟨M, 1 + k, none⟩ = some (.string ls[k]) := by
        obtain ⟨b, off, e, hc⟩ := HX.out.ss (k + 1) (by simpa using hlt2)
        cases e
        rw [show 1 + k = 0 + (k + 1) by omega]
        exact hc
      have HAT := fun w' (h : Env w') => Atoi_calls ls[k] w' hpz h
      have hby := fun w' => bytes_calls ls[k] w' hpz
      have HWK := Lib.hid (HWL.out k hlt)
      generalize ls[k] = p at *
      go_upto_region 10 with (go_at_call 43; refine (HAT _ (HEN.out.below HX.out.be)).mono ?_; intro e w6 hat; obtain ⟨ev, rfl, hev1, hev2⟩ := hat.v; have HX6 := Lib.hid (HX.out.below hat.be); clear hat)
      clear HX HAT m1
      obtain ⟨f0, f1, f2, f3, f4, f5⟩ := d.box HX6.out.bl
      have z := HX6.out.bl.frozen
      by_cases hg : (okA (bs p) || wh[k] == 100) = true
      rotate_left
      · have hg : (okA (bs p) || wh[k] == 100) = false := by simpa using hg
        have HST2 := HST.out
        rw [set_bad _ _ _ hg] at HST2
        have HNO : Hid (parseL (Lib.split (bs s) [32]) = none) := Lib.hid (HR.out.trans HST2.symm)
        rw [Bool.or_eq_false_iff] at hg
        obtain ⟨N, rfl⟩ := hev2 hg.1
        have e100 : ((wh[k].toNat : Int) == 100) = false := by
          have h2 := hg.2
          rw [beq_eq_false_iff_ne] at h2 ⊢
          intro h3
          exact h2 (UInt8.toNat_inj.1 (by rw [show (100 : UInt8).toNat = 100 from rfl]; omega))
        have HBL := Lib.hid HX6.out.bl
        have HBE := Lib.hid HX6.out.be
        clear HST HST2 hg hev1 hev2 HX6
        go_wp2_with (go_at_call 42; with_reducible refine (hmn _).mono ?_; rintro e w7 ⟨rfl, rfl⟩)
        refine leaves_cons (f := 40) (args := #[.pointer (some ⟨w.heap.size, 0, none⟩)]) (by simp) (by simp [go_sem]) ?_
        refine (catch_panicking w.heap.size _ 81 _ [] _ HBL.out).mono ?_
        rintro e u' w'' ⟨rfl, rfl, hbl, hb⟩
        have c0 : w''.cell? ⟨w.heap.size, 0, none⟩ = some (.string ⟨#[]⟩) := (hbl.cell 0).trans rfl
        have c1 : w''.cell? ⟨w.heap.size, 1, none⟩ = some (.int .i64 0) := (hbl.cell 1).trans rfl
        have c2 : w''.cell? ⟨w.heap.size, 2, none⟩ = some (.int .i64 0) := (hbl.cell 2).trans rfl
        have c3 : w''.cell? ⟨w.heap.size, 3, none⟩ = some (.int .i64 0) := (hbl.cell 3).trans rfl
        have c4 : w''.cell? ⟨w.heap.size, 4, none⟩ = some (.bool false) := (hbl.cell 4).trans rfl
        have c5 : w''.cell? ⟨w.heap.size, 5, none⟩ = some (.string ⟨#[]⟩) := (hbl.cell 5).trans rfl
        simp [Leaves, settle, results, Tryd.results28, go_sem, c0, c1, c2, c3, c4, c5]
        exact ⟨⟨zd, ⟨rfl, rfl, rfl, rfl, rfl, rfl⟩, pd_no HNO.out⟩, HBE.out.trans hb⟩
      rcases HWK.out with hc | hc | hc | hc | hc
      · have hok : okA (bs p) = true := by
          have h := hg
          rw [hc] at h
          simpa using h
        obtain rfl := hev1 hok
        have HST2 := HST.out
        rw [hc, setB_i, if_pos hok, Option.bind_some] at HST2
        have hv := valA_in (bs p)
        have e105 : ((wh[k].toNat : Int) == 105) = true := by rw [hc]; rfl
        clear hc hg HST hev1 hev2 hok HWK
        generalize valA (bs p) = v at HST2 hv
        have HST2 := Lib.hid HST2
        go_wp2_with (go_at_call 42; with_reducible refine (hmy _).mono ?_; rintro e w7 ⟨rfl, rfl⟩)
        go_roundg (wh.size - (k + 1))
        case measure => omega
        case rel => exact ⟨k + 1, by go_num, by omega, Lib.hid ⟨{ d with i := v }, HX6.out.set HM.out 1 _ rfl HST2.out ⟨⟨hv, HSM.out.1.2, HSM.out.1.3, HSM.out.1.4⟩, HSM.out.2⟩⟩⟩
      · have hok : okA (bs p) = true := by
          have h := hg
          rw [hc] at h
          simpa using h
        obtain rfl := hev1 hok
        have HST2 := HST.out
        rw [hc, setB_s, if_pos hok, Option.bind_some] at HST2
        have hv := valA_in (bs p)
        have e115 : ((wh[k].toNat : Int) == 115) = true := by rw [hc]; rfl
        have e105 : ((wh[k].toNat : Int) == 105) = false := by rw [hc]; rfl
        clear hc hg HST hev1 hev2 hok HWK
        generalize valA (bs p) = v at HST2 hv
        have HST2 := Lib.hid HST2
        go_wp2_with (go_at_call 42; with_reducible refine (hmy _).mono ?_; rintro e w7 ⟨rfl, rfl⟩)
        go_roundg (wh.size - (k + 1))
        case measure => omega
        case rel => exact ⟨k + 1, by go_num, by omega, Lib.hid ⟨{ d with s := v }, HX6.out.set HM.out 2 _ rfl HST2.out ⟨⟨HSM.out.1.1, hv, HSM.out.1.3, HSM.out.1.4⟩, HSM.out.2⟩⟩⟩
      · have hok : okA (bs p) = true := by
          have h := hg
          rw [hc] at h
          simpa using h
        obtain rfl := hev1 hok
        have HST2 := HST.out
        rw [hc, setB_n, if_pos hok, Option.bind_some] at HST2
        have hv := valA_in (bs p)
        have e110 : ((wh[k].toNat : Int) == 110) = true := by rw [hc]; rfl
        have e105 : ((wh[k].toNat : Int) == 105) = false := by rw [hc]; rfl
        have e115 : ((wh[k].toNat : Int) == 115) = false := by rw [hc]; rfl
        clear hc hg HST hev1 hev2 hok HWK
        generalize valA (bs p) = v at HST2 hv
        have HST2 := Lib.hid HST2
        go_wp2_with (go_at_call 42; with_reducible refine (hmy _).mono ?_; rintro e w7 ⟨rfl, rfl⟩)
        go_roundg (wh.size - (k + 1))
        case measure => omega
        case rel => exact ⟨k + 1, by go_num, by omega, Lib.hid ⟨{ d with n := v }, HX6.out.set HM.out 3 _ rfl HST2.out ⟨⟨HSM.out.1.1, HSM.out.1.2, hv, HSM.out.1.4⟩, HSM.out.2⟩⟩⟩
      · have HST2 := HST.out
        rw [hc, setB_d] at HST2
        have e100 : ((wh[k].toNat : Int) == 100) = true := by rw [hc]; rfl
        have e105 : ((wh[k].toNat : Int) == 105) = false := by rw [hc]; rfl
        have e115 : ((wh[k].toNat : Int) == 115) = false := by rw [hc]; rfl
        have e110 : ((wh[k].toNat : Int) == 110) = false := by rw [hc]; rfl
        have e111 : ((wh[k].toNat : Int) == 111) = false := by rw [hc]; rfl
        clear hc hg HST HWK
        have hqe : ∃ q, ∀ w' : World, w' = w' → (ev = .nilIface ∧ q = true ∨ (∃ N, ev = .iface 91 (.pointer (some ⟨N, 0, none⟩))) ∧ q = false) := by
          cases ho : okA (bs p)
          · exact ⟨false, fun _ _ => .inr ⟨hev2 ho, rfl⟩⟩
          · exact ⟨true, fun _ _ => .inl ⟨hev1 ho, rfl⟩⟩
        clear hev1 hev2
        have hev : ev = .nilIface ∨ ∃ N, ev = .iface 91 (.pointer (some ⟨N, 0, none⟩)) := by
          obtain ⟨q, hq⟩ := hqe
          rcases hq w rfl with ⟨h, _⟩ | ⟨h, _⟩
          · exact .inl h
          · exact .inr h
        clear hqe
        rcases hB : bytesB (bs p) with _ | l
        · rw [hB] at HST2
          have HNO : Hid (parseL (Lib.split (bs s) [32]) = none) := Lib.hid (HR.out.trans HST2.symm)
          have HBL := Lib.hid HX6.out.bl
          have HBE := Lib.hid HX6.out.be
          clear HST2
          rcases hev with rfl | ⟨N, rfl⟩
          all_goals
            go_wp2_with (first
              | (go_at_call 42; with_reducible refine (hmy _).mono ?_; rintro e w7 ⟨rfl, rfl⟩)
              | (go_at_call 44; refine (hby _).mono ?_; rintro e w7 ⟨hb, hyp⟩; rw [hB] at hyp; obtain rfl := hyp; have HBL := Lib.hid (HBL.out.below hb); have HBE := Lib.hid (bt HBE.out hb); clear hb))
            refine leaves_cons (f := 40) (args := #[.pointer (some ⟨w.heap.size, 0, none⟩)]) (by simp) (by simp [go_sem]) ?_
            refine (catch_panicking w.heap.size _ 81 _ [] _ HBL.out).mono ?_
            rintro e u' w'' ⟨rfl, rfl, hbl, hb⟩
            have c0 : w''.cell? ⟨w.heap.size, 0, none⟩ = some (.string ⟨#[]⟩) := (hbl.cell 0).trans rfl
            have c1 : w''.cell? ⟨w.heap.size, 1, none⟩ = some (.int .i64 0) := (hbl.cell 1).trans rfl
            have c2 : w''.cell? ⟨w.heap.size, 2, none⟩ = some (.int .i64 0) := (hbl.cell 2).trans rfl
            have c3 : w''.cell? ⟨w.heap.size, 3, none⟩ = some (.int .i64 0) := (hbl.cell 3).trans rfl
            have c4 : w''.cell? ⟨w.heap.size, 4, none⟩ = some (.bool false) := (hbl.cell 4).trans rfl
            have c5 : w''.cell? ⟨w.heap.size, 5, none⟩ = some (.string ⟨#[]⟩) := (hbl.cell 5).trans rfl
            simp [Leaves, settle, results, Tryd.results28, go_sem, c0, c1, c2, c3, c4, c5]
            exact ⟨⟨zd, ⟨rfl, rfl, rfl, rfl, rfl, rfl⟩, pd_no HNO.out⟩, HBE.out.trans hb⟩
        · rw [hB] at HST2
          have HST2 := Lib.hid HST2
          rcases hev with rfl | ⟨N, rfl⟩
          all_goals
            go_wp2_with (first
              | (go_at_call 42; with_reducible refine (hmy _).mono ?_; rintro e w7 ⟨rfl, rfl⟩)
              | (go_at_call 44; refine (hby _).mono ?_; rintro e w7 ⟨hb, hyp⟩; rw [hB] at hyp; obtain ⟨rfl, hll2⟩ := hyp; have HX7 := Lib.hid (HX6.out.below hb); clear hb; clear f0 f1 f2 f3 f4 f5 z; obtain ⟨f0, f1, f2, f3, f4, f5⟩ := d.box HX7.out.bl; have z := HX7.out.bl.frozen))
            go_roundg (wh.size - (k + 1))
            case measure => omega
            case rel => exact ⟨k + 1, by go_num, by omega, Lib.hid ⟨{ d with d := mk l }, HX7.out.set HM.out 5 _ rfl (by have h := HST2.out; rw [← bs_mk l] at h; exact h) ⟨⟨HSM.out.1.1, HSM.out.1.2, HSM.out.1.3, by rw [mk_size]; unfold maxLen; omega⟩, by rw [mk_size]; omega⟩⟩⟩
      · have hok : okA (bs p) = true := by
          have h := hg
          rw [hc] at h
          simpa using h
        obtain rfl := hev1 hok
        have HST2 := HST.out
        rw [hc, setB_o, if_pos hok, Option.bind_some] at HST2
        have hv := valA_in (bs p)
        have e111 : ((wh[k].toNat : Int) == 111) = true := by rw [hc]; rfl
        have e105 : ((wh[k].toNat : Int) == 105) = false := by rw [hc]; rfl
        have e115 : ((wh[k].toNat : Int) == 115) = false := by rw [hc]; rfl
        have e110 : ((wh[k].toNat : Int) == 110) = false := by rw [hc]; rfl
        have e100 : ((wh[k].toNat : Int) == 100) = false := by rw [hc]; rfl
        clear hc hg HST hev1 hev2 hok HWK
        generalize valA (bs p) = v at HST2 hv
        have HST2 := Lib.hid HST2
        go_wp2_with (go_at_call 42; with_reducible refine (hmy _).mono ?_; rintro e w7 ⟨rfl, rfl⟩)
        go_roundg (wh.size - (k + 1))
        case measure => omega
        case rel => exact ⟨k + 1, by go_num, by omega, Lib.hid ⟨{ d with o := v != 0 }, HX6.out.set HM.out 4 _ rfl HST2.out ⟨⟨HSM.out.1.1, HSM.out.1.2, HSM.out.1.3, HSM.out.1.4⟩, HSM.out.2⟩⟩⟩
    · have hke : k = wh.size := by omega
      have HST := Lib.hid ((set_end d.dp wh ls k hke).symm.trans HX.out.st)
      obtain ⟨f0, f1, f2, f3, f4, f5⟩ := d.box HX.out.bl
      have z := HX.out.bl.frozen
      clear hke
      go_wp2
      refine leaves_cons (f := 40) (args := #[.pointer (some ⟨w.heap.size, 0, none⟩)]) (by simp) (by simp [go_sem]) ?_
      refine (catch_idle ⟨w.heap.size, 0, none⟩ _).mono ?_
      rintro e u' w'' ⟨rfl, rfl, hw⟩
      have hbl : Blk w'' w.heap.size d.cells 27 := hw ▸ ((((((HX.out.bl.set 0 _).set 1 _).set 2 _).set 3 _).set 4 _).set 5 _)
      have hb : Below w.heap.size w w'' := hw ▸ below_set (below_set (below_set (below_set (below_set (below_set HX.out.be (Nat.le_refl _) _ _) (Nat.le_refl _) _ _) (Nat.le_refl _) _ _) (Nat.le_refl _) _ _) (Nat.le_refl _) _ _) (Nat.le_refl _) _ _
      clear hw f0 f1 f2 f3 f4 f5 z
      have HPY := Lib.hid (pd_yes (HR.out.trans HST.out.symm) HX.out.sm)
      obtain ⟨c0, c1, c2, c3, c4, c5⟩ := d.box hbl
      simp [Leaves, settle, results, Tryd.results28, go_sem, c0, c1, c2, c3, c4, c5]
      exact ⟨⟨d, ⟨rfl, rfl, rfl, rfl, rfl, rfl⟩, HPY.out⟩, hb⟩
end Go.Proofs.YtkodepckfdpaiaaDoor
