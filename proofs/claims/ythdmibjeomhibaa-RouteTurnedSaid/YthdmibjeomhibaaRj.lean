/- pendentiveref15.Check: whether the document lets a configuration be; conditions: the slices can be read, the strings are of lengths that a world can hold. -/
import Derived.Test.YthdmibjeomhibaaRi
import Derived.Deep.DeepCutAuto
import Derived.BigGuardPart
namespace Go.Proofs.Ythdmibjeomhibaa
set_option linter.unusedSimpArgs false
set_option linter.unusedVariables false
open Go.RowKit
theorem inRange_iff (n a b : Int) : inRange n a b = true ↔ a ≤ n ∧ n ≤ b := by rw [inRange, Bool.and_eq_true, decide_eq_true_eq, decide_eq_true_eq]
theorem bounds_iff (c : Cfg) : boundsB c = true ↔ (1 ≤ (c.rs.length : Int) ∧ (c.rs.length : Int) ≤ 16) ∧ (c.os.length : Int) ≤ 16 ∧ (1 ≤ c.n2 ∧ c.n2 ≤ 64) ∧ (1 ≤ c.n3 ∧ c.n3 ≤ 65536) ∧ (1 ≤ c.n4 ∧ c.n4 ≤ 65536) ∧ (1 ≤ c.n5 ∧ c.n5 ≤ 1024) ∧ (c.n3 ≤ c.n6 ∧ c.n6 ≤ 4194304) ∧ (1 ≤ c.n7 ∧ c.n7 ≤ 65536) := by
  simp only [boundsB, Bool.and_eq_true, inRange_iff, decide_eq_true_eq]
  omega
/-- What is below a round of the document's Check, and the cell that it reads. -/
structure CR (w wr : World) : Prop where
  bel : Below w.heap.size w wr
  lt : w.heap.size < wr.heap.size
theorem CR.next {w wr w1 : World} (h : CR w wr) (hb : Below wr.heap.size wr w1) : CR w w1 := ⟨h.bel.trans (hb.mono h.bel.size), Nat.lt_of_lt_of_le h.lt hb.size⟩
theorem range_no (p : Nat → Bool) (k n : Nat) (h : k < n) (hp : p k = false) : (List.range n).all p = false := by
  rw [List.all_eq_false]; exact ⟨k, List.mem_range.2 h, by rw [hp]; simp⟩
theorem ticks_no (c : Cfg) (k : Nat) (hk : k < 4) (h : inRange (tickAt c k) 1 1073741824 = false) : ticksB c = false := by
  obtain rfl | rfl | rfl | rfl : k = 0 ∨ k = 1 ∨ k = 2 ∨ k = 3 := by omega
  all_goals (simp only [tickAt] at h; rw [ticksB, h]; simp)
theorem ticks_all (c : Cfg) (h : (List.range 4).all (fun j => inRange (tickAt c j) 1 1073741824) = true) : ticksB c = true := by
  simpa [List.range_succ, ticksB, tickAt, Bool.and_assoc] using h
/-- Whether a route may be, but for the question marks and the others. -/
def okA (r : Rt) : Bool := plainB (bs r.pre) && ((bs r.pre).head? == some 47) && plainB (bs r.dst) && (r.pro.toList.isEmpty || tokB (bs r.pro))
theorem right_okA (r : Rt) : rightB r = (okA r && !(bs r.pre).any (· == 63)) := by
  rw [rightB, okA]
  cases plainB (bs r.pre) <;> cases ((bs r.pre).head? == some 47) <;> cases plainB (bs r.dst) <;> cases (bs r.pre).any (· == 63) <;> simp
set_option maxRecDepth 1000000 in
set_option maxHeartbeats 16000000 in
theorem refCheck_calls (c : Cfg) (w : World) (hc : c.Ok w) (hrs : Rts.Ok c.rs) :
    Calls Try.prog 12 #[c.val] w fun e w' => e = .returned (.bool (checkB c)) ∧ Below w.heap.size w w' := by
  obtain ⟨W, hW⟩ : ∃ W, W = w.alloc (.cells c.cells 25 (0, 0)) := ⟨_, rfl⟩
  have hB : Hid (Below w.heap.size w W) := Lib.hid (by rw [hW]; exact below_alloc1 w _)
  have hAt : c.At W w.heap.size := by rw [hW]; exact c.box w _
  have hsz : Hid (w.heap.size < W.heap.size) := Lib.hid (cell_lt hAt.f0)
  have rl : c.rs.length ≤ maxLen := hc.rl
  have ol : c.os.length ≤ maxLen := hc.ol
  have rc : c.rs.length ≤ c.c0 := hc.rc
  have cm : c.c0 ≤ maxLen := hc.cm
  have HR : Hid (Rts w c.A0 c.rs) := Lib.hid hc.r
  have HRS := Lib.hid hrs
  have HAt := Lib.hid hAt
  obtain ⟨f0, f1, f2, f3, f4, f5, f6, f7, f8, f9, f10, f11⟩ := hAt
  clear hc hrs
  unfold maxLen at rl ol cm
  go_enter Try.func12, Try.ntmps12
  go_upto_region 1 with (fail)
  rw [← hW]
  have HW := Lib.hid hW
  clear hW
  go_cut [86] (fun v wx => ∃ q : Bool, v = .bool q ∧ Hid (q = !(boundsB c)) ∧ wx = W)
  case first =>
    simp only [List.append_eq, List.cons_append, List.nil_append]
    go_wp2
    all_goals
      go_meet
      refine ⟨_, rfl, Lib.hid ?_, rfl⟩
      first
        | (rw [show boundsB c = false from by rw [Bool.eq_false_iff, Ne, bounds_iff]; omega]; simp [*]; done)
        | (by_cases hlast : 65536 < c.n7
           · rw [show boundsB c = false from by rw [Bool.eq_false_iff, Ne, bounds_iff]; omega]; simp [*]
           · rw [(bounds_iff c).2 (by omega)]; simp [*])
  case rest =>
    obtain ⟨q, rfl, hq, rfl⟩ := hcut
    cases q
    · have hbd : Hid (boundsB c = true) := Lib.hid (by have := hq.out; simpa using this)
      clear hq
      obtain ⟨W2, hW2⟩ : ∃ W2, W2 = wc.alloc (.cells #[.int .i64 c.n8, .int .i64 c.n9, .int .i64 c.n10, .int .i64 c.n11] 3 (0, 0)) := ⟨_, rfl⟩
      have hb2 : Below wc.heap.size wc W2 := by rw [hW2]; exact below_alloc1 _ _
      have HCR : Hid (CR w W2) := Lib.hid (CR.next ⟨hB.out, hsz.out⟩ hb2)
      have g0 : W2.cell? ⟨w.heap.size, 0, none⟩ = some (.slice c.A0 c.rs.length c.c0) := ((bcell hb2).1 _ 0 (cell_lt f0)).trans f0
      have HT : Hid (∀ k, k < 4 → W2.cell? ⟨wc.heap.size, k, none⟩ = some (.int .i64 (tickAt c k))) := Lib.hid (by
        intro k hk
        rw [hW2, alloc_cell]
        obtain rfl | rfl | rfl | rfl : k = 0 ∨ k = 1 ∨ k = 2 ∨ k = 3 := by omega
        all_goals rfl)
      have HW2 := Lib.hid hW2
      clear hW2 hb2
      go_wp2
      clear f0 f1 f2 f3 f4 f5 f6 f7 f8 f9 f10 f11 HAt HW
      go_loopg [4] 4 (fun g i wr => ∃ k : Nat, i = .int .i64 k ∧ k + g = 4 ∧ Hid ((List.range k).all (fun j => inRange (tickAt c j) 1 1073741824) = true) ∧ wr = W2)
      case atStart => exact ⟨0, rfl, rfl, Lib.hid rfl, HW2.out.symm⟩
      case round =>
        obtain ⟨k, rfl, hk, hall, rfl⟩ := hrel
        by_cases hlt : k < 4
        · have ht := HT.out k hlt
          by_cases hin : 1 ≤ tickAt c k ∧ tickAt c k ≤ 1073741824
          · have HI : Hid (inRange (tickAt c k) 1 1073741824 = true) := Lib.hid ((inRange_iff _ _ _).2 hin)
            obtain ⟨hi1, hi2⟩ := hin
            go_wp2
            go_roundg (4 - (k + 1))
            case measure => omega
            case rel => exact ⟨k + 1, by go_num, by omega, Lib.hid (by rw [range_all, hall.out, HI.out]; rfl), rfl⟩
          · have HI : Hid (checkB c = false) := Lib.hid (by rw [checkB, ticks_no c k hlt (by rw [Bool.eq_false_iff, Ne, inRange_iff]; exact hin), Bool.and_false]; rfl)
            go_wp2
            all_goals
              go_ret
              exact ⟨ret_bool HI.out.symm, HCR.out.bel⟩
        · have HTK : Hid (ticksB c = true) := Lib.hid (ticks_all c (by have h := hall.out; rw [show k = 4 by omega] at h; exact h))
          clear HT hall
          go_wp2
          generalize c.A0 = A0 at HR g0 ⊢
          go_loopg [5] c.rs.length (fun g i wx => ∃ k : Nat, i = .int .i64 k ∧ k + g = c.rs.length ∧ Hid ((List.range k).all (rtOk c.rs) = true) ∧ Hid (CR w wx) ∧ wx.cell? ⟨w.heap.size, 0, none⟩ = some (.slice A0 c.rs.length c.c0))
          case atStart => exact ⟨0, rfl, by omega, Lib.hid rfl, HCR, g0⟩
          case round =>
            clear g0 HCR HW2
            obtain ⟨k, rfl, hk, hall, hcr, g0⟩ := hrel
            by_cases hlt : k < c.rs.length
            · obtain ⟨b, off, rfl, h0, h1, h2⟩ := (HR.out.below hcr.out.bel) k hlt
              have hok : Hid (rtOk c.rs k = _) := Lib.hid (rtOk_at c.rs k hlt)
              have hno : Hid (rtOk c.rs k = false → checkB c = false) := Lib.hid fun h => by rw [checkB, range_no _ k _ hlt h, Bool.and_false]
              have hr := HRS.out.ok c.rs[k] (List.getElem_mem hlt)
              have hgl := cell_lt g0
              have hv1 := fun w => refplain_calls c.rs[k].pre w hr.p
              have hv2 := fun w => refplain_calls c.rs[k].dst w hr.d
              have htk := fun w => reftoken_calls c.rs[k].pro w hr.q
              have hps : c.rs[k].pre.size ≤ maxLen := hr.p
              clear hr
              unfold maxLen at hps
              go_upto_region 13 with (fail)
              go_cut [152] (fun v wx => ∃ q : Bool, v = .bool q ∧ Hid (q = !(okA c.rs[k])) ∧ Hid (CR w wx ∧ Below wr.heap.size wr wx) ∧ wx.cell? ⟨w.heap.size, 0, none⟩ = some (.slice (some ⟨b, off, none⟩) c.rs.length c.c0) ∧
                wx.cell? ⟨wr.heap.size, 0, none⟩ = some (.string c.rs[k].pre) ∧ wx.cell? ⟨wr.heap.size, 1, none⟩ = some (.string c.rs[k].pro) ∧ wx.cell? ⟨wr.heap.size, 2, none⟩ = some (.string c.rs[k].dst))
              case first =>
                have hX : Hid (∀ o, CR w (wr.alloc o) ∧ Below wr.heap.size wr (wr.alloc o)) := Lib.hid fun o => ⟨hcr.out.next (below_alloc1 wr o), below_alloc1 wr o⟩
                have hOK : Hid (okA c.rs[k] = _) := Lib.hid (by rw [okA])
                by_cases h1' : plainB (bs c.rs[k].pre) = true
                · have hz : 0 < c.rs[k].pre.size := by
                    rcases Nat.eq_zero_or_pos c.rs[k].pre.size with h | h
                    · rw [List.length_eq_zero_iff.1 ((bs_length c.rs[k].pre).trans h)] at h1'; exact absurd h1' (by decide)
                    · exact h
                  rw [h1', head_47 _ hz] at hOK
                  rw [h1'] at hv1
                  clear h1'
                  generalize plainB (bs c.rs[k].dst) = p2 at hOK hv2
                  generalize tokB (bs c.rs[k].pro) = tk at hOK htk
                  go_wp2_with (first
                    | (go_at_call 23; ((with_reducible refine (hv1 _).mono ?_); rintro e w' ⟨rfl, rfl⟩))
                    | (go_at_call 23; ((with_reducible refine (hv2 _).mono ?_); rintro e w' ⟨rfl, rfl⟩))
                    | (go_at_call 24; refine (htk _).mono ?_; rintro e w' ⟨rfl, rfl⟩))
                  all_goals
                    go_meet
                    refine ⟨_, rfl, Lib.hid ?_, Lib.hid (hX.out _), ((bcell (below_alloc1 wr _)).1 _ 0 hgl).trans g0, alloc_cell _ _ _ 0, alloc_cell _ _ _ 1, alloc_cell _ _ _ 2⟩
                    rw [hOK.out]
                    simp [*]
                · have h1f : plainB (bs c.rs[k].pre) = false := by simpa using h1'
                  rw [h1f] at hOK hv1
                  clear h1' h1f
                  go_wp2_with (go_at_call 23; refine (hv1 _).mono ?_; rintro e w' ⟨rfl, rfl⟩)
                  go_meet
                  exact ⟨true, rfl, Lib.hid (by rw [hOK.out]; rfl), Lib.hid (hX.out _), ((bcell (below_alloc1 wr _)).1 _ 0 hgl).trans g0, alloc_cell _ _ _ 0, alloc_cell _ _ _ 1, alloc_cell _ _ _ 2⟩
              case rest =>
                clear hv1 hv2 htk g0 hgl h0 h1 h2
                obtain ⟨q, rfl, hq, hcx, g0, K0, K1, K2⟩ := hcut
                cases q
                · have hokA : Hid (okA c.rs[k] = true) := Lib.hid (by have h := hq.out; simpa using h)
                  clear hq
                  go_wp2
                  go_loopg [7] c.rs[k].pre.size (fun g i wx' => ∃ m : Nat, i = .int .i64 m ∧ m + g = c.rs[k].pre.size ∧ Hid (((bs c.rs[k].pre).take m).any (· == 63) = false) ∧ wx' = wc)
                  case atStart => exact ⟨0, rfl, by omega, Lib.hid rfl, rfl⟩
                  case round =>
                    obtain ⟨m, rfl, hm, hany, rfl⟩ := hrel
                    by_cases hmt : m < c.rs[k].pre.size
                    · by_cases h63 : c.rs[k].pre[m] = 63
                      · have HN : Hid (checkB c = false) := Lib.hid (hno.out (by rw [hok.out, right_okA, any_yes (bs c.rs[k].pre) m (by rw [bs_length]; exact hmt) (by rw [bs_get _ m hmt, h63]; rfl)]; simp))
                        have h63' : ((c.rs[k].pre[m].toNat : Int) == 63) = true := by rw [h63]; rfl
                        clear h63
                        go_wp2
                        go_ret
                        exact ⟨ret_bool HN.out.symm, hcx.out.1.bel⟩
                      · have h63' : ((c.rs[k].pre[m].toNat : Int) == 63) = false := beq_eq_false_iff_ne.2 fun e => h63 (UInt8.toNat_inj.1 (by rw [show (63 : UInt8).toNat = 63 from rfl]; omega))
                        have HA : Hid ((c.rs[k].pre[m] == 63) = false) := Lib.hid (by simpa using h63)
                        clear h63
                        go_wp2
                        go_roundg (c.rs[k].pre.size - (m + 1))
                        case measure => omega
                        case rel => exact ⟨m + 1, by go_num, by omega, Lib.hid (by rw [any_take (bs c.rs[k].pre) m (by rw [bs_length]; exact hmt), hany.out, bs_get _ m hmt, HA.out]; rfl), rfl⟩
                    · have HRT : Hid (rightB c.rs[k] = true) := Lib.hid (by
                        have h := hany.out
                        rw [List.take_of_length_le (by rw [bs_length]; omega)] at h
                        rw [right_okA, hokA.out, h]; rfl)
                      clear hany
                      go_wp2
                      go_loopg [8] k (fun g i wx' => ∃ j n : Nat, i = .int .i64 j ∧ j + g = k ∧ Hid (((c.rs.take k).take j).any (fun x => decide (c.rs[k] = x)) = false) ∧ wx' = wr.drewN n)
                      case atStart => exact ⟨0, 0, rfl, by omega, Lib.hid rfl, rfl⟩
                      case round =>
                        obtain ⟨j, n, rfl, hj, hany, rfl⟩ := hrel
                        by_cases hjt : j < k
                        · obtain ⟨b', off', hA', h0, h1, h2⟩ := (HR.out.below hcx.out.1.bel) j (by omega)
                          cases hA'
                          have heq := fun (d : Nat) (w : World) => eqR d w c.rs[j] c.rs[k]
                          have jb0 : (0 : Int) ≤ (j : Int) := by omega
                          have jb1 : (j : Int) < (c.rs.length : Int) := by omega
                          have htl : Hid (∀ h, (c.rs.take k)[j]'h = c.rs[j]) := Lib.hid fun h => List.getElem_take
                          have hjl : j < (c.rs.take k).length := by rw [List.length_take]; omega
                          go_upto_region 23 with (fail)
                          go_big_quiet (fail)
                          go_wp2
                          · have e : c.rs[j] = c.rs[k] := by assumption
                            have HN : checkB c = false := hno.out (by rw [hok.out, inR, any_yes (c.rs.take k) j hjl (by rw [htl.out]; exact decide_eq_true e.symm)]; simp)
                            go_ret
                            exact ⟨ret_bool HN.symm, below_drewN (below_drewN hcx.out.1.bel _) _⟩
                          · have e : ¬ c.rs[j] = c.rs[k] := by assumption
                            go_roundg (k - (j + 1))
                            case measure => omega
                            case rel => exact ⟨j + 1, _, by go_num, by omega, Lib.hid (by rw [any_take _ j hjl, hany.out, htl.out, decide_eq_false (fun h => e h.symm)]; rfl), rfl⟩
                        · have HK : Hid (rtOk c.rs k = true) := Lib.hid (by
                            have h := hany.out
                            rw [List.take_of_length_le (by rw [List.length_take]; omega)] at h
                            rw [hok.out, HRT.out, inR, h]; rfl)
                          clear hany
                          go_wp2
                          go_roundg (c.rs.length - (k + 1))
                          case measure => omega
                          case rel => exact ⟨k + 1, by go_num, by omega, Lib.hid (by rw [range_all, hall.out, HK.out]; rfl), Lib.hid (hcx.out.1.next (below_drewN (Below.refl _ _) _)), g0⟩
                · have HN : Hid (checkB c = false) := Lib.hid (hno.out (by rw [hok.out, right_okA]; have h := hq.out; simp at h; rw [h]; rfl))
                  clear hq
                  go_wp2
                  go_ret
                  exact ⟨ret_bool HN.out.symm, hcx.out.1.bel⟩
            · have HC : Hid (checkB c = true) := Lib.hid (by have h := hall.out; rw [show k = c.rs.length by omega] at h; rw [checkB, hbd.out, HTK.out, h]; rfl)
              clear hall
              go_wp2
              go_ret
              exact ⟨ret_bool HC.out.symm, hcr.out.bel⟩
    · have hbd : Hid (checkB c = false) := Lib.hid (by have := hq.out; rw [checkB, show boundsB c = false from by simpa using this]; rfl)
      clear hq
      go_wp2
      go_ret
      exact ⟨ret_bool hbd.out.symm, hB.out⟩
end Go.Proofs.Ythdmibjeomhibaa
