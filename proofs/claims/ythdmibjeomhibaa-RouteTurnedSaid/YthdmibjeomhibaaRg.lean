/- pendentiveref15.Pick: which route the document picks; conditions: the slices can be read, the strings are of lengths that a world can hold. -/
import Derived.Test.YthdmibjeomhibaaRf
namespace Go.Proofs.Ythdmibjeomhibaa
set_option linter.unusedSimpArgs false
set_option linter.unusedVariables false
open Go.RowKit
/-- Where the best route stands so far. -/
def AtR (rs : List Rt) (a : Int) (st : Option Rt) : Prop := (a = -1 ∧ st = none) ∨ ∃ j, ∃ h : j < rs.length, a = j ∧ st = some rs[j]
/-- The world in a round of the document's Pick. -/
structure PR (w wr : World) : Prop where
  bel : Below w.heap.size w wr
  res : Blk wr (w.heap.size + 1) Rt.zero.cells 34
theorem PR.next {w wr w1 : World} (h : PR w wr) (hb : Below wr.heap.size wr w1) : PR w w1 := ⟨h.bel.trans (hb.mono h.bel.size), h.res.below hb⟩
set_option maxRecDepth 100000 in
set_option maxHeartbeats 4000000 in
theorem refPick_calls (c : Cfg) (path : ByteArray) (A : Option Addr) (cp : Nat) (ps : List ByteArray) (w : World) (hc : c.Ok w) (hp : path.size ≤ maxLen) (hrs : Rts.Ok c.rs) (hl : ps.length ≤ maxLen) (hA : Strs w A ps) :
    Calls Try.prog 16 #[c.val, .string path, .slice A ps.length cp] w fun e w' =>
      e = .returned (.tuple #[((pickB path ps c.rs).getD Rt.zero).val, .bool (pickB path ps c.rs).isSome]) ∧ Below w.heap.size w w' := by
  obtain ⟨A0, A1, c0, c1, rs, os, n2, n3, n4, n5, n6, n7, n8, n9, n10, n11⟩ := c
  have HRS : Hid (Rts.Ok rs) := Lib.hid hrs
  have HC : Hid (Rts w A0 rs) := Lib.hid hc.r
  have HA := Lib.hid hA
  clear hrs hA
  have rl : rs.length ≤ maxLen := hc.rl
  clear hc
  unfold maxLen at rl
  show Calls Try.prog 16 #[Cfg.val _, .string path, .slice A ps.length cp] w fun e w' =>
      e = .returned (.tuple #[((pickB path ps rs).getD Rt.zero).val, .bool (pickB path ps rs).isSome]) ∧ Below w.heap.size w w'
  go_enter Try.func16, Try.ntmps16
  go_wp2
  go_loopg [8, 9] rs.length (fun g f i wr => ∃ (k : Nat) (a : Int) (st : Option Rt), i = .int .i64 k ∧ k + g = rs.length ∧ f = .int .i64 a ∧ Hid (AtR rs a st) ∧ Hid (st = (rs.take k).foldl (pickStep path ps) none) ∧ Hid (PR w wr) ∧ wr.cell? ⟨w.heap.size, 0, none⟩ = some (.slice A0 rs.length c0))
  case atStart =>
    refine ⟨0, -1, none, rfl, by omega, rfl, Lib.hid (.inl ⟨rfl, rfl⟩), Lib.hid rfl, Lib.hid ⟨?_, ?_⟩, ?_⟩
    · exact (below_alloc1 w _).alloc (by simp) _
    · exact Blk.new' _ Rt.zero.cells _ (by simp)
    · exact ((Blk.new w _ _).alloc _).cell 0
  case round =>
    obtain ⟨k, a, st, rfl, hk, rfl, hat, hst, hpw, hc0⟩ := hrel
    have hcl := cell_lt hc0
    have hc1 : ∀ o, (wr.alloc o).cell? ⟨w.heap.size, 0, none⟩ = some (.slice A0 rs.length c0) := fun o => ((bcell (below_alloc1 wr o)).1 _ 0 hcl).trans hc0
    by_cases hlt : k < rs.length
    · obtain ⟨b, off, rfl, h0, h1, h2⟩ := (HC.out.below hpw.out.bel) k hlt
      have hr := HRS.out.ok rs[k] (List.getElem_mem hlt)
      have hbl := fun w => refBelow_calls path rs[k].pre w hp hr.p
      have hin := fun o => In_calls rs[k].pro A ps cp (wr.alloc o) hl ((HA.out.below hpw.out.bel).alloc o)
      have HF : Hid (fitsB path ps rs[k] = _) := Lib.hid (by rw [fitsB])
      clear hr
      generalize belowB (bs path) (bs rs[k].pre) = bl at HF hbl
      generalize inB rs[k].pro ps = ib at HF hin
      go_upto_region 6 with (fail)
      go_cut [39] (fun v wx => ∃ q : Bool, v = .bool q ∧ Hid (q = !(fitsB path ps rs[k])) ∧ wx = wr.alloc (.cells rs[k].cells 34 (0, 0)))
      case first =>
        generalize hpe : rs[k].pro.toList = pl at HF
        cases pl
        all_goals
          go_wp2_with (first | (go_at_call 20; refine (hbl _).mono ?_; rintro e w' ⟨rfl, rfl⟩) | (go_at_call 22; refine (hin _).mono ?_; rintro e w' ⟨rfl, rfl⟩))
        all_goals
          go_meet
          refine ⟨_, rfl, Lib.hid ?_, rfl⟩
          rw [HF.out]
          simp [*]
      case rest =>
        obtain ⟨q, rfl, hq, rfl⟩ := hcut
        cases q
        · have HF : Hid (fitsB path ps rs[k] = true) := Lib.hid (by have := hq.out; simpa using this)
          clear hq
          rcases hat.out with ⟨rfl, rfl⟩ | ⟨j, hj, rfl, rfl⟩
          · go_upto_region 7 with (fail)
            go_big_quiet (fail)
            go_wp2
            go_roundg (rs.length - (k + 1))
            case measure => omega
            case rel => exact ⟨k + 1, k, some rs[k], by go_num, by omega, rfl, Lib.hid (.inr ⟨k, hlt, rfl, rfl⟩), Lib.hid (by rw [take_foldl rs k hlt, ← hst.out]; exact (step_first HF.out).symm), Lib.hid (hpw.out.next (by first | exact below_alloc1 _ _ | exact below_drewN (below_alloc1 _ _) _)), hc1 _⟩
          · obtain ⟨b', off', hA', g0, g1, g2⟩ := (HC.out.below hpw.out.bel) j hj
            cases hA'
            have g0' : ∀ o, (wr.alloc o).cell? ⟨b, off + j * 3, none⟩ = some (.string rs[j].pre) := fun o => ((bcell (below_alloc1 wr o)).1 _ _ (cell_lt g0)).trans g0
            have g1' : ∀ o, (wr.alloc o).cell? ⟨b, off + j * 3 + 1, none⟩ = some (.string rs[j].pro) := fun o => ((bcell (below_alloc1 wr o)).1 _ _ (cell_lt g1)).trans g1
            clear g0 g1 g2 h2
            have jb0 : (0 : Int) ≤ (j : Int) := by omega
            have jb1 : (j : Int) < (rs.length : Int) := by omega
            have jn : decide ((j : Int) < 0) = false := decide_eq_false (by omega)
            rcases Nat.lt_trichotomy rs[j].pre.size rs[k].pre.size with hcmp | hcmp | hcmp
            · have HB : Hid (betterB rs[k] rs[j] = true) := Lib.hid (by rw [betterB, if_neg (by omega)]; exact decide_eq_true hcmp)
              have d1 : decide (rs[j].pre.size < rs[k].pre.size) = true := decide_eq_true hcmp
              go_upto_region 7 with (fail)
              go_big_quiet (fail)
              go_wp2
              go_roundg (rs.length - (k + 1))
              case measure => omega
              case rel => exact ⟨k + 1, k, some rs[k], by go_num, by omega, rfl, Lib.hid (.inr ⟨k, hlt, rfl, rfl⟩), Lib.hid (by rw [take_foldl rs k hlt, ← hst.out]; exact ((step_more HF.out).trans (by rw [HB.out]; rfl)).symm), Lib.hid (hpw.out.next (by first | exact below_alloc1 _ _ | exact below_drewN (below_alloc1 _ _) _)), hc1 _⟩
            · have d1 : decide (rs[j].pre.size < rs[k].pre.size) = false := decide_eq_false (by omega)
              have d2 : ((rs[k].pre.size : Int) == (rs[j].pre.size : Int)) = true := by rw [hcmp]; simp
              have HE := Lib.hid hcmp; clear hcmp
              by_cases hpj : rs[j].pro.toList = []
              · by_cases hpk : rs[k].pro.toList = []
                · have HB : Hid (betterB rs[k] rs[j] = false) := Lib.hid (by rw [betterB, if_pos HE.out.symm, hpk]; rfl)
                  go_upto_region 7 with (fail)
                  go_big_quiet (fail)
                  go_wp2
                  go_roundg (rs.length - (k + 1))
                  case measure => omega
                  case rel => exact ⟨k + 1, _, _, by go_num, by omega, rfl, hat, Lib.hid (by rw [take_foldl rs k hlt, ← hst.out]; exact ((step_more HF.out).trans (by rw [HB.out]; rfl)).symm), Lib.hid (hpw.out.next (by first | exact below_alloc1 _ _ | exact below_drewN (below_alloc1 _ _) _)), hc1 _⟩
                · have hpk' : rs[k].pro.toList.isEmpty = false := by simpa using hpk
                  have HB : Hid (betterB rs[k] rs[j] = true) := Lib.hid (by rw [betterB, if_pos HE.out.symm, hpk', hpj]; rfl)
                  go_upto_region 7 with (fail)
                  go_big_quiet (fail)
                  go_wp2
                  go_roundg (rs.length - (k + 1))
                  case measure => omega
                  case rel => exact ⟨k + 1, k, some rs[k], by go_num, by omega, rfl, Lib.hid (.inr ⟨k, hlt, rfl, rfl⟩), Lib.hid (by rw [take_foldl rs k hlt, ← hst.out]; exact ((step_more HF.out).trans (by rw [HB.out]; rfl)).symm), Lib.hid (hpw.out.next (by first | exact below_alloc1 _ _ | exact below_drewN (below_alloc1 _ _) _)), hc1 _⟩
              · have hpj' : rs[j].pro.toList.isEmpty = false := by simpa using hpj
                have HB : Hid (betterB rs[k] rs[j] = false) := Lib.hid (by rw [betterB, if_pos HE.out.symm, hpj', Bool.and_false])
                go_upto_region 7 with (fail)
                go_big_quiet (fail)
                go_wp2
                go_roundg (rs.length - (k + 1))
                case measure => omega
                case rel => exact ⟨k + 1, _, _, by go_num, by omega, rfl, hat, Lib.hid (by rw [take_foldl rs k hlt, ← hst.out]; exact ((step_more HF.out).trans (by rw [HB.out]; rfl)).symm), Lib.hid (hpw.out.next (by first | exact below_alloc1 _ _ | exact below_drewN (below_alloc1 _ _) _)), hc1 _⟩
            · have HB : Hid (betterB rs[k] rs[j] = false) := Lib.hid (by rw [betterB, if_neg (by omega)]; exact decide_eq_false (by omega))
              have d1 : decide (rs[j].pre.size < rs[k].pre.size) = false := decide_eq_false (by omega)
              have d2 : ((rs[k].pre.size : Int) == (rs[j].pre.size : Int)) = false := beq_eq_false_iff_ne.2 (by omega)
              go_upto_region 7 with (fail)
              go_big_quiet (fail)
              go_wp2
              go_roundg (rs.length - (k + 1))
              case measure => omega
              case rel => exact ⟨k + 1, _, _, by go_num, by omega, rfl, hat, Lib.hid (by rw [take_foldl rs k hlt, ← hst.out]; exact ((step_more HF.out).trans (by rw [HB.out]; rfl)).symm), Lib.hid (hpw.out.next (by first | exact below_alloc1 _ _ | exact below_drewN (below_alloc1 _ _) _)), hc1 _⟩
        · have HF : Hid (fitsB path ps rs[k] = false) := Lib.hid (by have := hq.out; simpa using this)
          clear hq
          go_wp2
          go_roundg (rs.length - (k + 1))
          case measure => omega
          case rel => exact ⟨k + 1, _, _, by go_num, by omega, rfl, hat, Lib.hid (by rw [take_foldl rs k hlt, ← hst.out]; exact (step_no HF.out).symm), Lib.hid (hpw.out.next (by first | exact below_alloc1 _ _ | exact below_drewN (below_alloc1 _ _) _)), hc1 _⟩
    · have hk' : rs.take k = rs := List.take_of_length_le (by omega)
      rw [hk'] at hst
      have R0 := (hpw.out.res.cell 0).trans rfl
      have R1 := (hpw.out.res.cell 1).trans rfl
      have R2 := (hpw.out.res.cell 2).trans rfl
      have RF := hpw.out.res.frozen
      rcases hat.out with ⟨rfl, rfl⟩ | ⟨j, hj, rfl, rfl⟩
      · go_wp2
        refine bodyPost_ret (v := .tuple #[Rt.zero.val, .bool false]) (by simp [results, Try.results16, go_sem, R0, R1, R2, Rt.zero]) rfl ⟨?_, ?_⟩
        · rw [pickB, ← hst.out]; rfl
        · exact ((hpw.out.bel.setCell (by simp) _).setCell (by simp) _).setCell (by simp) _
      · obtain ⟨b, off, rfl, h0, h1, h2⟩ := (HC.out.below hpw.out.bel) j hj
        go_wp2
        refine bodyPost_ret (v := .tuple #[rs[j].val, .bool true]) (by simp [results, Try.results16, go_sem, R0, R1, R2]) rfl ⟨?_, ?_⟩
        · rw [pickB, ← hst.out]; rfl
        · exact ((hpw.out.bel.setCell (by simp) _).setCell (by simp) _).setCell (by simp) _
end Go.Proofs.Ythdmibjeomhibaa
