/- pendentivelaw15.awake answers true, in every world. -/
import Derived.Test.YthdmibjeomhibaaRj
namespace Go.Proofs.Ythdmibjeomhibaa
set_option linter.unusedSimpArgs false
set_option linter.unusedVariables false
open Go.RowKit
def rA : Rt := ⟨⟨#[47]⟩, ⟨#[]⟩, ⟨#[120]⟩⟩
def rB : Rt := ⟨⟨#[47, 97]⟩, ⟨#[112]⟩, ⟨#[121]⟩⟩
@[reducible] def awC (N : Nat) : Cfg := ⟨some ⟨N, 0, none⟩, none, 2, 0, [⟨⟨#[47]⟩, ⟨#[]⟩, ⟨#[120]⟩⟩, ⟨⟨#[47, 97]⟩, ⟨#[112]⟩, ⟨#[121]⟩⟩], [], 1, 1, 1, 1, 1, 1, 1, 1, 1, 1⟩
@[reducible] def aw6 : Array Value := #[.string ⟨#[47]⟩, .string ⟨#[]⟩, .string ⟨#[120]⟩, .string ⟨#[47, 97]⟩, .string ⟨#[112]⟩, .string ⟨#[121]⟩]
theorem aw_pick : pickB ⟨#[47, 97, 47, 98]⟩ [⟨#[112]⟩] [rA, rB] = some rB := by
  simp only [pickB, List.foldl, pickStep.eq_def, fitsB, betterB, toList_bs]
  decide
theorem aw_pick2 : pickB ⟨#[47, 98]⟩ [] [rA, rB] = some rA := by
  simp only [pickB, List.foldl, pickStep.eq_def, fitsB, betterB, toList_bs]
  decide
theorem aw_check (N : Nat) : checkB (awC N) = true := by
  have h : (List.range 2).all (rtOk [rA, rB]) = true := by
    simp only [List.range_succ, List.range_zero, List.nil_append, List.all_append, List.all_cons, List.all_nil, rtOk, rightB, inR, toList_bs]
    decide
  have h1 : boundsB (awC N) = true := by rw [bounds_iff]; simp [awC]
  rw [checkB, h1]
  exact h
theorem aw_rts {w : World} {N : Nat} {t : TypeId} (h : Blk w N aw6 t) : Rts w (some ⟨N, 0, none⟩) [rA, rB] := by
  intro i hi
  obtain rfl | rfl : i = 0 ∨ i = 1 := by simp at hi; omega
  · exact ⟨N, 0, rfl, (h.cell 0).trans rfl, (h.cell 1).trans rfl, (h.cell 2).trans rfl⟩
  · exact ⟨N, 0, rfl, (h.cell 3).trans rfl, (h.cell 4).trans rfl, (h.cell 5).trans rfl⟩
theorem aw_small (s : ByteArray) (h : s.size ≤ 10) : s.size ≤ maxLen := by unfold maxLen; omega
theorem aw_ok {w : World} {N : Nat} {t : TypeId} (h : Blk w N aw6 t) : (awC N).Ok w :=
  ⟨by show 2 ≤ maxLen; unfold maxLen; omega, Nat.le_refl _, by show 2 ≤ maxLen; unfold maxLen; omega, Nat.zero_le _, aw_rts h, fun i hi => absurd hi (Nat.not_lt_zero i)⟩
theorem aw_rsok : Rts.Ok [rA, rB] := ⟨fun r hr => by
  simp only [List.mem_cons, List.not_mem_nil, or_false] at hr
  rcases hr with rfl | rfl
  · exact ⟨aw_small _ (by decide), aw_small _ (by decide), aw_small _ (by decide)⟩
  · exact ⟨aw_small _ (by decide), aw_small _ (by decide), aw_small _ (by decide)⟩⟩
@[reducible] def awL (N : Nat) : Array Value := #[.slice (some ⟨N, 0, none⟩) 2 2, .slice none 0 0, .int .i64 1, .int .i64 1, .int .i64 1, .int .i64 1, .int .i64 1, .int .i64 1, .int .i64 1, .int .i64 1, .int .i64 1, .int .i64 1]
/-- The world of awake between its calls. -/
structure AW (w wx : World) : Prop where
  bel : Below w.heap.size w wx
  rts : Blk wx w.heap.size aw6 34
  cfg : Blk wx (w.heap.size + 1) (awL w.heap.size) 25
theorem AW.next {w wx w1 : World} (h : AW w wx) (hb : Below wx.heap.size wx w1) : AW w w1 := ⟨h.bel.trans (hb.mono h.bel.size), h.rts.below hb, h.cfg.below hb⟩
@[reducible] def awV (N : Nat) : Value := .agg #[.slice (some ⟨N, 0, none⟩) 2 2, .slice none 0 0, .int .i64 1, .int .i64 1, .int .i64 1, .int .i64 1, .int .i64 1, .int .i64 1, .int .i64 1, .int .i64 1, .int .i64 1, .int .i64 1]
theorem aw_pick_calls {w X : World} (h : AW w X) (g : Nat) (hg : Blk X g #[.string ⟨#[112]⟩] 9) :
    Calls Try.prog 15 #[awV w.heap.size, .string ⟨#[47, 97, 47, 98]⟩, .slice (some ⟨g, 0, none⟩) 1 1] X fun e w1 => e = .returned (.tuple #[rB.val, .bool true]) ∧ Hid (AW w w1) := by
  have hs : Strs X (some ⟨g, 0, none⟩) [⟨#[112]⟩] := fun i hi => by
    obtain rfl : i = 0 := by simp at hi; omega
    exact ⟨g, 0, rfl, (hg.cell 0).trans rfl⟩
  refine (Pick_calls (awC w.heap.size) ⟨#[47, 97, 47, 98]⟩ _ 1 [⟨#[112]⟩] X (aw_ok h.rts) (aw_small _ (by decide)) aw_rsok (by show 1 ≤ maxLen; unfold maxLen; omega) hs).mono ?_
  rintro e w1 ⟨he, hb⟩
  refine ⟨?_, Lib.hid (h.next hb)⟩
  have hp : pickB ⟨#[47, 97, 47, 98]⟩ [⟨#[112]⟩] (awC w.heap.size).rs = some rB := aw_pick
  rw [hp] at he
  exact he
@[reducible] def awO : Value := .agg #[.string ⟨#[47, 98]⟩, .string ⟨#[]⟩, .string ⟨#[]⟩, .string ⟨#[]⟩, .slice none 0 0]
theorem aw_admit_calls {w X : World} (h : AW w X) :
    Calls Try.prog 17 #[awV w.heap.size, awO, .int .i64 0] X fun e w1 => e = .returned (.tuple #[rA.val, .int .i64 0]) ∧ Hid (Below X.heap.size X w1) := by
  refine (Admit_calls (awC w.heap.size) ⟨⟨#[47, 98]⟩, ⟨#[]⟩, ⟨#[]⟩, ⟨#[]⟩, none, [], 0⟩ 0 X (aw_ok h.rts) ⟨Nat.zero_le _, fun i hi => absurd hi (Nat.not_lt_zero i), aw_small _ (by decide)⟩ aw_rsok).mono ?_
  rintro e w1 ⟨he, hb⟩
  refine ⟨?_, Lib.hid hb⟩
  have hp : admitB (awC w.heap.size) ⟨⟨#[47, 98]⟩, ⟨#[]⟩, ⟨#[]⟩, ⟨#[]⟩, none, [], 0⟩ 0 = (rA, 0) := by
    have hq : pickB ⟨#[47, 98]⟩ [] (awC w.heap.size).rs = some rA := aw_pick2
    rw [admitB.eq_def]
    simp only [hq]
    rfl
  rw [hp] at he
  exact he
theorem aw_check_calls {w X : World} (h : AW w X) :
    Calls Try.prog 13 #[awV w.heap.size] X fun e w1 => e = .returned (.int .i64 0) ∧ Hid (Below X.heap.size X w1) := by
  refine (Check_calls (awC w.heap.size) X (aw_ok h.rts) aw_rsok).mono ?_
  rintro e w1 ⟨he, hb⟩
  refine ⟨?_, Lib.hid hb⟩
  rw [aw_check] at he
  exact he
theorem aw_below (s p : ByteArray) (hs : s.size ≤ 10) (hp : p.size ≤ 10) (r : Bool) (hr : belowB (bs s) (bs p) = r) (w : World) :
    Calls Try.prog 19 #[.string s, .string p] w fun e w' => e = .returned (.bool r) ∧ ∃ n, w' = w.drewN n := by
  rw [← hr]; exact Below_calls s p w (aw_small _ hs) (aw_small _ hp)
set_option maxRecDepth 100000 in
set_option maxHeartbeats 8000000 in
theorem awake_calls (w : World) : Calls Try.prog 10 #[] w fun e w' => e = .returned (.bool true) ∧ Below w.heap.size w w' := by
  obtain ⟨W, hW⟩ : ∃ W, W = (w.alloc (.cells aw6 34 (0, 0))).alloc (.cells (awL w.heap.size) 25 (0, 0)) := ⟨_, rfl⟩
  have hAW : AW w W := by
    rw [hW]
    exact ⟨(below_alloc1 w _).alloc (by simp) _, (Blk.new w _ _).alloc _, Blk.new' _ _ _ (by simp)⟩
  have HAW := Lib.hid hAW
  clear hAW
  go_enter Try.func10, Try.ntmps10
  go_upto_region 2 with (fail)
  rw [← hW]
  clear hW
  go_cut [2, 3] (fun v2 v3 wx => ∃ g : Nat, v2 = .pointer (some ⟨g, 0, none⟩) ∧ v3 = .bool true ∧ Hid (AW w wx ∧ Blk wx g rB.cells 34))
  case first =>
    have hc := HAW.out.cfg.cell
    have c0 := (hc 0).trans rfl
    have c1 := (hc 1).trans rfl
    have c2 := (hc 2).trans rfl
    have c3 := (hc 3).trans rfl
    have c4 := (hc 4).trans rfl
    have c5 := (hc 5).trans rfl
    have c6 := (hc 6).trans rfl
    have c7 := (hc 7).trans rfl
    have c8 := (hc 8).trans rfl
    have c9 := (hc 9).trans rfl
    have c10 := (hc 10).trans rfl
    have c11 := (hc 11).trans rfl
    clear hc
    have hpk := aw_pick_calls (HAW.out.next (below_alloc1 W (.cells #[.string ⟨#[112]⟩] 9 (0, 0)))) W.heap.size (Blk.new W _ _)
    go_wp2_with (go_at_call 15; refine hpk.mono ?_; rintro e w1 ⟨rfl, hb⟩)
    go_meet
    exact ⟨w1.heap.size, rfl, rfl, Lib.hid ⟨hb.out.next (below_alloc1 _ _), Blk.new w1 rB.cells _⟩⟩
  case rest =>
    obtain ⟨g, rfl, rfl, hcut⟩ := hcut
    go_upto_region 3 with (fail)
    go_cut [4, 5] (fun v4 v5 wx => ∃ g' : Nat, v4 = .pointer (some ⟨g', 0, none⟩) ∧ v5 = .int .i64 0 ∧ Hid (AW w wx ∧ Blk wx g rB.cells 34 ∧ Blk wx g' rA.cells 34))
    case first =>
      have hc := hcut.out.1.cfg.cell
      have c0 := (hc 0).trans rfl
      have c1 := (hc 1).trans rfl
      have c2 := (hc 2).trans rfl
      have c3 := (hc 3).trans rfl
      have c4 := (hc 4).trans rfl
      have c5 := (hc 5).trans rfl
      have c6 := (hc 6).trans rfl
      have c7 := (hc 7).trans rfl
      have c8 := (hc 8).trans rfl
      have c9 := (hc 9).trans rfl
      have c10 := (hc 10).trans rfl
      have c11 := (hc 11).trans rfl
      clear hc
      have had := aw_admit_calls hcut.out.1
      go_wp2_with (go_at_call 17; refine had.mono ?_; rintro e w1 ⟨rfl, hb⟩)
      go_meet
      exact ⟨w1.heap.size, rfl, rfl, Lib.hid ⟨(hcut.out.1.next hb.out).next (below_alloc1 _ _), (hcut.out.2.below hb.out).alloc _, Blk.new w1 rA.cells _⟩⟩
    case rest =>
      obtain ⟨g', rfl, rfl, hcut⟩ := hcut
      have hc := hcut.out.1.cfg.cell
      have c0 := (hc 0).trans rfl
      have c1 := (hc 1).trans rfl
      have c2 := (hc 2).trans rfl
      have c3 := (hc 3).trans rfl
      have c4 := (hc 4).trans rfl
      have c5 := (hc 5).trans rfl
      have c6 := (hc 6).trans rfl
      have c7 := (hc 7).trans rfl
      have c8 := (hc 8).trans rfl
      have c9 := (hc 9).trans rfl
      have c10 := (hc 10).trans rfl
      have c11 := (hc 11).trans rfl
      clear hc
      have hch := aw_check_calls hcut.out.1
      have tB : rB.dst.toList = [121] := by rw [toList_bs]; rfl
      have tA : rA.dst.toList = [120] := by rw [toList_bs]; rfl
      go_upto_region 4 with (fail)
      go_wp2_with (first
        | (go_at_call 13; refine hch.mono ?_; rintro e w1 ⟨rfl, hb⟩
           have K := (hcut.out.2.1.below hb.out).cell 2 |>.trans rfl
           have K' := (hcut.out.2.2.below hb.out).cell 2 |>.trans rfl)
        | (go_at_call 19; ((with_reducible refine (aw_below ⟨#[47, 97, 47, 98, 63, 99]⟩ ⟨#[47, 97]⟩ (by decide) (by decide) true (by decide) _).mono ?_); rintro e w' ⟨rfl, n, rfl⟩))
        | (go_at_call 19; ((with_reducible refine (aw_below ⟨#[47, 97, 47, 98, 63, 99]⟩ ⟨#[47, 97, 47, 98]⟩ (by decide) (by decide) true (by decide) _).mono ?_); rintro e w' ⟨rfl, n, rfl⟩))
        | (go_at_call 19; ((with_reducible refine (aw_below ⟨#[47, 97, 47, 98, 63, 99]⟩ ⟨#[47]⟩ (by decide) (by decide) true (by decide) _).mono ?_); rintro e w' ⟨rfl, n, rfl⟩))
        | (go_at_call 19; ((with_reducible refine (aw_below ⟨#[47, 97, 47, 98, 63, 99]⟩ ⟨#[47, 97, 47, 98, 99]⟩ (by decide) (by decide) false (by decide) _).mono ?_); rintro e w' ⟨rfl, n, rfl⟩)))
      go_ret
      exact ⟨rfl, below_drewN (hcut.out.1.next hb.out).bel _⟩
end Go.Proofs.Ythdmibjeomhibaa
