/- route.Pick and its closure: which route a path and offered protocols come to; conditions: the slices can be read, the strings are of lengths that a world can hold. -/
import Derived.Test.YthdmibjeomhibaaRe
namespace Go.Proofs.Ythdmibjeomhibaa
set_option linter.unusedSimpArgs false
set_option linter.unusedVariables false
open Go.RowKit
def betterB (r b : Rt) : Bool := if r.pre.size = b.pre.size then !r.pro.toList.isEmpty && b.pro.toList.isEmpty else decide (b.pre.size < r.pre.size)
set_option maxHeartbeats 1000000 in
theorem better_calls (r b : Rt) (B : Nat) (w : World) (h0 : w.cell? ⟨B, 0, none⟩ = some (.string b.pre)) (h1 : w.cell? ⟨B, 1, none⟩ = some (.string b.pro)) :
    Calls Try.prog 28 #[r.val, .pointer (some ⟨B, 0, none⟩)] w fun e w' => e = .returned (.bool (betterB r b)) ∧ Below w.heap.size w w' := by
  have hlt := cell_lt h0
  have g0 : ∀ o, (w.alloc o).cell? ⟨B, 0, none⟩ = some (.string b.pre) := fun o => ((bcell (below_alloc1 w o)).1 B 0 hlt).trans h0
  have g1 : ∀ o, (w.alloc o).cell? ⟨B, 1, none⟩ = some (.string b.pro) := fun o => ((bcell (below_alloc1 w o)).1 B 1 hlt).trans h1
  by_cases hs : r.pre.size = b.pre.size
  · have HS := Lib.hid hs
    have hs' : ((r.pre.size : Int) != (b.pre.size : Int)) = false := by rw [hs]; simp
    clear hs
    go_enter Try.func28, Try.ntmps28
    go_wp2
    all_goals
      go_ret
      refine ⟨ret_bool ?_, below_alloc1 _ _⟩
      first | (rw [betterB, if_pos HS.out]; done) | (rw [betterB, if_pos HS.out]; simp [*])
  · have hs' : ((r.pre.size : Int) != (b.pre.size : Int)) = true := by simp; omega
    have HS := Lib.hid hs
    go_enter Try.func28, Try.ntmps28
    go_wp2
    go_ret
    refine ⟨ret_bool ?_, below_alloc1 _ _⟩
    rw [betterB, if_neg HS.out]
def fitsB (path : ByteArray) (protos : List ByteArray) (r : Rt) : Bool := belowB (bs path) (bs r.pre) && (r.pro.toList.isEmpty || inB r.pro protos)
def pickStep (path : ByteArray) (protos : List ByteArray) (st : Option Rt) (r : Rt) : Option Rt :=
  if fitsB path protos r then (match st with | none => some r | some b => if betterB r b then some r else some b) else st
def pickB (path : ByteArray) (protos : List ByteArray) (rs : List Rt) : Option Rt := rs.foldl (pickStep path protos) none
theorem take_foldl {α β : Type} (l : List α) (k : Nat) (h : k < l.length) (f : β → α → β) (z : β) : (l.take (k + 1)).foldl f z = f ((l.take k).foldl f z) l[k] := by
  rw [List.take_succ_eq_append_getElem h, List.foldl_append]; rfl
theorem step_no {path : ByteArray} {ps : List ByteArray} {st : Option Rt} {r : Rt} (h : fitsB path ps r = false) : pickStep path ps st r = st := by
  rw [pickStep.eq_def, h]; rfl
theorem step_first {path : ByteArray} {ps : List ByteArray} {r : Rt} (h : fitsB path ps r = true) : pickStep path ps none r = some r := by
  rw [pickStep.eq_def, h]; rfl
theorem step_more {path : ByteArray} {ps : List ByteArray} {b r : Rt} (h : fitsB path ps r = true) : pickStep path ps (some b) r = if betterB r b then some r else some b := by
  rw [pickStep.eq_def, h]; rfl
structure Rts.Ok (l : List Rt) : Prop where
  ok : ∀ r, r ∈ l → r.Ok
/-- A block of three cells that is the call's own. -/
def Blk (w : World) (M : Nat) (cs : Array Value) (t : TypeId) : Prop := w.heap[M]? = some (.cells cs t (0, 0))
theorem Blk.lt {w : World} {M : Nat} {cs : Array Value} {t : TypeId} (h : Blk w M cs t) : M < w.heap.size := (Array.getElem?_eq_some_iff.1 h).1
theorem Blk.cell {w : World} {M : Nat} {cs : Array Value} {t : TypeId} (h : Blk w M cs t) (i : Nat) : w.cell? ⟨M, i, none⟩ = cs[i]? := cell_of_row w M i cs t (0, 0) h
theorem Blk.frozen {w : World} {M : Nat} {cs : Array Value} {t : TypeId} (h : Blk w M cs t) (i : Nat) : w.frozen? ⟨M, i, none⟩ = false := by
  unfold Blk at h
  simp [World.frozen?, h]
theorem Blk.below {w w1 : World} {M : Nat} {cs : Array Value} {t : TypeId} (h : Blk w M cs t) (hb : Below w.heap.size w w1) : Blk w1 M cs t := (hb.block M h.lt).trans h
theorem Blk.alloc {w : World} {M : Nat} {cs : Array Value} {t : TypeId} (h : Blk w M cs t) (o : Obj) : Blk (w.alloc o) M cs t := h.below (below_alloc1 w o)
theorem Blk.new (w : World) (cs : Array Value) (t : TypeId) : Blk (w.alloc (.cells cs t (0, 0))) w.heap.size cs t := by
  unfold Blk World.alloc; simp
theorem Blk.new' (w : World) (cs : Array Value) (t : TypeId) {M : Nat} (hM : M = w.heap.size) : Blk (w.alloc (.cells cs t (0, 0))) M cs t := by subst hM; exact Blk.new w cs t
theorem Blk.set {w : World} {M : Nat} {cs : Array Value} {t : TypeId} (h : Blk w M cs t) (i : Nat) (v : Value) : Blk (w.setCell ⟨M, i, none⟩ v) M (cs.setIfInBounds i v) t := by
  unfold Blk at *
  unfold World.setCell
  simp [Array.getElem?_modify, h]
theorem Blk.far {w : World} {M K : Nat} {cs : Array Value} {t : TypeId} (h : Blk w M cs t) (hn : M ≠ K) (i : Nat) (v : Value) : Blk (w.setCell ⟨K, i, none⟩ v) M cs t := by
  unfold Blk at *
  unfold World.setCell
  simp [Array.getElem?_modify, h, Ne.symm hn]
@[reducible] def Rt.cells (r : Rt) : Array Value := #[.string r.pre, .string r.pro, .string r.dst]
/-- The world in a round of Pick: as it was below; what the call made. -/
structure PW (w wr : World) (b : Rt) : Prop where
  bel : Below w.heap.size w wr
  res : Blk wr (w.heap.size + 1) Rt.zero.cells 34
  best : Blk wr (w.heap.size + 1 + 1) b.cells 34
theorem PW.next {w wr w1 : World} {b : Rt} (h : PW w wr b) (hb : Below wr.heap.size wr w1) : PW w w1 b :=
  ⟨h.bel.trans (hb.mono (Nat.le_trans (Nat.le_refl _) h.bel.size)), h.res.below hb, h.best.below hb⟩
theorem PW.put {w wr : World} {b : Rt} (h : PW w wr b) (r : Rt) :
    PW w (((wr.setCell ⟨w.heap.size + 1 + 1, 0, none⟩ (.string r.pre)).setCell ⟨w.heap.size + 1 + 1, 1, none⟩ (.string r.pro)).setCell ⟨w.heap.size + 1 + 1, 2, none⟩ (.string r.dst)) r :=
  ⟨((h.bel.setCell (by simp; omega) _).setCell (by simp; omega) _).setCell (by simp; omega) _, ((h.res.far (by omega) _ _).far (by omega) _ _).far (by omega) _ _, ((h.best.set 0 _).set 1 _).set 2 _⟩
set_option maxHeartbeats 2000000 in
theorem Pick_calls (c : Cfg) (path : ByteArray) (A : Option Addr) (cp : Nat) (ps : List ByteArray) (w : World) (hc : c.Ok w) (hp : path.size ≤ maxLen) (hrs : Rts.Ok c.rs) (hl : ps.length ≤ maxLen) (hA : Strs w A ps) :
    Calls Try.prog 15 #[c.val, .string path, .slice A ps.length cp] w fun e w' =>
      e = .returned (.tuple #[((pickB path ps c.rs).getD Rt.zero).val, .bool (pickB path ps c.rs).isSome]) ∧ Below w.heap.size w w' := by
  obtain ⟨A0, A1, c0, c1, rs, os, n2, n3, n4, n5, n6, n7, n8, n9, n10, n11⟩ := c
  have HRS : Hid (Rts.Ok rs) := Lib.hid hrs
  have HC : Hid (Rts w A0 rs) := Lib.hid hc.r
  have HA := Lib.hid hA
  clear hrs hA
  have rl : rs.length ≤ maxLen := hc.rl
  clear hc
  unfold maxLen at rl
  show Calls Try.prog 15 #[Cfg.val _, .string path, .slice A ps.length cp] w fun e w' =>
      e = .returned (.tuple #[((pickB path ps rs).getD Rt.zero).val, .bool (pickB path ps rs).isSome]) ∧ Below w.heap.size w w'
  go_enter Try.func15, Try.ntmps15
  go_wp2
  go_loopg [9, 17] rs.length (fun g f i wr => ∃ (k : Nat) (st : Option Rt), i = .int .i64 k ∧ k + g = rs.length ∧ f = .bool st.isSome ∧ Hid (st = (rs.take k).foldl (pickStep path ps) none) ∧ Hid (PW w wr (st.getD Rt.zero)))
  case atStart =>
    refine ⟨0, none, rfl, by omega, rfl, Lib.hid rfl, Lib.hid ⟨?_, ?_, ?_⟩⟩
    · exact ((below_alloc1 w _).alloc (by simp) _).alloc (by simp; omega) _
    · exact Blk.alloc (Blk.new' _ Rt.zero.cells _ (by simp)) _
    · exact Blk.new' _ Rt.zero.cells _ (by simp)
  case round =>
    obtain ⟨k, st, rfl, hk, rfl, hst, hpw⟩ := hrel
    by_cases hlt : k < rs.length
    · obtain ⟨b, off, rfl, h0, h1, h2⟩ := (HC.out.below hpw.out.bel) k hlt
      have hr := HRS.out.ok rs[k] (List.getElem_mem hlt)
      have hbl := fun w => Below_calls path rs[k].pre w hp hr.p
      have hin := fun o n => contains_calls rs[k].pro A ps cp ((wr.alloc o).drewN n) hl (((HA.out.below hpw.out.bel).alloc o).below (below_drewN (Below.refl _ _) n))
      have HF : Hid (fitsB path ps rs[k] = _) := Lib.hid (by rw [fitsB])
      clear hr
      generalize belowB (bs path) (bs rs[k].pre) = bl at HF hbl
      generalize inB rs[k].pro ps = ib at HF hin
      have hbt : ∀ (b : Rt) (n : Nat), st = some b → Calls Try.prog 28 #[rs[k].val, .pointer (some ⟨w.heap.size + 1 + 1, 0, none⟩)] ((wr.alloc (.cells rs[k].cells 34 (0, 0))).drewN n) fun e w' =>
          e = .returned (.bool (betterB rs[k] b)) ∧ (w'.cell? ⟨wr.heap.size, 0, none⟩ = some (.string rs[k].pre) ∧ w'.cell? ⟨wr.heap.size, 1, none⟩ = some (.string rs[k].pro) ∧ w'.cell? ⟨wr.heap.size, 2, none⟩ = some (.string rs[k].dst)) ∧
          (w'.cell? ⟨w.heap.size + 1 + 1, 0, none⟩ = some (.string b.pre) ∧ w'.cell? ⟨w.heap.size + 1 + 1, 1, none⟩ = some (.string b.pro) ∧ w'.cell? ⟨w.heap.size + 1 + 1, 2, none⟩ = some (.string b.dst)) ∧
          (∀ i, w'.frozen? ⟨w.heap.size + 1 + 1, i, none⟩ = false) ∧ Hid (PW w w' b) := by
        intro b n hs
        have hbst : PW w ((wr.alloc (.cells rs[k].cells 34 (0, 0))).drewN n) b := by
          have := hpw.out.next (below_drewN (below_alloc1 wr (.cells rs[k].cells 34 (0, 0))) n)
          rw [hs] at this
          exact this
        have hnew : Blk ((wr.alloc (.cells rs[k].cells 34 (0, 0))).drewN n) wr.heap.size rs[k].cells 34 := Blk.new wr _ _
        refine (better_calls rs[k] b _ _ ((hbst.best.cell 0).trans rfl) ((hbst.best.cell 1).trans rfl)).mono ?_
        rintro e w' ⟨he, hb⟩
        have h1 := hnew.below hb
        have h2 := hbst.next hb
        exact ⟨he, ⟨(h1.cell 0).trans rfl, (h1.cell 1).trans rfl, (h1.cell 2).trans rfl⟩, ⟨(h2.best.cell 0).trans rfl, (h2.best.cell 1).trans rfl, (h2.best.cell 2).trans rfl⟩, h2.best.frozen, Lib.hid h2⟩
      have B0 : ∀ o, (wr.alloc o).cell? ⟨w.heap.size + 1 + 1, 0, none⟩ = some (.string (st.getD Rt.zero).pre) := fun o => ((hpw.out.best.alloc o).cell 0).trans rfl
      have B1 : ∀ o, (wr.alloc o).cell? ⟨w.heap.size + 1 + 1, 1, none⟩ = some (.string (st.getD Rt.zero).pro) := fun o => ((hpw.out.best.alloc o).cell 1).trans rfl
      have B2 : ∀ o, (wr.alloc o).cell? ⟨w.heap.size + 1 + 1, 2, none⟩ = some (.string (st.getD Rt.zero).dst) := fun o => ((hpw.out.best.alloc o).cell 2).trans rfl
      have BF := fun o => (hpw.out.best.alloc o).frozen
      cases bl
      · go_wp2_with (first
          | (go_at_call 19; refine (hbl _).mono ?_; rintro e w' ⟨rfl, n, rfl⟩))
        go_roundg (rs.length - (k + 1))
        case measure => omega
        case rel =>
          refine ⟨k + 1, st, by go_num, by omega, rfl, Lib.hid ?_, Lib.hid ?_⟩
          · rw [take_foldl rs k hlt, ← hst.out]; exact (step_no HF.out).symm
          · exact hpw.out.next (below_drewN (below_alloc1 _ _) _)
      · generalize hpe : rs[k].pro.toList = pl at HF
        have HPE := Lib.hid hpe
        cases pl with
        | nil =>
          cases st with
          | none =>
            go_wp2_with (first
              | (go_at_call 19; refine (hbl _).mono ?_; rintro e w' ⟨rfl, n, rfl⟩))
            go_roundg (rs.length - (k + 1))
            case measure => omega
            case rel =>
              refine ⟨k + 1, some rs[k], by go_num, by omega, rfl, Lib.hid ?_, Lib.hid ?_⟩
              · rw [take_foldl rs k hlt, ← hst.out]; exact (step_first HF.out).symm
              · exact (hpw.out.next (below_drewN (below_alloc1 _ _) _)).put rs[k]
          | some b0 =>
            go_wp2_with (first
              | (go_at_call 19; refine (hbl _).mono ?_; rintro e w' ⟨rfl, n, rfl⟩)
              | (go_at_call 28; refine (hbt b0 _ rfl).mono ?_; rintro e w' ⟨rfl, ⟨K0, K1, K2⟩, ⟨L0, L1, L2⟩, LF, HPW⟩))
            · go_roundg (rs.length - (k + 1))
              case measure => omega
              case rel =>
                refine ⟨k + 1, some rs[k], by go_num, by omega, rfl, Lib.hid ?_, Lib.hid ?_⟩
                · rw [take_foldl rs k hlt, ← hst.out]; exact ((step_more HF.out).trans (by simp [*])).symm
                · exact HPW.out.put rs[k]
            · go_roundg (rs.length - (k + 1))
              case measure => omega
              case rel =>
                refine ⟨k + 1, some b0, by go_num, by omega, rfl, Lib.hid ?_, Lib.hid ?_⟩
                · rw [take_foldl rs k hlt, ← hst.out]; exact ((step_more HF.out).trans (by simp [*])).symm
                · exact HPW.out
        | cons a0 l0 =>
          cases ib
          · go_wp2_with (first
              | (go_at_call 19; refine (hbl _).mono ?_; rintro e w' ⟨rfl, n, rfl⟩)
              | (go_at_call 29; refine (hin _ _).mono ?_; rintro e w' ⟨rfl, rfl⟩))
            go_roundg (rs.length - (k + 1))
            case measure => omega
            case rel =>
              refine ⟨k + 1, st, by go_num, by omega, rfl, Lib.hid ?_, Lib.hid ?_⟩
              · rw [take_foldl rs k hlt, ← hst.out]; exact (step_no HF.out).symm
              · exact hpw.out.next (below_drewN (below_alloc1 _ _) _)
          · cases st with
            | none =>
              go_wp2_with (first
                | (go_at_call 19; refine (hbl _).mono ?_; rintro e w' ⟨rfl, n, rfl⟩)
                | (go_at_call 29; refine (hin _ _).mono ?_; rintro e w' ⟨rfl, rfl⟩))
              go_roundg (rs.length - (k + 1))
              case measure => omega
              case rel =>
                refine ⟨k + 1, some rs[k], by go_num, by omega, rfl, Lib.hid ?_, Lib.hid ?_⟩
                · rw [take_foldl rs k hlt, ← hst.out]; exact (step_first HF.out).symm
                · exact (hpw.out.next (below_drewN (below_alloc1 _ _) _)).put rs[k]
            | some b0 =>
              go_wp2_with (first
                | (go_at_call 19; refine (hbl _).mono ?_; rintro e w' ⟨rfl, n, rfl⟩)
                | (go_at_call 29; refine (hin _ _).mono ?_; rintro e w' ⟨rfl, rfl⟩)
                | (go_at_call 28; refine (hbt b0 _ rfl).mono ?_; rintro e w' ⟨rfl, ⟨K0, K1, K2⟩, ⟨L0, L1, L2⟩, LF, HPW⟩))
              · go_roundg (rs.length - (k + 1))
                case measure => omega
                case rel =>
                  refine ⟨k + 1, some rs[k], by go_num, by omega, rfl, Lib.hid ?_, Lib.hid ?_⟩
                  · rw [take_foldl rs k hlt, ← hst.out]; exact ((step_more HF.out).trans (by simp [*])).symm
                  · exact HPW.out.put rs[k]
              · go_roundg (rs.length - (k + 1))
                case measure => omega
                case rel =>
                  refine ⟨k + 1, some b0, by go_num, by omega, rfl, Lib.hid ?_, Lib.hid ?_⟩
                  · rw [take_foldl rs k hlt, ← hst.out]; exact ((step_more HF.out).trans (by simp [*])).symm
                  · exact HPW.out
    · have B0 := (hpw.out.best.cell 0).trans rfl
      have B1 := (hpw.out.best.cell 1).trans rfl
      have B2 := (hpw.out.best.cell 2).trans rfl
      have R0 := (hpw.out.res.cell 0).trans rfl
      have R1 := (hpw.out.res.cell 1).trans rfl
      have R2 := (hpw.out.res.cell 2).trans rfl
      have RF := hpw.out.res.frozen
      go_wp2
      refine bodyPost_ret (v := .tuple #[(st.getD Rt.zero).val, .bool st.isSome]) (by simp [results, Try.results15, go_sem, R0, R1, R2]) rfl ⟨?_, ?_⟩
      · have h := hst.out
        rw [List.take_of_length_le (by omega)] at h
        rw [h]; rfl
      · exact ((hpw.out.bel.setCell (by simp) _).setCell (by simp) _).setCell (by simp) _
end Go.Proofs.Ythdmibjeomhibaa
