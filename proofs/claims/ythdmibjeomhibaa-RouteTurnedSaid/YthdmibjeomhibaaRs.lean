/- A world behind calls with the configuration's box in it, and protocols that can be read; append in a plain region; conditions: the slices can be read. -/
import Derived.Test.YthdmibjeomhibaaRp
import Derived.Test.YthdmibjeomhibaaRq
namespace Go.Proofs.Ythdmibjeomhibaa
set_option linter.unusedSimpArgs false
set_option linter.unusedVariables false
open Go.RowKit
/-- A world behind calls, with the configuration's box in it, and protocols that can be read. -/
structure BW (c : Cfg) (A : Option Addr) (ps : List ByteArray) (w wx : World) : Prop where
  bel : Below w.heap.size w wx
  cb : Blk wx w.heap.size c.cells 25
  ok : c.Ok wx
  p : Strs wx A ps
theorem BW.next {c : Cfg} {A : Option Addr} {ps : List ByteArray} {w wx w1 : World} (h : BW c A ps w wx) (hb : Below wx.heap.size wx w1) : BW c A ps w w1 :=
  ⟨h.bel.trans (hb.mono h.bel.size), h.cb.below hb, h.ok.below hb, h.p.below hb⟩
theorem BW.start {c : Cfg} {A : Option Addr} {ps : List ByteArray} {w : World} (hc : c.Ok w) (hp : Strs w A ps) : BW c A ps w (w.alloc (.cells c.cells 25 (0, 0))) :=
  ⟨below_alloc1 w _, Blk.new w _ _, hc.below (below_alloc1 w _), hp.alloc _⟩
theorem bw_awake {c : Cfg} {A : Option Addr} {ps : List ByteArray} {w : World} (wx : World) (h : Hid (BW c A ps w wx)) : Calls Try.prog 10 #[] wx fun e w' => e = .returned (.bool true) ∧ Hid (BW c A ps w w') :=
  (awake_calls wx).mono fun _ _ ⟨he, hb⟩ => ⟨he, Lib.hid (h.out.next hb)⟩
theorem bw_few {c : Cfg} {A : Option Addr} {ps : List ByteArray} {w : World} (wx : World) (h : Hid (BW c A ps w wx)) : Calls Try.prog 11 #[c.val] wx fun e w' => e = .returned (.bool (few15 c)) ∧ Hid (BW c A ps w w') :=
  (Few15_calls c wx h.out.ok).mono fun _ _ ⟨he, hb⟩ => ⟨he, Lib.hid (h.out.next hb)⟩
theorem bw_few6 {c : Cfg} {A : Option Addr} {ps : List ByteArray} {w : World} (hl : ps.length ≤ maxLen) (k : Nat) (wx : World) (h : Hid (BW c A ps w wx)) : Calls Try.prog 14 #[.slice A ps.length k] wx fun e w' => e = .returned (.bool (fewB ps)) ∧ w' = wx :=
  Few_calls A ps k wx hl h.out.p
theorem bw_pick {c : Cfg} {A : Option Addr} {ps : List ByteArray} {w : World} (hrs : Rts.Ok c.rs) (path : ByteArray) (hp : path.size ≤ maxLen) (hl : ps.length ≤ maxLen) (B : Option Addr) (k : Nat) (wx : World) (h : Hid (BW c A ps w wx)) (hB : Hid (Strs wx B ps)) :
    Calls Try.prog 15 #[c.val, .string path, .slice B ps.length k] wx fun e w' =>
      e = .returned (.tuple #[((pickB path ps c.rs).getD Rt.zero).val, .bool (pickB path ps c.rs).isSome]) ∧ Hid (BW c A ps w w' ∧ Below wx.heap.size wx w') :=
  (Pick_calls c path B k ps wx h.out.ok hp hrs hl hB.out).mono fun _ _ ⟨he, hb⟩ => ⟨he, Lib.hid ⟨h.out.next hb, hb⟩⟩
theorem BW.held {c : Cfg} {A : Option Addr} {ps : List ByteArray} {w wr wx : World} (h : BW c A ps w wr) (hb : Below wr.heap.size wr wx) :
    wx.cell? ⟨w.heap.size, 0, none⟩ = some (.slice c.A0 c.rs.length c.c0) ∧ wx.cell? ⟨w.heap.size, 1, none⟩ = some (.slice c.A1 c.os.length c.c1) ∧ wx.cell? ⟨w.heap.size, 2, none⟩ = some (.int .i64 c.n2) ∧ wx.cell? ⟨w.heap.size, 3, none⟩ = some (.int .i64 c.n3) ∧
    wx.cell? ⟨w.heap.size, 4, none⟩ = some (.int .i64 c.n4) ∧ wx.cell? ⟨w.heap.size, 5, none⟩ = some (.int .i64 c.n5) ∧ wx.cell? ⟨w.heap.size, 6, none⟩ = some (.int .i64 c.n6) ∧ wx.cell? ⟨w.heap.size, 7, none⟩ = some (.int .i64 c.n7) ∧ wx.cell? ⟨w.heap.size, 8, none⟩ = some (.int .i64 c.n8) ∧
    wx.cell? ⟨w.heap.size, 9, none⟩ = some (.int .i64 c.n9) ∧ wx.cell? ⟨w.heap.size, 10, none⟩ = some (.int .i64 c.n10) ∧ wx.cell? ⟨w.heap.size, 11, none⟩ = some (.int .i64 c.n11) ∧ Hid (Below wr.heap.size wr wx) := by
  have f := (h.next hb).cb.cell
  exact ⟨(f 0).trans rfl, (f 1).trans rfl, (f 2).trans rfl, (f 3).trans rfl, (f 4).trans rfl, (f 5).trans rfl, (f 6).trans rfl, (f 7).trans rfl, (f 8).trans rfl, (f 9).trans rfl, (f 10).trans rfl, (f 11).trans rfl, Lib.hid hb⟩
theorem BW.cells {c : Cfg} {A : Option Addr} {ps : List ByteArray} {w wx : World} (h : BW c A ps w wx) : c.At wx w.heap.size := by
  obtain ⟨f0, f1, f2, f3, f4, f5, f6, f7, f8, f9, f10, f11, _⟩ := h.held (Below.refl _ _)
  exact ⟨f0, f1, f2, f3, f4, f5, f6, f7, f8, f9, f10, f11⟩
/-- At the list of a plain region's operations. -/
theorem wpList_app {P : Program} {w : World} {ops : Array Oper} {rest : List Oper} {o : Oper} {a : Act} {Q : Exit → Act → World → Prop} {F : Value → World → Prop} (hgd : o.guard = none) (s x : Operand) (t : TypeId)
    (ho : o.op = .call { callee := .builtin .append, args := #[s, x], argTypes := #[t, t] }) (v u : Value) (hs : a.eval s = v) (hx : a.eval x = u)
    (hr : ∃ v' w', (Builtin.append_ #[t, t] o.type #[v, u]).run P w = .ok v' w' ∧ F v' w') (h : ∀ v' w', F v' w' → wpList P ops Q rest (a.put o.dst v') w') : wpList P ops Q (o :: rest) a w := by
  refine wpList_plain hgd fun K hK => ?_
  obtain ⟨v', w', hr, hf⟩ := hr
  unfold Oper.wp execOp
  simp only [ho, resolve, invoke, builtin, Sem.run_bind, Sem.run_pure, Result.andThen_ok, List.map_toArray, List.map_cons, List.map_nil, hs, hx, hr]
  exact hK _ _ (h v' w' hf)
theorem Rts_one {w : World} {g : Nat} {r : Rt} (h : Blk w g r.cells 34) : Rts w (some ⟨g, 0, none⟩) [r] := fun i hi => by
  obtain rfl : i = 0 := by simp at hi; omega
  exact ⟨g, 0, rfl, (h.cell 0).trans rfl, (h.cell 1).trans rfl, (h.cell 2).trans rfl⟩
theorem Strs_one {w : World} {g : Nat} {s : ByteArray} (h : Blk w g #[.string s] 9) : Strs w (some ⟨g, 0, none⟩) [s] := fun i hi => by
  obtain rfl : i = 0 := by simp at hi; omega
  exact ⟨g, 0, rfl, (h.cell 0).trans rfl⟩
def Cfg.withR (c : Cfg) (A : Option Addr) (k : Nat) (rs : List Rt) : Cfg := { c with A0 := A, c0 := k, rs := rs }
def Cfg.withO (c : Cfg) (A : Option Addr) (k : Nat) (os : List ByteArray) : Cfg := { c with A1 := A, c1 := k, os := os }
theorem few15_len {c : Cfg} (h : few15 c = true) : c.rs.length ≤ 30 ∧ c.os.length ≤ 30 := by
  rw [few15, Bool.and_eq_true, Bool.and_eq_true, decide_eq_true_eq] at h
  exact ⟨h.1.2, few_len h.2⟩
end Go.Proofs.Ythdmibjeomhibaa
