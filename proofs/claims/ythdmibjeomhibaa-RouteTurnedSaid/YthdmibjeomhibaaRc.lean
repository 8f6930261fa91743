/- Configurations: their values in memory; whether one is not too great; conditions: the slices can be read. -/
import Derived.Test.YthdmibjeomhibaaRb
namespace Go.Proofs.Ythdmibjeomhibaa
set_option linter.unusedSimpArgs false
set_option linter.unusedVariables false
open Go.RowKit
structure Rt where
  pre : ByteArray
  pro : ByteArray
  dst : ByteArray
  deriving DecidableEq
@[reducible] def Rt.val (r : Rt) : Value := .agg #[.string r.pre, .string r.pro, .string r.dst]
def Rt.zero : Rt := ⟨⟨#[]⟩, ⟨#[]⟩, ⟨#[]⟩⟩
/-- A slice of routes that is read. -/
def Rts (w : World) (A : Option Addr) (l : List Rt) : Prop := ∀ i (h : i < l.length), ∃ b off, A = some ⟨b, off, none⟩ ∧
  w.cell? ⟨b, off + i * 3, none⟩ = some (.string l[i].pre) ∧ w.cell? ⟨b, off + i * 3 + 1, none⟩ = some (.string l[i].pro) ∧ w.cell? ⟨b, off + i * 3 + 2, none⟩ = some (.string l[i].dst)
theorem bcell {w w1 : World} {B : Nat} (hb : Below B w w1) : (∀ b o, b < B → w1.cell? ⟨b, o, none⟩ = w.cell? ⟨b, o, none⟩) ∧ (∀ b o, b < B → w1.frozen? ⟨b, o, none⟩ = w.frozen? ⟨b, o, none⟩) :=
  ⟨fun b o h => hb.cell (p := ⟨b, o, none⟩) h, fun b o h => hb.frozen (p := ⟨b, o, none⟩) h⟩
theorem cell_lt {w : World} {b o : Nat} {v : Value} (h : w.cell? ⟨b, o, none⟩ = some v) : b < w.heap.size := World.block_lt_of_cell? w _ h
theorem Strs.below {w w1 : World} {A : Option Addr} {l : List ByteArray} (h : Strs w A l) (hb : Below w.heap.size w w1) : Strs w1 A l := fun i hi => by
  obtain ⟨b, off, e, hc⟩ := h i hi
  exact ⟨b, off, e, ((bcell hb).1 b _ (cell_lt hc)).trans hc⟩
theorem Rts.below {w w1 : World} {A : Option Addr} {l : List Rt} (h : Rts w A l) (hb : Below w.heap.size w w1) : Rts w1 A l := fun i hi => by
  obtain ⟨b, off, e, h1, h2, h3⟩ := h i hi
  have hc := (bcell hb).1 b
  exact ⟨b, off, e, (hc _ (cell_lt h1)).trans h1, (hc _ (cell_lt h2)).trans h2, (hc _ (cell_lt h3)).trans h3⟩
theorem below_alloc1 (w : World) (o : Obj) : Below w.heap.size w (w.alloc o) := (Below.refl _ _).alloc (Nat.le_refl _) _
theorem below_drewN {B : Nat} {w W : World} (h : Below B w W) (n : Nat) : Below B w (W.drewN n) := ⟨h.os, h.tape, h.output, h.size, h.block⟩
theorem Strs.alloc {w : World} {A : Option Addr} {l : List ByteArray} (h : Strs w A l) (o : Obj) : Strs (w.alloc o) A l := h.below (below_alloc1 w o)
theorem Rts.alloc {w : World} {A : Option Addr} {l : List Rt} (h : Rts w A l) (o : Obj) : Rts (w.alloc o) A l := h.below (below_alloc1 w o)
structure Cfg where
  A0 : Option Addr
  A1 : Option Addr
  c0 : Nat
  c1 : Nat
  rs : List Rt
  os : List ByteArray
  n2 : Int
  n3 : Int
  n4 : Int
  n5 : Int
  n6 : Int
  n7 : Int
  n8 : Int
  n9 : Int
  n10 : Int
  n11 : Int
@[reducible] def Cfg.val (c : Cfg) : Value := .agg #[.slice c.A0 c.rs.length c.c0, .slice c.A1 c.os.length c.c1, .int .i64 c.n2, .int .i64 c.n3, .int .i64 c.n4, .int .i64 c.n5, .int .i64 c.n6, .int .i64 c.n7, .int .i64 c.n8, .int .i64 c.n9, .int .i64 c.n10, .int .i64 c.n11]
/-- A configuration whose slices can be read; each string is of a length that a world can hold. -/
structure Cfg.Ok (c : Cfg) (w : World) : Prop where
  rl : c.rs.length ≤ maxLen
  rc : c.rs.length ≤ c.c0
  cm : c.c0 ≤ maxLen
  ol : c.os.length ≤ maxLen
  r : Rts w c.A0 c.rs
  o : Strs w c.A1 c.os
theorem Cfg.Ok.below {c : Cfg} {w w1 : World} (h : c.Ok w) (hb : Below w.heap.size w w1) : c.Ok w1 := ⟨h.rl, h.rc, h.cm, h.ol, h.r.below hb, h.o.below hb⟩
/-- A configuration's copy in memory, cell by cell. -/
structure Cfg.At (c : Cfg) (W : World) (N : Nat) : Prop where
  f0 : W.cell? ⟨N, 0, none⟩ = some (.slice c.A0 c.rs.length c.c0)
  f1 : W.cell? ⟨N, 1, none⟩ = some (.slice c.A1 c.os.length c.c1)
  f2 : W.cell? ⟨N, 2, none⟩ = some (.int .i64 c.n2)
  f3 : W.cell? ⟨N, 3, none⟩ = some (.int .i64 c.n3)
  f4 : W.cell? ⟨N, 4, none⟩ = some (.int .i64 c.n4)
  f5 : W.cell? ⟨N, 5, none⟩ = some (.int .i64 c.n5)
  f6 : W.cell? ⟨N, 6, none⟩ = some (.int .i64 c.n6)
  f7 : W.cell? ⟨N, 7, none⟩ = some (.int .i64 c.n7)
  f8 : W.cell? ⟨N, 8, none⟩ = some (.int .i64 c.n8)
  f9 : W.cell? ⟨N, 9, none⟩ = some (.int .i64 c.n9)
  f10 : W.cell? ⟨N, 10, none⟩ = some (.int .i64 c.n10)
  f11 : W.cell? ⟨N, 11, none⟩ = some (.int .i64 c.n11)
theorem Cfg.At.below {c : Cfg} {w w1 : World} {N : Nat} (h : c.At w N) (hb : Below w.heap.size w w1) : c.At w1 N := by
  have hc := (bcell hb).1 N
  exact ⟨(hc _ (cell_lt h.f0)).trans h.f0, (hc _ (cell_lt h.f1)).trans h.f1, (hc _ (cell_lt h.f2)).trans h.f2, (hc _ (cell_lt h.f3)).trans h.f3, (hc _ (cell_lt h.f4)).trans h.f4, (hc _ (cell_lt h.f5)).trans h.f5, (hc _ (cell_lt h.f6)).trans h.f6, (hc _ (cell_lt h.f7)).trans h.f7, (hc _ (cell_lt h.f8)).trans h.f8, (hc _ (cell_lt h.f9)).trans h.f9, (hc _ (cell_lt h.f10)).trans h.f10, (hc _ (cell_lt h.f11)).trans h.f11⟩
@[reducible] def Cfg.cells (c : Cfg) : Array Value := #[.slice c.A0 c.rs.length c.c0, .slice c.A1 c.os.length c.c1, .int .i64 c.n2, .int .i64 c.n3, .int .i64 c.n4, .int .i64 c.n5, .int .i64 c.n6, .int .i64 c.n7, .int .i64 c.n8, .int .i64 c.n9, .int .i64 c.n10, .int .i64 c.n11]
theorem alloc_cell (w : World) (cs : Array Value) (t : TypeId) (i : Nat) : (w.alloc (.cells cs t (0, 0))).cell? ⟨w.heap.size, i, none⟩ = cs[i]? := World.cell?_alloc_new _ _ _ i
theorem Cfg.box (c : Cfg) (w : World) (t : TypeId) : c.At (w.alloc (.cells c.cells t (0, 0))) w.heap.size :=
  ⟨(alloc_cell w c.cells t 0).trans rfl, (alloc_cell w c.cells t 1).trans rfl, (alloc_cell w c.cells t 2).trans rfl, (alloc_cell w c.cells t 3).trans rfl, (alloc_cell w c.cells t 4).trans rfl, (alloc_cell w c.cells t 5).trans rfl, (alloc_cell w c.cells t 6).trans rfl, (alloc_cell w c.cells t 7).trans rfl, (alloc_cell w c.cells t 8).trans rfl, (alloc_cell w c.cells t 9).trans rfl, (alloc_cell w c.cells t 10).trans rfl, (alloc_cell w c.cells t 11).trans rfl⟩
def rtFew (r : Rt) : Bool := decide (r.pre.size ≤ 300) && decide (r.pro.size ≤ 300) && decide (r.dst.size ≤ 300)
def few15 (c : Cfg) : Bool := c.rs.all rtFew && decide (c.rs.length ≤ 30) && fewB c.os
set_option maxHeartbeats 1000000 in
theorem Few15_calls (c : Cfg) (w : World) (hc : c.Ok w) :
    Calls Try.prog 11 #[c.val] w fun e w' => e = .returned (.bool (few15 c)) ∧ Below w.heap.size w w' := by
  obtain ⟨W, hW⟩ : ∃ W, W = w.alloc (.cells c.cells 25 (0, 0)) := ⟨_, rfl⟩
  have hB : Hid (Below w.heap.size w W) := Lib.hid (by rw [hW]; exact below_alloc1 w _)
  have hO : c.Ok W := hc.below hB.out
  have hAt : c.At W w.heap.size := by rw [hW]; exact c.box w _
  have f0 := hAt.f0
  have f1 := hAt.f1
  obtain ⟨rl, _, _, ol, hr, ho⟩ := hO
  unfold maxLen at rl
  have HR := Lib.hid hr
  have HO := Lib.hid ho
  have HW := Lib.hid hW
  clear hr ho hc hAt hW
  go_enter Try.func11, Try.ntmps11
  go_wp2
  go_loopg [3] c.rs.length (fun g i wr => ∃ k : Nat, i = .int .i64 k ∧ k + g = c.rs.length ∧ Hid ((c.rs.take k).all rtFew = true) ∧ wr = W)
  case atStart => exact ⟨0, rfl, by omega, Lib.hid rfl, HW.out.symm⟩
  case round =>
    obtain ⟨k, rfl, hk, hall, rfl⟩ := hrel
    by_cases hlt : k < c.rs.length
    · obtain ⟨b, off, hA, h0, h1, h2⟩ := HR.out k hlt
      rw [hA] at f0
      go_wp2
      all_goals first
        | (have e : rtFew c.rs[k] = true := by simp only [rtFew, Bool.and_eq_true, decide_eq_true_eq]; omega
           go_roundg (c.rs.length - (k + 1))
           case measure => omega
           case rel => exact ⟨k + 1, by go_num, by omega, Lib.hid (by rw [all_take c.rs k hlt, hall.out, e]; rfl), rfl⟩)
        | (have e : rtFew c.rs[k] = false := by simp only [rtFew, Bool.and_eq_false_iff, decide_eq_false_iff_not]; omega
           go_ret
           exact ⟨ret_bool (by rw [few15, all_no c.rs k hlt e]; rfl), hB.out⟩)
    · go_wp2_with (go_at_call 14; refine (Few_calls _ _ _ _ ol HO.out).mono ?_; rintro e w' ⟨rfl, rfl⟩)
      all_goals
        have hall' := hall.out
        rw [List.take_of_length_le (by omega)] at hall'
        go_ret
        first
          | exact ⟨ret_bool (by rw [few15, hall', decide_eq_true (by omega)]; rfl), hB.out⟩
          | exact ⟨ret_bool (by rw [few15, hall', decide_eq_false (by omega)]; rfl), hB.out⟩
end Go.Proofs.Ythdmibjeomhibaa
