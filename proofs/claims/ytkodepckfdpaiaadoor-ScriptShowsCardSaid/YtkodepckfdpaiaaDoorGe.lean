/- append to a row of the call's own, as a law at a step and at a list of operations; a block of the call's own; no program in sight. -/
import Derived.Test.YtkodepckfdpaiaaDoorA
import Derived.Deep.AppendLies
import Derived.Deep.RegionHeld3
import Derived.Deep.Cut
import Derived.Deep.CutRange
import Derived.Deep.DeepCutAuto
import Derived.Laws.OwnMore
namespace Go.Proofs.YtkodepckfdpaiaaDoor
set_option linter.unusedSimpArgs false
set_option linter.unusedVariables false
open Go.RowKit
def Blk (w : World) (M : Nat) (cs : Array Value) (t : TypeId) : Prop := w.heap[M]? = some (.cells cs t (0, 0))
theorem Blk.lt {w : World} {M : Nat} {cs : Array Value} {t : TypeId} (h : Blk w M cs t) : M < w.heap.size := (Array.getElem?_eq_some_iff.1 h).1
theorem Blk.cell {w : World} {M : Nat} {cs : Array Value} {t : TypeId} (h : Blk w M cs t) (i : Nat) : w.cell? ⟨M, i, none⟩ = cs[i]? := cell_of_row w M i cs t (0, 0) h
theorem Blk.frozen {w : World} {M : Nat} {cs : Array Value} {t : TypeId} (h : Blk w M cs t) (i : Nat) : w.frozen? ⟨M, i, none⟩ = false := by
  unfold Blk at h
  simp [World.frozen?, h]
theorem Blk.below {w w1 : World} {M : Nat} {cs : Array Value} {t : TypeId} (h : Blk w M cs t) (hb : Below w.heap.size w w1) : Blk w1 M cs t := (hb.block M h.lt).trans h
theorem below_alloc1 (w : World) (o : Obj) : Below w.heap.size w (w.alloc o) := (Below.refl _ _).alloc (Nat.le_refl _) _
theorem below_drew1 {B : Nat} {w W : World} (h : Below B w W) : Below B w W.drew := ⟨h.os, h.tape, h.output, h.size, h.block⟩
theorem below_al {w W : World} (h : Below w.heap.size w W) (o : Obj) : Below w.heap.size w (W.alloc o) := h.alloc h.size o
theorem below_set {B : Nat} {w W : World} (h : Below B w W) {g : Nat} (hg : B ≤ g) (i : Nat) (v : Value) : Below B w (W.setCell ⟨g, i, none⟩ v) := h.setCell hg v
theorem Blk.alloc {w : World} {M : Nat} {cs : Array Value} {t : TypeId} (h : Blk w M cs t) (o : Obj) : Blk (w.alloc o) M cs t := h.below (below_alloc1 w o)
theorem Blk.new' (w : World) (cs : Array Value) (t : TypeId) {M : Nat} (hM : M = w.heap.size) : Blk (w.alloc (.cells cs t (0, 0))) M cs t := by
  subst hM
  unfold Blk World.alloc; simp
theorem Blk.set {w : World} {M : Nat} {cs : Array Value} {t : TypeId} (h : Blk w M cs t) (i : Nat) (v : Value) : Blk (w.setCell ⟨M, i, none⟩ v) M (cs.setIfInBounds i v) t := by
  unfold Blk at *
  unfold World.setCell
  simp [Array.getElem?_modify, h]
theorem Blk.drew1 {w : World} {M : Nat} {cs : Array Value} {t : TypeId} (h : Blk w M cs t) : Blk w.drew M cs t := h
theorem Blk.far {w : World} {M K : Nat} {cs : Array Value} {t : TypeId} (h : Blk w M cs t) (hn : M ≠ K) (i : Nat) (v : Value) : Blk (w.setCell ⟨K, i, none⟩ v) M cs t := by
  unfold Blk at *
  unfold World.setCell
  simp [Array.getElem?_modify, h, Ne.symm hn]
theorem Blk.other {w w' : World} {M : Nat} {cs : Array Value} {t : TypeId} (h : Blk w M cs t) {row : Option Nat} (hg : w.grownBy w' row) (hn : row ≠ some M) : Blk w' M cs t := (hg.block M h.lt (Ne.symm hn)).trans h
theorem below_grown {w w' : World} {base : Nat} {row : Option Nat} (h : w.grownBy w' row) (hb : base ≤ w.heap.size) (hr : ∀ g, row = some g → base ≤ g) : Below base w w' :=
  ⟨h.os, h.tape, h.output, h.size, fun k hk => h.block k (by omega) (fun e => by have := hr k e.symm; omega)⟩
theorem run_app {P : Program} (w : World) (base : Nat) (t ty e : TypeId) (i : TypeInfo) (z : Value) (size bytes : Nat) (ht : P.underlying t = some (.slice e)) (hi : P.info? e = some i) (hz : i.zero = some z)
    (hsize : i.size = size) (hby : i.bytes = bytes) (hzs : z.cells.size = size) (hsz : 0 < size)
    (v : Value) (n : Nat) (xs : List Value) (hown : w.ownsRow base e size v n xs)
    (A : Option Addr) (m c : Nat) (news : List Value) (hl : news.length = m * size) (hnews : ∀ j u, news[j]? = some u → ∃ a, A = some a ∧ w.cell? (a.add j) = some u) (h1 : ∀ u ∈ news, u.oneCell' = true)
    (h63 : n + m ≤ maxLen) (hbytes : (n + m) * bytes ≤ 140737488355328) (hbase : base ≤ w.heap.size) :
    ∃ v' w', (Builtin.append_ #[t, t] ty #[v, .slice A m c]).run P w = .ok v' w' ∧ w'.ownsRow base e size v' (n + m) (xs ++ news) ∧ Below base w w' ∧ w.grownBy w' v.ownBlock := by
  cases A with
  | some a =>
    obtain ⟨v', w', hr, ho, hg, _, _⟩ := run_append_own_at (P := P) w base t ty e i z size bytes ht hi hz hsize hby hzs hsz v n xs hown a m c news hl (fun j u h => by
      obtain ⟨a', e, hc⟩ := hnews j u h
      cases e; exact hc) h1 h63 hbytes hbase
    refine ⟨v', w', hr, ho, below_grown hg hbase ?_, hg⟩
    intro g hg'
    rcases hown.2 with ⟨rfl, _⟩ | ⟨g', cap, cur, rfl, hbg, _⟩
    · cases hg'
    · cases hg'; exact hbg
  | none =>
    have hm : m = 0 := by
      rcases Nat.eq_zero_or_pos m with h | h
      · exact h
      · have hp : 0 < news.length := by rw [hl]; exact Nat.mul_pos h hsz
        obtain ⟨a, e, _⟩ := hnews 0 news[0] (List.getElem?_eq_getElem hp)
        cases e
    subst hm
    have hn : news = [] := List.eq_nil_of_length_eq_zero (by simpa using hl)
    subst hn
    refine ⟨v, w, ?_, by simpa using hown, Below.refl _ _, ⟨rfl, rfl, rfl, Nat.le_refl _, fun _ _ _ => rfl⟩⟩
    rcases hown.2 with ⟨rfl, rfl⟩ | ⟨g, cap, cur, rfl, hbg, hg, hnc, _⟩
    · simp [Builtin.append_, run_underlying ht, sizeOf, typeInfo, hi, Builtin.lenOf, Builtin.firstCells]
    · simp [Builtin.append_, run_underlying ht, sizeOf, typeInfo, hi, Builtin.lenOf, Builtin.firstCells, hnc, storeCells]
/-- At a step of a region that draws its order. -/
theorem step_app {P : Program} {w : World} {ops : Array Oper} {o : Oper} {a : Act} {K : Act → World → Prop} {Q : Exit → Act → World → Prop} {E : Prop} {F : Value → World → Prop} (hgd : o.guard = none) (s x : Operand) (t : TypeId)
    (ho : o.op = .call { callee := .builtin .append, args := #[s, x], argTypes := #[t, t] }) (v u : Value) (hs : a.eval s = v) (hx : a.eval x = u)
    (hr : ∃ v' w', (Builtin.append_ #[t, t] o.type #[v, u]).run P w = .ok v' w' ∧ F v' w') (h : ∀ v' w', F v' w' → K (a.put o.dst v') w') :
    if Region.wanted o (yielded ops a.tmps) = true then Oper.wp P o a w K Q else E := by
  have hw : Region.wanted o (yielded ops a.tmps) = true := by simp [Region.wanted, hgd]
  rw [if_pos hw]
  obtain ⟨v', w', hr, hf⟩ := hr
  unfold Oper.wp execOp
  simp only [ho, resolve, invoke, builtin, Sem.run_bind, Sem.run_pure, Result.andThen_ok, List.map_toArray, List.map_cons, List.map_nil, hs, hx, hr]
  exact h v' w' hf
/-- At the list of a plain region's operations. -/
theorem wpList_app {P : Program} {w : World} {ops : Array Oper} {rest : List Oper} {o : Oper} {a : Act} {Q : Exit → Act → World → Prop} {F : Value → World → Prop} (hgd : o.guard = none) (s x : Operand) (t : TypeId)
    (ho : o.op = .call { callee := .builtin .append, args := #[s, x], argTypes := #[t, t] }) (v u : Value) (hs : a.eval s = v) (hx : a.eval x = u)
    (hr : ∃ v' w', (Builtin.append_ #[t, t] o.type #[v, u]).run P w = .ok v' w' ∧ F v' w') (h : ∀ v' w', F v' w' → wpList P ops Q rest (a.put o.dst v') w') : wpList P ops Q (o :: rest) a w := by
  refine wpList_plain hgd fun K hK => ?_
  obtain ⟨v', w', hr, hf⟩ := hr
  unfold Oper.wp execOp
  simp only [ho, resolve, invoke, builtin, Sem.run_bind, Sem.run_pure, Result.andThen_ok, List.map_toArray, List.map_cons, List.map_nil, hs, hx, hr]
  exact hK _ _ (h v' w' hf)
end Go.Proofs.YtkodepckfdpaiaaDoor
