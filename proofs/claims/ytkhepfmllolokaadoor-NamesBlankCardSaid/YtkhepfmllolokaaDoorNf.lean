/- names.List: the tokens of lists, or none; conditions: the slice can be read, and at most some 900000 bytes. -/
import Derived.Test.YtkhepfmllolokaaDoorNe
import Derived.Shelf.Strings.SlTrimAscii
namespace Go.Proofs.YtkhepfmllolokaaDoor
set_option linter.unusedSimpArgs false
set_option linter.unusedVariables false
open Go.RowKit Go.Shelf
attribute [local go_sem] Oper.semAt_some
def cntB (l : List ByteArray) : Nat := (l.map fun s => s.size + 1).sum
theorem Trim_calls (s : ByteArray) (w : World) (hs : s.size ≤ maxLen) :
    Calls Tryd.prog 23 #[.string s, .string ⟨#[32, 9]⟩] w fun e w' => e = .returned (.string (mk (trimL (bs s)))) ∧ Below w.heap.size w w' :=
  Any.strings_Trim_laid Tryd.lays160 (by kernel_rfl) s ⟨#[32, 9]⟩ w hs (by decide) (ascii_of_all (by decide))
theorem wpListIn_app {F : Fence} {n : Nat} {P : Program} {w : World} {ops : Array Oper} {rest : List Oper} {o : Oper} {a : Act} {Q : Exit → Act → World → Prop} {G : Value → World → Prop} (hgd : o.guard = none) (s x : Operand) (t : TypeId)
    (ho : o.op = .call { callee := .builtin .append, args := #[s, x], argTypes := #[t, t] }) (v u : Value) (hs : a.eval s = v) (hx : a.eval x = u)
    (hr : ∃ v' w', (Builtin.append_ #[t, t] o.type #[v, u]).run P w = .ok v' w' ∧ G v' w') (h : ∀ v' w', G v' w' → wpListIn F n P ops Q rest (a.put o.dst v') w') : wpListIn F n P ops Q (o :: rest) a w := by
  refine wpListIn_plain hgd fun K hK => ?_
  obtain ⟨v', w', hr, hf⟩ := hr
  unfold Oper.wpIn
  refine ⟨by simp [Oper.about, ho, resolve, Target.leads, Sem.run_pure], ?_⟩
  rw [Oper.semAt_plain F _ _ (by rw [ho]; intro c hc'; cases hc')]
  simp [execOp, ho, resolve, invoke, builtin, hs, hx, hr, Result.andThen]
  exact hK _ _ (h v' w' hf)
/-- What an append of one string leaves. -/
structure App1 (base : Nat) (w : World) (v : Value) (ys : List ByteArray) (t : ByteArray) (v' : Value) (w' : World) : Prop where
  form : ∃ g cap, v' = .slice (some ⟨g, 0, none⟩) (ys.length + 1) cap ∧ (some g = v.ownBlock ∨ g = w.heap.size)
  own : OwnS w' base v' (ys ++ [t])
  grown : w.grownBy w' v.ownBlock
theorem OwnS.app1 {w : World} {base : Nat} {v : Value} {ys : List ByteArray} (h : OwnS w base v ys) (ty : TypeId) (g : Nat) (t : ByteArray) {tt : TypeId} (hg : Blk w g #[.string t] tt) (hn : ys.length + 1 ≤ 1000000) (hbase : base ≤ w.heap.size) :
    ∃ v' w', (Builtin.append_ #[22, 22] ty #[v, .slice (some ⟨g, 0, none⟩) 1 1]).run Tryd.prog w = .ok v' w' ∧ App1 base w v ys t v' w' := by
  obtain ⟨i0, hi0, hz0, hz1, hz2⟩ := info_parts info_str
  obtain ⟨v', w', hr, ho, hgr, _, hb⟩ := run_append_own_at (P := Tryd.prog) w base 22 ty 9 i0 _ 1 16 Tryd.underlying22 hi0 hz0 hz1 hz2 rfl (by omega) v ys.length _ h ⟨g, 0, none⟩ 1 1 [.string t] rfl
    (fun j u hj => by
      obtain rfl : j = 0 := by have := (List.getElem?_eq_some_iff.1 hj).1; simp at this; omega
      rw [Addr.add_lit, hg.cell]; exact hj)
    (fun u hu => by rw [List.mem_singleton] at hu; subst hu; rfl) (by unfold maxLen; omega) (by omega) hbase
  refine ⟨v', w', hr, ?_, ?_, hgr⟩
  · obtain ⟨g', cap, e⟩ := ownsRow_succ ho
    refine ⟨g', cap, e, ?_⟩
    subst e
    rcases hb with hb | hb
    · exact .inl hb
    · exact .inr (Option.some.inj hb)
  · unfold OwnS
    rw [List.length_append, List.map_append]
    exact ho
/-- The blocks of List's results, and of its loops' marks. -/
structure LB (w0 : World) (r : Int) (Ds : List Nat) (W : World) : Prop where
  r1 : Blk W w0.heap.size #[.slice none 0 0] 22
  r2 : Blk W (w0.heap.size + 1) #[.int .i64 r] 25
  be : Below w0.heap.size w0 W
  ds : ∀ D ∈ Ds, W.heap[D]? = some (.deferred (some [])) ∧ w0.heap.size ≤ D
  nd : Ds.Nodup
/-- The block of List's row. -/
def LO (w0 : World) (ps : List By) (Bs : List Nat) (W : World) : Prop := ∃ v ys, Blk W (w0.heap.size + 1 + 1) #[v] 22 ∧ OwnS W w0.heap.size v ys ∧ seqB ps = some (bss ys) ∧ ∀ b ∈ Bs, v.ownBlock ≠ some b
theorem LB.step {w0 W W' : World} {r : Int} {Ds : List Nat} (h : LB w0 r Ds W) (hk : ∀ (k : Nat) (o : Obj), W.heap[k]? = some o → (o.isCells = true ∧ k < w0.heap.size + 1 + 1) ∨ k ∈ Ds → W'.heap[k]? = some o) (hb : Below w0.heap.size w0 W') : LB w0 r Ds W' :=
  ⟨hk _ _ h.r1 (.inl ⟨rfl, by omega⟩), hk _ _ h.r2 (.inl ⟨rfl, by omega⟩), hb, fun D hD => ⟨hk _ _ (h.ds D hD).1 (.inr hD), (h.ds D hD).2⟩, h.nd⟩
theorem OwnS.blk {W : World} {base : Nat} {v : Value} {ys : List ByteArray} (h : OwnS W base v ys) : v.ownBlock = none ∨ ∃ g cur, v.ownBlock = some g ∧ Blk W g cur 9 ∧ base ≤ g := by
  rcases h.2 with ⟨rfl, _⟩ | ⟨g, cap, cur, rfl, hb, hg, _⟩
  · exact .inl rfl
  · exact .inr ⟨g, cur, rfl, hg, hb⟩
theorem OwnS.step {W W' : World} {base : Nat} {v : Value} {ys : List ByteArray} (h : OwnS W base v ys) (hk : ∀ g cur, v.ownBlock = some g → Blk W g cur 9 → Blk W' g cur 9) : OwnS W' base v ys := by
  refine ⟨h.1, ?_⟩
  rcases h.2 with h2 | ⟨g, cap, cur, rfl, hb, hg, hr⟩
  · exact .inl h2
  · exact .inr ⟨g, cap, cur, rfl, hb, hk g cur rfl hg, hr⟩
theorem OwnS.lt {W : World} {base : Nat} {v : Value} {ys : List ByteArray} (h : OwnS W base v ys) {g : Nat} (hg : v.ownBlock = some g) : g < W.heap.size := by
  rcases h.blk with e | ⟨g', cur, e, hb, _⟩
  · rw [e] at hg; cases hg
  · rw [e] at hg; cases hg; exact hb.lt
theorem LO.step {w0 W W' : World} {ps : List By} {Bs : List Nat} (h : LO w0 ps Bs W) (hk : ∀ k cs t, Blk W k cs t → k ∉ Bs → Blk W' k cs t) (hB : w0.heap.size + 1 + 1 ∉ Bs) : LO w0 ps Bs W' := by
  obtain ⟨v, ys, h1, h2, h3, h4⟩ := h
  exact ⟨v, ys, hk _ _ _ h1 hB, h2.step fun g cur e hb => hk _ _ _ hb (fun hm => h4 g hm e), h3, h4⟩
theorem below_same {W W' : World} (hb : Below W.heap.size W W') : ∀ (k : Nat) (o : Obj), W.heap[k]? = some o → W'.heap[k]? = some o := fun k o h => (hb.block k (Array.getElem?_eq_some_iff.1 h).1).trans h
theorem keeps_below {W W' : World} (hb : Below W.heap.size W W') : KeepsOthers W W' := ⟨hb.size, fun k o h _ => below_same hb k o h⟩
theorem LB.below {w0 W W' : World} {r : Int} {Ds : List Nat} (h : LB w0 r Ds W) (hb : Below W.heap.size W W') : LB w0 r Ds W' :=
  h.step (fun k o hk _ => below_same hb k o hk) (h.be.trans (hb.mono h.be.size))
theorem LO.below {w0 W W' : World} {ps : List By} {Bs : List Nat} (h : LO w0 ps Bs W) (hb : Below W.heap.size W W') (hB : w0.heap.size + 1 + 1 ∉ Bs) : LO w0 ps Bs W' :=
  h.step (fun k cs t hk _ => below_same hb k _ hk) hB
theorem cells_row {W W' : World} {row : Option Nat} {B : Nat} (hg : W.grownBy W' row) (hr : ∀ r, row = some r → B ≤ r ∧ ∃ o : Obj, W.heap[r]? = some o ∧ o.isCells = false) : ∀ (k : Nat) (o : Obj), W.heap[k]? = some o → (o.isCells = true ∨ k < B) → W'.heap[k]? = some o := fun k o hk hc => by
  refine (hg.block k (Array.getElem?_eq_some_iff.1 hk).1 fun e => ?_).trans hk
  obtain ⟨h1, o', h2, h3⟩ := hr k e.symm
  rw [hk] at h2; cases h2
  rcases hc with hc | hc
  · rw [hc] at h3; cases h3
  · omega
theorem LB.row {w0 W W' : World} {r : Int} {Ds : List Nat} {row : Option Nat} {B : Nat} (h : LB w0 r Ds W) (hD : ∀ D ∈ Ds, D < B) (hB : w0.heap.size ≤ B) (hg : W.grownBy W' row) (hr : ∀ r, row = some r → B ≤ r ∧ ∃ o : Obj, W.heap[r]? = some o ∧ o.isCells = false) : LB w0 r Ds W' :=
  h.step (fun k o hk hc => cells_row hg hr k o hk (hc.elim (fun h => .inl h.1) fun h => .inr (hD k h))) (h.be.grown hg h.be.size fun k e => Nat.le_trans hB (hr k e).1)
theorem LO.row {w0 W W' : World} {ps : List By} {Bs : List Nat} {row : Option Nat} {B : Nat} (h : LO w0 ps Bs W) (hB : w0.heap.size + 1 + 1 ∉ Bs) (hg : W.grownBy W' row) (hr : ∀ r, row = some r → B ≤ r ∧ ∃ o : Obj, W.heap[r]? = some o ∧ o.isCells = false) : LO w0 ps Bs W' :=
  h.step (fun k cs t hk _ => cells_row hg hr k _ hk (.inl rfl)) hB
theorem LB.setB {w0 W : World} {r : Int} {Ds : List Nat} (h : LB w0 r Ds W) {b : Nat} (hb : w0.heap.size + 1 < b) (hD : b ∉ Ds) (v : Value) : LB w0 r Ds (W.setCell ⟨b, 0, none⟩ v) :=
  h.step (fun k o hk hc => (set_other W b k v (by
    rcases hc with hc | hc
    · omega
    · intro e; subst e; exact hD hc)).trans hk) (h.be.setCell (p := ⟨b, 0, none⟩) (by show _ ≤ b; omega) v)
theorem LO.setB {w0 W : World} {ps : List By} {Bs : List Nat} (h : LO w0 ps Bs W) (hB : w0.heap.size + 1 + 1 ∉ Bs) {b : Nat} (hb : b ∈ Bs) (v : Value) : LO w0 ps Bs (W.setCell ⟨b, 0, none⟩ v) :=
  h.step (fun k cs t hk hn => (set_other W b k v (fun e => hn (e ▸ hb))).trans hk) hB
theorem LB.fail {w0 W : World} {Ds : List Nat} (h : LB w0 0 Ds W) : LB w0 60 Ds ((W.setCell ⟨w0.heap.size, 0, none⟩ (.slice none 0 0)).setCell ⟨w0.heap.size + 1, 0, none⟩ (.int .i64 60)) := by
  have hn : ∀ D ∈ Ds, D ≠ w0.heap.size ∧ D ≠ w0.heap.size + 1 := fun D hD => by
    have hd := (h.ds D hD).1
    refine ⟨fun e => ?_, fun e => ?_⟩
    · rw [e, h.r1] at hd; cases hd
    · rw [e, h.r2] at hd; cases hd
  exact ⟨(h.r1.set 0 _).far (by omega) 0 _, (h.r2.far (by omega) 0 _).set 0 _, (h.be.setCell (p := ⟨w0.heap.size, 0, none⟩) (Nat.le_refl _) _).setCell (p := ⟨w0.heap.size + 1, 0, none⟩) (by show _ ≤ w0.heap.size + 1; omega) _,
    fun D hD => ⟨(set_other _ _ _ _ (hn D hD).2).trans ((set_other _ _ _ _ (hn D hD).1).trans (h.ds D hD).1), (h.ds D hD).2⟩, h.nd⟩
theorem OwnS.ne {W : World} {base : Nat} {v : Value} {ys : List ByteArray} (h : OwnS W base v ys) {k : Nat} {o : Obj} (hk : W.heap[k]? = some o) (ho : ∀ cur, o ≠ .cells cur 9 (0, 0)) : v.ownBlock ≠ some k := fun e => by
  rcases h.blk with e' | ⟨g, cur, e', hb, _⟩
  · rw [e'] at e; cases e
  · rw [e'] at e; cases e
    have := hk.symm.trans hb
    exact ho cur (Option.some.inj this)
theorem LB.app {w0 W W' : World} {r : Int} {Ds : List Nat} {v : Value} {ys : List ByteArray} (h : LB w0 r Ds W) (ho : OwnS W w0.heap.size v ys) (h3 : Blk W (w0.heap.size + 1 + 1) #[v] 22)
    (same : ∀ k, k < W.heap.size → k ≠ w0.heap.size + 1 + 1 → v.ownBlock ≠ some k → W'.heap[k]? = W.heap[k]?) (hb : Below w0.heap.size W W') : LB w0 r Ds W' :=
  ⟨(same _ h.r1.lt (by omega) (ho.ne h.r1 (fun cur e => by simp at e))).trans h.r1, (same _ h.r2.lt (by omega) (ho.ne h.r2 (fun cur e => by simp at e))).trans h.r2, h.be.trans hb,
    fun D hD => ⟨(same D (Array.getElem?_eq_some_iff.1 (h.ds D hD).1).1 (fun e => by
      have := (h.ds D hD).1
      rw [e, h3] at this
      simp at this) (ho.ne (h.ds D hD).1 (fun cur e => by simp at e))).trans (h.ds D hD).1, (h.ds D hD).2⟩, h.nd⟩
theorem leaves_marks {F : Fence} {n : Nat} {P : Program} {fn : Func} {tmps : Array Value} {R : Ending → World → Prop} (N : Nat) : ∀ (Ds : List Nat) (W : World), (∀ D ∈ Ds, W.heap[D]? = some (.deferred (some [])) ∧ N ≤ D) → Ds.Nodup →
    (∀ W', Below N W W' → (∀ (k : Nat) (o : Obj), W.heap[k]? = some o → k ∉ Ds → W'.heap[k]? = some o) → LeavesIn F n P fn tmps R [] .returning W') → LeavesInM F n P fn tmps R (Ds.map mark) .returning W := by
  intro Ds
  induction Ds with
  | nil => exact fun W _ _ h => h W (Below.refl _ _) fun k o hk _ => hk
  | cons D Ds ih =>
    intro W hD hn h
    have hd := hD D List.mem_cons_self
    have hn' := List.nodup_cons.1 hn
    refine ⟨by simp, .inl ⟨D, _, rfl, run_takeDeferred hd.1, ih _ (fun E hE => ⟨(World.putObj_heap_other (fun e => hn'.1 (by rw [← e]; exact hE))).trans (hD E (List.mem_cons_of_mem _ hE)).1, (hD E (List.mem_cons_of_mem _ hE)).2⟩) hn'.2 fun W' hb hk => h W' ?_ fun k o hk0 hnm => hk k o ((World.putObj_heap_other (fun e => hnm (by rw [e]; exact List.mem_cons_self))).trans hk0) fun hm => hnm (List.mem_cons_of_mem _ hm)⟩⟩
    have hb1 : Below N W (W.putObj D (.deferred none)) := ⟨rfl, rfl, rfl, by simp, fun k hk => World.putObj_heap_other (by omega)⟩
    exact hb1.trans hb
theorem mem_ne {Ds : List Nat} {D b : Nat} (hD : D ∈ Ds) (hb : b ∉ Ds) : D ≠ b := fun e => hb (e ▸ hD)
theorem flat_at (l : List ByteArray) (k : Nat) (h : k < l.length) : (bss l).flatMap (splitC 44) = (bss (l.take k)).flatMap (splitC 44) ++ splitC 44 (bs l[k]) ++ (bss (l.drop (k + 1))).flatMap (splitC 44) := by
  have e : l = l.take k ++ (l[k] :: l.drop (k + 1)) := by rw [List.getElem_cons_drop, List.take_append_drop]
  conv => lhs; rw [e]
  simp only [bss, List.map_append, List.map_cons, List.flatMap_append, List.flatMap_cons, List.append_assoc]
theorem flat_take (l : List ByteArray) (k : Nat) (h : k < l.length) : (bss (l.take (k + 1))).flatMap (splitC 44) = (bss (l.take k)).flatMap (splitC 44) ++ splitC 44 (bs l[k]) := by
  rw [List.take_succ_eq_append_getElem h]
  simp only [bss, List.map_append, List.map_cons, List.map_nil, List.flatMap_append, List.flatMap_cons, List.flatMap_nil, List.append_nil]
theorem LB.push {w0 W : World} {r : Int} {Ds : List Nat} (h : LB w0 r Ds W) {D : Nat} (hD : W.heap[D]? = some (.deferred (some []))) (hN : w0.heap.size ≤ D) (hn : D ∉ Ds) : LB w0 r (D :: Ds) W :=
  ⟨h.r1, h.r2, h.be, fun E hE => by
    rcases List.mem_cons.1 hE with e | e
    · rw [e]; exact ⟨hD, hN⟩
    · exact h.ds E e, List.nodup_cons.2 ⟨hn, h.nd⟩⟩
theorem cell_blk {W W' : World} {k : Nat} {x : Value} {t : TypeId} (h : Blk W k #[x] t) {Ds : List Nat} (hk : ∀ (k : Nat) (o : Obj), W.heap[k]? = some o → k ∉ Ds → W'.heap[k]? = some o) (hn : k ∉ Ds) : W'.cell? ⟨k, 0, none⟩ = some x := by
  have : Blk W' k #[x] t := hk k _ h hn
  exact this.cell 0
theorem LB.nin {w0 W : World} {r : Int} {Ds : List Nat} (h : LB w0 r Ds W) {k : Nat} {cs : Array Value} {t : TypeId} (hk : Blk W k cs t) : k ∉ Ds := fun hm => by
  have := (h.ds k hm).1
  rw [hk] at this; cases this
def LP (w : World) (l : List ByteArray) (e : Ending) (w' : World) : Prop := Below w.heap.size w w' ∧
  ((∃ r A' c', listB (bss l) = some (bss r) ∧ e = .returned (.tuple #[.slice A' r.length c', .int .i64 0]) ∧ r.length ≤ c' ∧ c' ≤ maxLen ∧ Strs w' A' r) ∨ (listB (bss l) = none ∧ e = .returned (.tuple #[.slice none 0 0, .int .i64 60])))
theorem OwnS.strs {W : World} {base : Nat} {v : Value} {ys : List ByteArray} (h : OwnS W base v ys) : ∃ A c, v = .slice A ys.length c ∧ ys.length ≤ c ∧ c ≤ maxLen ∧ Strs W A ys := h.form
theorem piece_no {p : By} (h : trimL p = []) : piece p = some [] := by rw [piece, if_pos h]
theorem piece_yes {p : By} (h0 : trimL p ≠ []) (h : tokB (trimL p) = true) : piece p = some [trimL p] := by rw [piece, if_neg h0, if_pos h]
theorem piece_bad' {p : By} (h0 : trimL p ≠ []) (h : tokB (trimL p) = false) : piece p = none := by rw [piece, if_neg h0, if_neg (by rw [h]; simp)]
theorem seqB_snoc (a : List By) (pre : List ByteArray) (x : ByteArray) : seqB (a ++ bss (pre ++ [x])) = (seqB (a ++ bss pre)).bind fun y => (piece (bs x)).map (y ++ ·) := by
  rw [show bss (pre ++ [x]) = bss pre ++ [bs x] by simp [bss], ← List.append_assoc, seqB_app, seqB_one]
theorem split_len (c : UInt8) (s : ByteArray) : (splitC c (bs s)).length ≤ s.size + 1 := by
  rw [← bs_length]
  induction bs s with
  | nil => simp [splitC]
  | cons x l ih =>
    unfold splitC
    split
    · simp; omega
    · obtain ⟨h, t, e⟩ := splitC_form c l
      rw [e] at ih ⊢
      simpa using Nat.le_succ_of_le ih
theorem cnt_take (l : List ByteArray) (k : Nat) : ((bss (l.take k)).flatMap (splitC 44)).length ≤ cntB (l.take k) := by
  unfold cntB bss
  induction l.take k with
  | nil => simp
  | cons x t ih =>
    rw [List.map_cons, List.flatMap_cons, List.length_append, List.map_cons, List.sum_cons]
    have := split_len 44 x
    omega
theorem cnt_succ (l : List ByteArray) (k : Nat) (h : k < l.length) : cntB (l.take (k + 1)) = cntB (l.take k) + (l[k].size + 1) := by
  unfold cntB
  rw [List.take_succ_eq_append_getElem h, List.map_append, List.sum_append]; simp
theorem cnt_le (l : List ByteArray) (k : Nat) : cntB (l.take k) ≤ cntB l := by
  have e : cntB l = cntB (l.take k) + cntB (l.drop k) := by
    unfold cntB
    rw [← List.sum_append, ← List.map_append, List.take_append_drop]
  omega
theorem LO.app {w0 W : World} {ps' : List By} {Bs : List Nat} {v v' : Value} {ys : List ByteArray} {t : ByteArray} {w1 : World} {o : Obj} (h : Blk W (w0.heap.size + 1 + 1) #[v] 22) (h2 : OwnS W w0.heap.size v ys) (h4 : ∀ b ∈ Bs, v.ownBlock ≠ some b)
    (hF : App1 w0.heap.size (W.alloc o) v ys t v' w1) (hp : seqB ps' = some (bss (ys ++ [t]))) (hlt : ∀ b ∈ Bs, b < W.heap.size) : LO w0 ps' Bs (w1.setCell ⟨w0.heap.size + 1 + 1, 0, none⟩ v') ∧
    Blk w1 (w0.heap.size + 1 + 1) #[v] 22 ∧ KeepsOthers W (w1.setCell ⟨w0.heap.size + 1 + 1, 0, none⟩ v') ∧ (∀ k, k < W.heap.size → k ≠ w0.heap.size + 1 + 1 → v.ownBlock ≠ some k → (w1.setCell ⟨w0.heap.size + 1 + 1, 0, none⟩ v').heap[k]? = W.heap[k]?) ∧ Below w0.heap.size W (w1.setCell ⟨w0.heap.size + 1 + 1, 0, none⟩ v') := by
  have hne : v.ownBlock ≠ some (w0.heap.size + 1 + 1) := by
    rcases h2.blk with e | ⟨g, cur, e, hb, _⟩
    · rw [e]; simp
    · rw [e]
      intro e'
      cases e'
      have := h.symm.trans hb
      simp at this
  have hb1 : Blk w1 (w0.heap.size + 1 + 1) #[v] 22 := (h.alloc o).other hF.grown hne
  obtain ⟨g, cap, rfl, hg⟩ := hF.form
  have hgN : g ≠ w0.heap.size + 1 + 1 := by
    rcases hg with hg | hg
    · intro e; subst e; exact hne hg.symm
    · have := h.lt; simp at hg; omega
  have same : ∀ k, k < W.heap.size → k ≠ w0.heap.size + 1 + 1 → v.ownBlock ≠ some k → (w1.setCell ⟨w0.heap.size + 1 + 1, 0, none⟩ (.slice (some ⟨g, 0, none⟩) (ys.length + 1) cap)).heap[k]? = W.heap[k]? := fun k hk hn ho =>
    (set_other _ _ _ _ hn).trans ((hF.grown.block k (by simp; omega) (Ne.symm ho)).trans (Below.heap_alloc W o k hk))
  refine And.intro (Exists.intro (.slice (some ⟨g, 0, none⟩) (ys.length + 1) cap) (Exists.intro (ys ++ [t]) ⟨?_, ?_, hp, fun b hb e => ?_⟩)) ⟨hb1, ?_, same, ?_⟩
  · exact hb1.set 0 _
  · exact hF.own.step fun g' cur e hb => by
      cases e
      exact (set_other _ _ _ _ hgN).trans hb
  · cases e
    rcases hg with hg | hg
    · exact h4 g hb hg.symm
    · have := hlt g hb; simp at hg; omega
  · refine ((KeepsOthers.alloc W o).trans (KeepsOthers.of_grownBy hF.grown fun j o' ej hj => ?_)).trans (KeepsOthers.setCell _ _ _)
    rcases (h2.al o).blk with e | ⟨g', cur, e, hb, _⟩
    · rw [e] at ej; cases ej
    · rw [e] at ej; cases ej
      rw [hb] at hj; cases hj; rfl
  · have hbW : w0.heap.size ≤ W.heap.size := by have := h.lt; omega
    refine (((Below.refl w0.heap.size W).alloc hbW o).grown hF.grown (by simp; omega) fun j ej => ?_).setCell (p := ⟨w0.heap.size + 1 + 1, 0, none⟩) (by show _ ≤ w0.heap.size + 1 + 1; omega) _
    rcases h2.blk with e | ⟨g', cur, e, hb, hbase⟩
    · rw [e] at ej; cases ej
    · rw [e] at ej; cases ej; exact hbase
set_option maxRecDepth 100000 in
set_option maxHeartbeats 4000000 in
theorem List_calls (A : Option Addr) (l : List ByteArray) (c : Nat) (w : World) (hl : cntB l ≤ 900000) (hm : l.length ≤ maxLen) (hs : ∀ s ∈ l, s.size ≤ 900000) (hA : Strs w A l) :
    Calls Tryd.prog 11 #[.slice A l.length c] w (LP w l) := by
  unfold maxLen at hm
  refine (callsIn_wide (n := 5)).1 ?_
  refine callsIn_of_wp_marks Tryd.func11 rfl trivial ?_
  simp only [Tryd.ntmps11, List.size_toArray, List.length_cons, List.length_nil, Nat.reduceAdd, Nat.reduceSub, Array.replicate_succ, Array.replicate_zero, List.push_toArray, List.append_toArray, List.nil_append, List.cons_append]
  gi_wp2
  obtain ⟨I, hI⟩ : ∃ I : Act → World → Prop, I = fun a W => ∃ (k : Nat) (Ds : List Nat) (u6 u11 u12 u13 u14 u15 u28 : Value), k ≤ l.length ∧
    a = { tmps := #[.slice A l.length c, undef, .pointer (some ⟨w.heap.size, 0, none⟩), .pointer (some ⟨w.heap.size + 1, 0, none⟩), .pointer (some ⟨w.heap.size + 1 + 1, 0, none⟩), undef, u6, undef, .slice A l.length c, .int .i64 l.length, .int .i64 k, u11, u12, u13, u14, u15, undef, undef, undef, undef, undef, undef, undef, undef, undef, undef, undef, undef, u28, undef], defers := Ds.map mark } ∧
    Hid (LB w 0 Ds W ∧ LO w ((bss (l.take k)).flatMap (splitC 44)) [] W) := ⟨_, rfl⟩
  refine wpIn_loop I (fun a _ => l.length - (intOf (a.tmps.getD 10 undef)).toNat) ?_ ?_
  · rw [hI]
    refine ⟨0, [], undef, undef, undef, undef, undef, undef, undef, Nat.zero_le _, rfl, Lib.hid ⟨⟨((Blk.new' w _ _ rfl).alloc _).alloc _, (Blk.new' _ _ _ (by simp)).alloc _, below_al (below_al (below_alloc1 w _) _) _, (fun D hD => by cases hD), List.nodup_nil⟩, .slice none 0 0, [], Blk.new' _ _ _ (by simp), OwnS.nil _ _, rfl, (fun b hb => by cases hb)⟩⟩
  · intro a W hi
    rw [hI] at hi
    obtain ⟨k, Ds, u6, u11, u12, u13, u14, u15, u28, hk, rfl, H⟩ := hi
    by_cases hlt : k < l.length
    · obtain ⟨b, off, rfl, hc0⟩ := hA k hlt
      have hc : W.cell? ⟨b, off + k, none⟩ = some (.string l[k]) := ((bcell H.out.1.be).1 b _ (cell_lt hc0)).trans hc0
      gi_wp2_with (refine ⟨trivial, ?_⟩; gi_at_call 22; refine (callsIn_wide.2 (SplitSeq_calls l[k] 44 _)).mono ?_; rintro e W1 ⟨rfl, hw⟩; have HW := Lib.hid hw; clear hw)
      have hB3 : Hid (Below W.heap.size W W1) := Lib.hid (by rw [HW.out]; exact below_al (below_al (below_alloc1 W _) _) _)
      have hsz : W1.heap.size = W.heap.size + 1 + 1 + 1 := by rw [HW.out]; simp
      have hN : w.heap.size + 1 + 1 < W.heap.size := by
        obtain ⟨v, ys, h1, _⟩ := H.out.2
        exact h1.lt
      have X1 : Hid (Blk W1 W.heap.size #[.string l[k]] 9 ∧ Blk W1 (W.heap.size + 1) #[.string ⟨#[44]⟩] 9 ∧ Blk W1 (W.heap.size + 1 + 1) #[.int .i64 0] 3) := Lib.hid (by
        rw [HW.out]
        exact ⟨((Blk.new' W _ _ rfl).alloc _).alloc _, (Blk.new' _ _ _ (by simp)).alloc _, Blk.new' _ _ _ (by simp)⟩)
      have hDs : Hid (∀ D ∈ Ds, D < W.heap.size) := Lib.hid fun D hD => (Array.getElem?_eq_some_iff.1 (H.out.1.ds D hD).1).1
      have H1 : Hid (LB w 0 Ds W1 ∧ LO w ((bss (l.take k)).flatMap (splitC 44)) [W.heap.size, W.heap.size + 1, W.heap.size + 1 + 1] W1) := Lib.hid ⟨H.out.1.below hB3.out, by
        obtain ⟨v, ys, h1, h2, h3, _⟩ := H.out.2.below hB3.out (by simp)
        obtain ⟨v', ys', g1, g2, g3, _⟩ := H.out.2
        have hv : v = v' := by
          have := h1.symm.trans (below_same hB3.out _ _ g1)
          simpa using this
        subst hv
        refine ⟨v, ys, h1, h2, h3, fun b hb e => ?_⟩
        have := g2.lt e
        simp only [List.mem_cons, List.not_mem_nil, or_false] at hb
        omega⟩
      have hsk : l[k].size ≤ 900000 := hs _ (List.getElem_mem _)
      clear hc hc0
      refine rangeSplit W.heap.size (W.heap.size + 1) (W.heap.size + 1 + 1) (by omega) (by omega) l[k] 44 (by omega) (by omega) (by omega) (by omega) rfl X1.out.1 X1.out.2.1 X1.out.2.2
        (fun pre V => (LB w 0 Ds V ∧ LO w ((bss (l.take k)).flatMap (splitC 44) ++ bss pre) [W.heap.size, W.heap.size + 1, W.heap.size + 1 + 1] V) ∧ W1.heap.size ≤ V.heap.size)
        (fun c' pre V => c' = .ret ∧ LB w 60 Ds V ∧ seqB ((bss (l.take k)).flatMap (splitC 44) ++ bss pre) = none)
        (fun pre V V' row h hg hr => ⟨⟨h.1.1.row (fun D hD => Nat.lt_of_lt_of_le (hDs.out D hD) (by omega)) (by omega) hg hr, h.1.2.row (by simp; omega) hg hr⟩, Nat.le_trans h.2 hg.size⟩)
        (fun c' pre V V' row h hg hr => ⟨h.1, h.2.1.row (fun D hD => Nat.lt_of_lt_of_le (hDs.out D hD) (by omega)) (by omega) hg hr, h.2.2⟩)
        (fun pre V v h => ⟨⟨h.1.1.setB (by omega) (fun hm => by have := hDs.out _ hm; omega) v, h.1.2.setB (by simp; omega) (by simp) v⟩, by rw [World.size_setCell]; exact h.2⟩)
        ⟨⟨H1.out.1, by rw [show bss [] = [] from rfl, List.append_nil]; exact H1.out.2⟩, Nat.le_refl _⟩
        (fun x => { tmps := #[.slice (some ⟨b, off, none⟩) l.length c, undef, .pointer (some ⟨w.heap.size, 0, none⟩), .pointer (some ⟨w.heap.size + 1, 0, none⟩), .pointer (some ⟨w.heap.size + 1 + 1, 0, none⟩), undef, .string l[k], .string x, .slice (some ⟨b, off, none⟩) l.length c, .int .i64 l.length, .int .i64 k, .bool true, .pointer (some ⟨b, off + k, none⟩), .string l[k], .string l[k],
          .func (.func 46) #[] #[.pointer (some ⟨W.heap.size + 1, 0, none⟩), .pointer (some ⟨W.heap.size, 0, none⟩), .pointer (some ⟨W.heap.size + 1 + 1, 0, none⟩)], .string x, undef, undef, undef, undef, undef, undef, undef, undef, undef, undef, undef, u28, undef], defers := [] })
        ?assign ?body ?done ?stop
      case assign =>
        intro l' x V K hK
        gi_wp2
        exact hK
      case body =>
        rintro l' pre x V ⟨⟨hLB, hLO⟩, hsV⟩ hx hpre
        have HV := Lib.hid (And.intro hLB hLO)
        have HP := Lib.hid hpre
        clear hLB hLO hpre
        have hN2 : w.heap.size + 1 + 1 < V.heap.size := by
          obtain ⟨v, ys, h1, _⟩ := HV.out.2
          exact h1.lt
        have ht := fun W => Trim_calls x W (by unfold maxLen; omega)
        obtain ⟨t, hT⟩ : ∃ t, t = mk (trimL (bs x)) := ⟨_, rfl⟩
        rw [← hT] at ht
        have hbt : bs t = trimL (bs x) := by rw [hT, bs_mk]
        have hts : t.size ≤ 1000000 := by
          rw [← bs_length, hbt]
          exact Nat.le_trans (trim_len _) (by rw [bs_length]; exact hx)
        have htok := fun W => Token_calls t W (by unfold maxLen; omega)
        have HT := Lib.hid hbt
        clear hT hbt
        by_cases h0 : bs t = []
        · have he : t.toList.isEmpty = true := by rw [ByteArray.toList_eq]; exact List.isEmpty_iff.2 h0
          have HP0 := Lib.hid (piece_no (p := bs x) (by rw [← HT.out]; exact h0))
          clear h0 htok
          gi_wp2_with (refine ⟨trivial, ?_⟩; gi_at_call 23; refine (CallsIn.inRound l' (callsIn_wide.2 (ht _))).mono ?_; rintro e V1 ⟨rfl, hb⟩; have HB := Lib.hid hb; clear hb)
          exact ⟨keeps_below HB.out, ⟨HB.out.block _ (by omega), HB.out.block _ (by omega), HB.out.block _ (by omega)⟩, ⟨HV.out.1.below HB.out, by
            rw [show LO w _ _ V1 = LO w ((bss (l.take k)).flatMap (splitC 44) ++ bss (pre ++ [x])) _ V1 from rfl]
            obtain ⟨v, ys, g1, g2, g3, g4⟩ := HV.out.2.below HB.out (by simp; omega)
            exact ⟨v, ys, g1, g2, by rw [seqB_snoc, g3, HP0.out]; simp, g4⟩⟩, Nat.le_trans hsV HB.out.size⟩
        · have he : t.toList.isEmpty = false := by rw [ByteArray.toList_eq]; exact (List.isEmpty_eq_false_iff).2 h0
          cases hk : tokB (bs t) with
          | false =>
            have HP0 := Lib.hid (piece_bad' (p := bs x) (by rw [← HT.out]; exact h0) (by rw [← HT.out]; exact hk))
            rw [hk] at htok
            clear h0 hk
            gi_wp2_with (first
              | (refine ⟨trivial, ?_⟩; gi_at_call 23; refine (CallsIn.inRound l' (callsIn_wide.2 (ht _))).mono ?_; rintro e V1 ⟨rfl, hb⟩
                 have HB := Lib.hid hb
                 have r1 : V1.cell? ⟨w.heap.size, 0, none⟩ = some (.slice none 0 0) := (HV.out.1.below hb).r1.cell 0
                 have r2 : V1.cell? ⟨w.heap.size + 1, 0, none⟩ = some (.int .i64 0) := (HV.out.1.below hb).r2.cell 0
                 have r3 : V1.frozen? ⟨w.heap.size, 0, none⟩ = false := (HV.out.1.below hb).r1.frozen 0
                 have r4 : V1.frozen? ⟨w.heap.size + 1, 0, none⟩ = false := (HV.out.1.below hb).r2.frozen 0
                 clear hb)
              | (refine ⟨trivial, ?_⟩; gi_at_call 24; refine (CallsIn.inRound l' (callsIn_wide.2 (htok _))).mono ?_; rintro e V2 ⟨rfl, rfl⟩))
            exact ⟨((keeps_below HB.out).trans (KeepsOthers.setCell _ _ _)).trans (KeepsOthers.setCell _ _ _), rfl, (HV.out.1.below HB.out).fail, by
              obtain ⟨v, ys, g1, g2, g3, g4⟩ := HV.out.2
              rw [seqB_snoc, g3, HP0.out]; rfl⟩
          | true =>
            have HP0 := Lib.hid (piece_yes (p := bs x) (by rw [← HT.out]; exact h0) (by rw [← HT.out]; exact hk))
            rw [hk] at htok
            clear h0 hk
            obtain ⟨v, ys, g1, g2, g3, g4⟩ := HV.out.2
            have hyl : ys.length + 1 ≤ 1000000 := by
              have e1 := seqB_len _ _ g3
              obtain ⟨rest, e2⟩ := HP.out
              have e3 := split_len 44 l[k]
              rw [e2] at e3
              have e4 := cnt_take l k
              have e5 := cnt_succ l k hlt
              have e6 := cnt_le l (k + 1)
              simp only [bss, List.length_append, List.length_map, List.length_cons, List.length_nil] at e1 e3 e4
              omega
            have G := Lib.hid (And.intro g1 (And.intro g2 (And.intro g3 g4)))
            clear g1 g2 g3 g4
            gi_wp2_with (first
              | (refine ⟨trivial, ?_⟩; gi_at_call 23; refine (CallsIn.inRound l' (callsIn_wide.2 (ht _))).mono ?_; rintro e V1 ⟨rfl, hb⟩
                 have HB := Lib.hid hb
                 have r1 : V1.cell? ⟨w.heap.size + 1 + 1, 0, none⟩ = some v := Blk.cell (Blk.below G.out.1 hb) 0
                 clear hb)
              | (refine ⟨trivial, ?_⟩; gi_at_call 24; refine (CallsIn.inRound l' (callsIn_wide.2 (htok _))).mono ?_; rintro e V2 ⟨rfl, rfl⟩)
              | (gi_at_builtin
                 refine wpListIn_app rfl _ _ _ rfl v (.slice (some ⟨V2.heap.size, 0, none⟩) 1 1) (by rfl) (by rfl) (OwnS.app1 ((G.out.2.1.below HB.out).al _) _ V2.heap.size t (Blk.new' _ _ _ rfl) ?h2 ?h3) ?_
                 case h2 => exact hyl
                 case h3 => have := HB.out.size; simp; omega
                 intro v2 w2 hF
                 obtain ⟨q1, q2, q3, q4, q5⟩ := LO.app (w0 := w) (ps' := (bss (l.take k)).flatMap (splitC 44) ++ bss (pre ++ [x])) (Blk.below G.out.1 HB.out) (G.out.2.1.below HB.out) G.out.2.2.2 hF (by rw [seqB_snoc, G.out.2.2.1, HP0.out, ← HT.out]; simp [bss]) (by have := HB.out.size; simp; omega)
                 have Q := Lib.hid (And.intro q1 (And.intro q3 (And.intro q4 q5)))
                 obtain ⟨g, cap, rfl, -⟩ := hF.form
                 have r2 : w2.cell? ⟨w.heap.size + 1 + 1, 0, none⟩ = some v := Blk.cell q2 0
                 have r3 : w2.frozen? ⟨w.heap.size + 1 + 1, 0, none⟩ = false := Blk.frozen q2 0
                 clear hF q1 q2 q3 q4 q5))
            have hb := HB.out.size
            have n1 : v.ownBlock ≠ some W.heap.size := G.out.2.2.2 _ (by simp)
            have n2 : v.ownBlock ≠ some (W.heap.size + 1) := G.out.2.2.2 _ (by simp)
            have n3 : v.ownBlock ≠ some (W.heap.size + 1 + 1) := G.out.2.2.2 _ (by simp)
            exact ⟨(keeps_below HB.out).trans Q.out.2.1, ⟨(Q.out.2.2.1 _ (by omega) (by omega) n1).trans (HB.out.block _ (by omega)), (Q.out.2.2.1 _ (by omega) (by omega) n2).trans (HB.out.block _ (by omega)), (Q.out.2.2.1 _ (by omega) (by omega) n3).trans (HB.out.block _ (by omega))⟩,
              ⟨(HV.out.1.below HB.out).app (G.out.2.1.below HB.out) (Blk.below G.out.1 HB.out) Q.out.2.2.1 Q.out.2.2.2, Q.out.1⟩, Nat.le_trans hsV (Nat.le_trans hb Q.out.2.2.2.size)⟩
      case done =>
        rintro xs V hxs ⟨⟨hLB, hLO⟩, hsV⟩ hD
        have HV := Lib.hid (And.intro hLB (And.intro hLO (And.intro hD hxs)))
        clear hLB hLO hD hxs
        gi_wp2
        rw [hI]
        refine ⟨⟨k + 1, W1.heap.size :: Ds, .string l[k], _, _, _, _, _, _, hlt, rfl, Lib.hid ⟨HV.out.1.push HV.out.2.2.1 (by omega) (fun hm => by have := hDs.out _ hm; omega), ?_⟩⟩, ?_⟩
        · rw [flat_take l k hlt, ← HV.out.2.2.2]
          obtain ⟨v, ys, h1, h2, h3, _⟩ := HV.out.2.1
          exact ⟨v, ys, h1, h2, h3, fun b hb => by cases hb⟩
        · simp [intOf]; omega
      case stop =>
        rintro c' pre V ⟨rest, hpre⟩ ⟨rfl, hLB, hnone⟩ hD
        have HV := Lib.hid (And.intro hLB (And.intro hnone (And.intro hD hpre)))
        clear hLB hnone hD hpre
        gi_wp2
        have hLB := HV.out.1.push HV.out.2.2.1 (by omega) (fun hm => by have := hDs.out _ hm; omega)
        show LeavesInM Fence.wide 5 Tryd.prog Tryd.f11 _ (LP w l) (List.map mark (W1.heap.size :: Ds)) .returning V
        refine leaves_marks w.heap.size _ V hLB.ds hLB.nd fun W' hb hk => ?_
        have c1 := cell_blk hLB.r1 hk (hLB.nin hLB.r1)
        have c2 := cell_blk hLB.r2 hk (hLB.nin hLB.r2)
        refine ⟨.tuple #[.slice none 0 0, .int .i64 60], by simp [results, Tryd.results11, go_sem, c1, c2], hLB.be.trans hb, .inr ⟨?_, rfl⟩⟩
        have hn := HV.out.2.1
        rw [listB, flat_at l k hlt, HV.out.2.2.2, ← List.append_assoc, List.append_assoc _ rest, seqB_app, hn]; rfl
    · have hk' : k = l.length := by omega
      subst hk'
      obtain ⟨v, ys, g1, g2, g3, g4⟩ := H.out.2
      have r1 : W.cell? ⟨w.heap.size + 1 + 1, 0, none⟩ = some v := g1.cell 0
      have r3 : W.cell? ⟨w.heap.size, 0, none⟩ = some (.slice none 0 0) := H.out.1.r1.cell 0
      have r4 : W.cell? ⟨w.heap.size + 1, 0, none⟩ = some (.int .i64 0) := H.out.1.r2.cell 0
      have r5 : W.frozen? ⟨w.heap.size, 0, none⟩ = false := H.out.1.r1.frozen 0
      have r6 : W.frozen? ⟨w.heap.size + 1, 0, none⟩ = false := H.out.1.r2.frozen 0
      obtain ⟨A', c', rfl, hc1, hc2, hst⟩ := g2.strs
      have G := Lib.hid (And.intro g1 (And.intro g2 (And.intro g3 (And.intro hc1 hc2))))
      clear g1 g2 g3 g4 hc1 hc2 hst
      gi_wp2
      have hLB := H.out.1
      have hL2 : LB w 0 Ds (W.setCell ⟨w.heap.size + 1, 0, none⟩ (.int .i64 0)) := by
        refine ⟨hLB.r1.far (by omega) 0 _, hLB.r2.set 0 _, hLB.be.setCell (p := ⟨w.heap.size + 1, 0, none⟩) (by show _ ≤ w.heap.size + 1; omega) _, fun D hD => ⟨(set_other _ _ _ _ (mem_ne hD (hLB.nin hLB.r2))).trans (hLB.ds D hD).1, (hLB.ds D hD).2⟩, hLB.nd⟩
      have hN0 : w.heap.size ∉ Ds := hLB.nin hLB.r1
      have hN1 : w.heap.size + 1 ∉ Ds := hLB.nin hLB.r2
      show LeavesInM Fence.wide 5 Tryd.prog Tryd.f11 _ (LP w l) (List.map mark Ds) .returning _
      refine leaves_marks w.heap.size _ _ (fun D hD => ⟨(set_other _ _ _ _ (mem_ne hD hN1)).trans ((set_other _ _ _ _ (mem_ne hD hN0)).trans (hLB.ds D hD).1), (hLB.ds D hD).2⟩) hLB.nd fun W' hb hk => ?_
      have b1 : Blk ((W.setCell ⟨w.heap.size, 0, none⟩ (.slice A' ys.length c')).setCell ⟨w.heap.size + 1, 0, none⟩ (.int .i64 0)) w.heap.size #[.slice A' ys.length c'] 22 := (hLB.r1.set 0 _).far (by omega) 0 _
      have b2 : Blk ((W.setCell ⟨w.heap.size, 0, none⟩ (.slice A' ys.length c')).setCell ⟨w.heap.size + 1, 0, none⟩ (.int .i64 0)) (w.heap.size + 1) #[.int .i64 0] 25 := (hLB.r2.far (by omega) 0 _).set 0 _
      have c1 := cell_blk b1 hk hN0
      have c2 := cell_blk b2 hk hN1
      have ho : OwnS W' w.heap.size (.slice A' ys.length c') ys := G.out.2.1.step fun g cur e hg => by
        refine hk g _ ?_ ?_
        · have e0 : g ≠ w.heap.size := fun e' => by subst e'; have := hLB.r1.symm.trans hg; simp at this
          have e1 : g ≠ w.heap.size + 1 := fun e' => by subst e'; have := hLB.r2.symm.trans hg; simp at this
          exact (set_other _ _ _ _ e1).trans ((set_other _ _ _ _ e0).trans hg)
        · exact fun hm => by
            have := (hLB.ds g hm).1
            rw [hg] at this; cases this
      obtain ⟨A2, c2', e2, _, _, hst⟩ := ho.strs
      cases e2
      refine ⟨.tuple #[.slice A' ys.length c', .int .i64 0], by simp [results, Tryd.results11, go_sem, c1, c2], ?_, .inl ⟨ys, A', c', ?_, rfl, G.out.2.2.2.1, G.out.2.2.2.2, hst⟩⟩
      · exact ((hLB.be.setCell (p := ⟨w.heap.size, 0, none⟩) (Nat.le_refl _) _).setCell (p := ⟨w.heap.size + 1, 0, none⟩) (by show _ ≤ w.heap.size + 1; omega) _).trans hb
      · have := G.out.2.2.1
        rw [List.take_length] at this
        exact this
end Go.Proofs.YtkhepfmllolokaaDoor
