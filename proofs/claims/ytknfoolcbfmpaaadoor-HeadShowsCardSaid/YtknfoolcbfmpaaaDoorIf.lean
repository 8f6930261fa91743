/- The document's Alike: whether two heads are the same; conditions: the fields can be read. -/
import Derived.Test.YtknfoolcbfmpaaaDoorHr
import Derived.Laws.StructEq
namespace Go.Proofs.YtknfoolcbfmpaaaDoor
set_option linter.unusedSimpArgs false
set_option linter.unusedVariables false
open Go.RowKit
theorem eqf_step {P : Program} {d : Nat} {xs ys : Array Value} {f : Field} {fs : List Field} {a b : Value} {r : Bool} {w : World} (hn : f.name ≠ "_") (ha : (part f.type xs f.offset).run P w = .ok a w) (hb : (part f.type ys f.offset).run P w = .ok b w)
    (he : (Op.equalIn d f.type a b).run P w = .ok r w) : (Op.eqFields d xs ys (f :: fs)).run P w = if r then (Op.eqFields d xs ys fs).run P w else .ok false w := by
  rw [Op.eqFields]
  simp only [if_pos hn, Sem.run_bind, ha, hb, he, Result.andThen_ok]
  cases r <;> simp
/-- Two fields are held against each other part by part. -/
theorem eqFd (d : Nat) (w : World) (x y : Fd) : (Op.equalIn (d + 2) 48 x.val y.val).run Tryd.prog w = .ok (decide (x = y)) w := by
  rw [run_equalIn_struct (P := Tryd.prog) w (d + 1) 48 _ _ (by simp only [Program.fieldsOf, Tryd.underlying48]) (by kernel_rfl)]
  simp only [Program.fieldsOf, Tryd.underlying48]
  rw [eqf_step (a := .string x.nm) (b := .string y.nm) (r := decide (x.nm = y.nm)) (by simp) (by go_simp) (by go_simp) (by rw [← str_beq]; go_simp),
    eqf_step (a := .string x.vl) (b := .string y.vl) (r := decide (x.vl = y.vl)) (by simp) (by go_simp) (by go_simp) (by rw [← str_beq]; go_simp)]
  obtain ⟨a, b⟩ := x
  obtain ⟨a', b'⟩ := y
  by_cases h1 : a = a' <;> by_cases h2 : b = b' <;> simp [h1, h2, Op.eqFields]
theorem eqFs (w : World) (x y : Fd) (q : Bool) (hq : decide (x = y) = q) : (Op.equalIn 10000 48 (.agg #[.string x.nm, .string x.vl]) (.agg #[.string y.nm, .string y.vl])).run Tryd.prog w = .ok q w := hq ▸ eqFd 9998 w x y
def first3B (a b c x y z : ByteArray) : Bool := decide (bs a = bs x) && decide (bs b = bs y) && decide (bs c = bs z)
theorem first3 (a b c x y z : ByteArray) (w : World) (q : Bool) (hq : first3B a b c x y z = q) : (Op.equalIn 10000 22 (.agg #[.string a, .string b, .string c]) (.agg #[.string x, .string y, .string z])).run Tryd.prog w = .ok q w := by
  subst hq
  have u3 := Tryd.underlying9
  have a3 := Tryd.isAgg9
  have z3 := Tryd.sizeOf9
  rw [show (10000 : Nat) = 9999 + 1 from rfl, Op.equalIn]
  simp only [Sem.run_bind, run_underlying Tryd.underlying22, Result.andThen_ok]
  simp only [Std.Legacy.Range.forIn_eq_forIn_range', Std.Legacy.Range.size, Nat.sub_zero, Nat.add_sub_cancel, Nat.div_one, List.range'_succ, List.range'_zero, List.forIn_cons, List.forIn_nil]
  go_simp
  unfold first3B
  by_cases h1 : bs a = bs x <;> by_cases h2 : bs b = bs y <;> by_cases h3 : bs c = bs z <;> simp [h1, h2, h3, toList_bs]
def alikeB (g h : Pd) : Bool := decide (g = h)
theorem pd_inj {f g : Fd} (h : f.pd = g.pd) : f = g := by
  obtain ⟨a, b⟩ := f
  obtain ⟨x, y⟩ := g
  obtain ⟨h1, h2⟩ := Prod.mk.inj h
  have e1 : a = x := bs_inj h1
  have e2 : b = y := bs_inj h2
  subst e1 e2; rfl
theorem alike_form (g h : Hd) : alikeB g.pd h.pd = (first3B g.a g.b g.c h.a h.b h.c && decide (g.fs = h.fs)) := by
  have hm : (g.fs.map Fd.pd = h.fs.map Fd.pd) ↔ g.fs = h.fs := by
    constructor
    · generalize g.fs = l
      generalize h.fs = k
      intro e
      induction l generalizing k with
      | nil => cases k with
        | nil => rfl
        | cons y k => cases e
      | cons x l ih => cases k with
        | nil => cases e
        | cons y k =>
          obtain ⟨e1, e2⟩ := List.cons.inj e
          rw [pd_inj e1, ih k e2]
    · intro e; rw [e]
  unfold alikeB first3B
  rw [Bool.eq_iff_iff]
  simp only [Hd.pd, decide_eq_true_eq, Bool.and_eq_true, Pd.mk.injEq, hm]
  constructor
  · rintro ⟨h1, h2, h3, h4⟩; exact ⟨⟨⟨h1, h2⟩, h3⟩, h4⟩
  · rintro ⟨⟨⟨h1, h2⟩, h3⟩, h4⟩; exact ⟨h1, h2, h3, h4⟩
theorem take_snoc_eqF {a b : List Fd} {k : Nat} (ha : k < a.length) (hb : k < b.length) (h : a.take k = b.take k) (he : a[k] = b[k]) : a.take (k + 1) = b.take (k + 1) := by
  rw [List.take_succ_eq_append_getElem ha, List.take_succ_eq_append_getElem hb, h, he]
set_option maxRecDepth 100000 in
set_option maxHeartbeats 4000000 in
theorem Alike_calls (g h : Hd) (w : World) (hg : g.Ok w) (hh : h.Ok w) :
    Calls Tryd.prog 18 #[g.val, h.val] w fun e w' => e = .returned (.bool (alikeB g.pd h.pd)) ∧ Below w.heap.size w w' := by
  obtain ⟨W1, hW1⟩ : ∃ W1, W1 = w.alloc (.cells g.cells 25 (0, 0)) := ⟨_, rfl⟩
  obtain ⟨W2, hW2⟩ : ∃ W2, W2 = W1.alloc (.cells h.cells 25 (0, 0)) := ⟨_, rfl⟩
  have hb1 : Below w.heap.size w W1 := hW1 ▸ below_alloc1 w _
  have hb2 : Below W1.heap.size W1 W2 := hW2 ▸ below_alloc1 W1 _
  have hs1 : W1.heap.size = w.heap.size + 1 := by rw [hW1]; simp
  have HS1 := Lib.hid hs1
  have HB2 : Hid (Below w.heap.size w W2) := Lib.hid (bt hb1 hb2)
  have HG : Hid (g.At W2 w.heap.size) := Lib.hid ((hW1 ▸ g.box w 25 : g.At W1 w.heap.size).below hb2)
  have HH : Hid (h.At W2 (w.heap.size + 1)) := Lib.hid (by rw [← hs1]; exact hW2 ▸ h.box W1 25)
  have HF1 : Hid (Fds W2 g.A g.fs) := Lib.hid (hg.fd.below HB2.out)
  have HF2 : Hid (Fds W2 h.A h.fs) := Lib.hid (hh.fd.below HB2.out)
  have hl1 := hg.fl
  have hl2 := hh.fl
  have HR : Hid (alikeB g.pd h.pd = (first3B g.a g.b g.c h.a h.b h.c && decide (g.fs = h.fs))) := Lib.hid (alike_form g h)
  generalize alikeB g.pd h.pd = R at HR ⊢
  have h3 := fun w => first3 g.a g.b g.c h.a h.b h.c w _ rfl
  generalize first3B g.a g.b g.c h.a h.b h.c = q3 at h3 HR
  obtain ⟨f0, f1, f2, f3⟩ := HG.out
  obtain ⟨k0, k1, k2, k3⟩ := HH.out
  clear hg hh hb1 hb2 hs1
  have HW : Hid (W2 = (w.alloc (.cells g.cells 25 (0, 0))).alloc (.cells h.cells 25 (0, 0))) := Lib.hid (by rw [hW2, hW1])
  clear hW1 hW2
  obtain ⟨ga, gb, gc, GA, gk, gs⟩ := g
  obtain ⟨sa, sb, sc, A, kc, fs⟩ := h
  simp only at *
  cases q3 with
  | false =>
    obtain rfl : R = false := by rw [HR.out]; rfl
    go_enter Tryd.func18, Tryd.ntmps18
    go_upto_region 1 with (fail)
    rw [← HW.out]
    go_wp2
    go_ret
    exact ⟨rfl, HB2.out⟩
  | true =>
    by_cases hl : gs.length = fs.length
    · have HL := Lib.hid hl
      clear hl
      have hne : ((gs.length : Int) != (fs.length : Int)) = false := by rw [HL.out]; simp
      go_enter Tryd.func18, Tryd.ntmps18
      go_upto_region 1 with (fail)
      rw [← HW.out]
      clear HW
      go_wp2
      go_loopg [5] gs.length (fun gh v5 wx => ∃ k : Nat, v5 = .int .i64 k ∧ k + gh = gs.length ∧ Hid (gs.take k = fs.take k) ∧ Hid (Drawn W2 wx))
      case atStart => exact ⟨0, rfl, by omega, Lib.hid rfl, Lib.hid (Drawn.refl _)⟩
      case round =>
        obtain ⟨k, rfl, hk, HQ, HD⟩ := hrel
        obtain ⟨m, rfl⟩ := HD.out.out
        by_cases hlt : k < gs.length
        · have hltb : k < fs.length := by rw [← HL.out]; exact hlt
          obtain ⟨b, off, rfl, g0, g1⟩ := HF1.out k hlt
          obtain ⟨b', off', rfl, g0', g1'⟩ := HF2.out k hltb
          by_cases he : gs[k] = fs[k]
          · have heq := fun w => eqFs w gs[k] fs[k] true (decide_eq_true he)
            have HE := Lib.hid (take_snoc_eqF hlt hltb HQ.out he)
            clear he
            generalize gs[k] = x at g0 g1 heq
            generalize fs[k] = y at g0' g1' heq
            obtain ⟨xn, xv⟩ := x
            obtain ⟨yn, yv⟩ := y
            simp only at g0 g1 g0' g1' heq
            go_upto_region 6 with (fail)
            go_quiet (fail)
            go_wp2
            go_roundg (gs.length - (k + 1))
            case measure => omega
            case rel => exact ⟨k + 1, by go_num, by omega, HE, Lib.hid (Drawn.mk ⟨_, rfl⟩)⟩
          · have heq := fun w => eqFs w gs[k] fs[k] false (decide_eq_false he)
            have HE : Hid (R = false) := Lib.hid (by
              rw [HR.out, Bool.true_and, decide_eq_false]
              intro e; subst e; exact he rfl)
            clear he
            generalize gs[k] = x at g0 g1 heq
            generalize fs[k] = y at g0' g1' heq
            obtain ⟨xn, xv⟩ := x
            obtain ⟨yn, yv⟩ := y
            simp only at g0 g1 g0' g1' heq
            go_upto_region 6 with (fail)
            go_quiet (fail)
            go_wp2
            go_ret
            exact ⟨ret_bool HE.out.symm, below_drewN (below_drewN HB2.out _) _⟩
        · have HE : Hid (R = true) := Lib.hid (by
            have := HQ.out
            rw [List.take_of_length_le (by omega), List.take_of_length_le (by have := HL.out; omega)] at this
            rw [HR.out, this]; simp)
          go_wp2
          go_ret
          exact ⟨ret_bool HE.out.symm, below_drewN HB2.out _⟩
    · have HE : Hid (R = false) := Lib.hid (by
        rw [HR.out, Bool.true_and, decide_eq_false]
        intro e; subst e; exact hl rfl)
      have hne : ((gs.length : Int) != (fs.length : Int)) = true := by rw [bne_iff_ne]; omega
      clear hl
      go_enter Tryd.func18, Tryd.ntmps18
      go_upto_region 1 with (fail)
      rw [← HW.out]
      go_wp2
      go_ret
      exact ⟨ret_bool HE.out.symm, HB2.out⟩
end Go.Proofs.YtknfoolcbfmpaaaDoor
