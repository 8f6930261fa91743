/- Which route is picked, in plain words: one that fits, of the greatest key; no program here; no condition. -/
import Derived.Test.YthdmibjeomhibaaRn
namespace Go.Proofs.Ythdmibjeomhibaa
set_option linter.unusedSimpArgs false
set_option linter.unusedVariables false
open Go.RowKit
def keyR (r : Rt) : Nat := 2 * r.pre.size + if r.pro.toList.isEmpty then 0 else 1
theorem better_key (r b : Rt) : betterB r b = decide (keyR b < keyR r) := by
  unfold betterB keyR
  by_cases h : r.pre.size = b.pre.size
  · rw [if_pos h, h]
    cases r.pro.toList.isEmpty <;> cases b.pro.toList.isEmpty <;> simp
  · rw [if_neg h]
    cases r.pro.toList.isEmpty <;> cases b.pro.toList.isEmpty <;> simp only [if_true, if_false, Bool.false_eq_true, ite_false, ite_true] <;> exact decide_eq_decide.2 (by omega)
/-- What a pick out of some, behind a first choice, is. -/
theorem fold_spec (path : ByteArray) (ps : List ByteArray) (rs : List Rt) : ∀ st : Option Rt,
    (rs.foldl (pickStep path ps) st = none → st = none ∧ ∀ r ∈ rs, fitsB path ps r = false) ∧
    (∀ b, rs.foldl (pickStep path ps) st = some b → ((b ∈ rs ∧ fitsB path ps b = true) ∨ st = some b) ∧ (∀ r ∈ rs, fitsB path ps r = true → keyR r ≤ keyR b) ∧ (∀ s, st = some s → keyR s ≤ keyR b)) := by
  induction rs with
  | nil =>
    intro st
    refine ⟨fun h => ⟨h, fun r hr => absurd hr (List.not_mem_nil)⟩, fun b h => ⟨.inr h, fun r hr => absurd hr (List.not_mem_nil), fun s hs => ?_⟩⟩
    have : st = some b := h
    rw [hs] at this
    cases this; exact Nat.le_refl _
  | cons x rs ih =>
    intro st
    rw [List.foldl_cons]
    obtain ⟨h1, h2⟩ := ih (pickStep path ps st x)
    cases hf : fitsB path ps x with
    | false =>
      rw [step_no hf] at h1 h2 ⊢
      refine ⟨fun h => ⟨(h1 h).1, fun r hr => ?_⟩, fun b h => ?_⟩
      · rcases List.mem_cons.1 hr with rfl | hr
        · exact hf
        · exact (h1 h).2 r hr
      · obtain ⟨a1, a2, a3⟩ := h2 b h
        refine ⟨a1.imp (fun h => ⟨List.mem_cons_of_mem _ h.1, h.2⟩) id, fun r hr hfr => ?_, a3⟩
        rcases List.mem_cons.1 hr with rfl | hr
        · rw [hf] at hfr; cases hfr
        · exact a2 r hr hfr
    | true =>
      cases st with
      | none =>
        rw [step_first hf] at h1 h2 ⊢
        refine ⟨fun h => (Option.some_ne_none _ (h1 h).1).elim, fun b h => ?_⟩
        obtain ⟨a1, a2, a3⟩ := h2 b h
        refine ⟨.inl ?_, fun r hr hfr => ?_, fun s hs => by cases hs⟩
        · rcases a1 with a1 | a1
          · exact ⟨List.mem_cons_of_mem _ a1.1, a1.2⟩
          · cases a1; exact ⟨List.mem_cons_self, hf⟩
        · rcases List.mem_cons.1 hr with rfl | hr
          · exact a3 _ rfl
          · exact a2 r hr hfr
      | some s =>
        rw [step_more hf, better_key] at h1 h2 ⊢
        by_cases hk : keyR s < keyR x
        · rw [decide_eq_true hk, if_pos rfl] at h1 h2 ⊢
          refine ⟨fun h => (Option.some_ne_none _ (h1 h).1).elim, fun b h => ?_⟩
          obtain ⟨a1, a2, a3⟩ := h2 b h
          refine ⟨.inl ?_, fun r hr hfr => ?_, fun s' hs => by cases hs; exact Nat.le_trans (Nat.le_of_lt hk) (a3 _ rfl)⟩
          · rcases a1 with a1 | a1
            · exact ⟨List.mem_cons_of_mem _ a1.1, a1.2⟩
            · cases a1; exact ⟨List.mem_cons_self, hf⟩
          · rcases List.mem_cons.1 hr with rfl | hr
            · exact a3 _ rfl
            · exact a2 r hr hfr
        · rw [decide_eq_false hk, if_neg (by simp)] at h1 h2 ⊢
          refine ⟨fun h => (Option.some_ne_none _ (h1 h).1).elim, fun b h => ?_⟩
          obtain ⟨a1, a2, a3⟩ := h2 b h
          refine ⟨a1.imp (fun h => ⟨List.mem_cons_of_mem _ h.1, h.2⟩) id, fun r hr hfr => ?_, a3⟩
          rcases List.mem_cons.1 hr with rfl | hr
          · exact Nat.le_trans (by omega) (a3 _ rfl)
          · exact a2 r hr hfr
theorem pick_none {path : ByteArray} {ps : List ByteArray} {rs : List Rt} (h : pickB path ps rs = none) : ∀ r ∈ rs, fitsB path ps r = false := ((fold_spec path ps rs none).1 h).2
theorem pick_some {path : ByteArray} {ps : List ByteArray} {rs : List Rt} {b : Rt} (h : pickB path ps rs = some b) : b ∈ rs ∧ fitsB path ps b = true ∧ ∀ r ∈ rs, fitsB path ps r = true → keyR r ≤ keyR b := by
  obtain ⟨a1, a2, _⟩ := (fold_spec path ps rs none).2 b h
  rcases a1 with a1 | a1
  · exact ⟨a1.1, a1.2, a2⟩
  · cases a1
theorem key_size {r b : Rt} (h : keyR r ≤ keyR b) : r.pre.size ≤ b.pre.size := by
  unfold keyR at h
  split at h <;> split at h <;> omega
theorem key_same {r b : Rt} (h : keyR r = keyR b) : r.pre.size = b.pre.size ∧ r.pro.toList.isEmpty = b.pro.toList.isEmpty := by
  unfold keyR at h
  cases h1 : r.pro.toList.isEmpty <;> cases h2 : b.pro.toList.isEmpty <;> simp only [h1, h2, if_true, if_false, Bool.false_eq_true, ite_false, ite_true] at h <;> simp <;> omega
/-- What the law RouteBest asks of the route and of the answer. -/
theorem best_found (path : ByteArray) (ps : List ByteArray) (rs : List Rt) :
    ((pickB path ps rs).isSome && rs.any fun x => fitsB path ps x && decide (x = (pickB path ps rs).getD Rt.zero)) = (pickB path ps rs).isSome := by
  cases h : pickB path ps rs with
  | none => rfl
  | some b =>
    obtain ⟨h1, h2, _⟩ := pick_some h
    simp only [Option.isSome_some, Bool.true_and, Option.getD_some]
    exact List.any_eq_true.2 ⟨b, h1, by rw [h2, decide_eq_true rfl]; rfl⟩
theorem best_fits {path : ByteArray} {ps : List ByteArray} {rs : List Rt} {r : Rt} (hr : r ∈ rs) (hf : fitsB path ps r = true) :
    (pickB path ps rs).isSome = true ∧ r.pre.size ≤ ((pickB path ps rs).getD Rt.zero).pre.size := by
  cases h : pickB path ps rs with
  | none => rw [pick_none h r hr] at hf; cases hf
  | some b => exact ⟨rfl, key_size ((pick_some h).2.2 r hr hf)⟩
theorem pick_more (path : ByteArray) (ps : List ByteArray) (rs : List Rt) (r : Rt) : pickB path ps (rs ++ [r]) = pickStep path ps (pickB path ps rs) r := by
  unfold pickB; rw [List.foldl_append]; rfl
/-- Prefixes of the same path, of the same size, are the same. -/
theorem below_pre {c p q : List UInt8} (hp : belowL c p = true) (hq : belowL c q = true) (h : p.length = q.length) : p = q := by
  rw [belowL, Bool.and_eq_true, List.isPrefixOf_iff_prefix] at hp hq
  obtain ⟨s, hs⟩ := hp.1
  obtain ⟨t, ht⟩ := hq.1
  exact (List.append_inj (hs.trans ht.symm) h).1
/-- Of routes that are there once each (by prefix and protocol) the order doesn't matter, for one protocol. -/
theorem pick_turned (path pr : ByteArray) (rs qs : List Rt) (hm : ∀ r, r ∈ rs ↔ r ∈ qs) (ho : ∀ r ∈ rs, ∀ s ∈ rs, r.pre = s.pre → r.pro = s.pro → r = s) :
    pickB path [pr] rs = pickB path [pr] qs := by
  cases h : pickB path [pr] rs with
  | none =>
    cases h' : pickB path [pr] qs with
    | none => rfl
    | some b' =>
      obtain ⟨a1, a2, _⟩ := pick_some h'
      rw [pick_none h b' ((hm b').2 a1)] at a2; cases a2
  | some b =>
    obtain ⟨a1, a2, a3⟩ := pick_some h
    cases h' : pickB path [pr] qs with
    | none => rw [pick_none h' b ((hm b).1 a1)] at a2; cases a2
    | some b' =>
      obtain ⟨c1, c2, c3⟩ := pick_some h'
      have hk := key_same (Nat.le_antisymm (c3 b ((hm b).1 a1) a2) (a3 b' ((hm b').2 c1) c2))
      rw [fitsB, Bool.and_eq_true] at a2 c2
      have e1 : b.pre = b'.pre := bs_inj (below_pre a2.1 c2.1 (by rw [bs_length, bs_length]; exact hk.1))
      have e2 : b.pro = b'.pro := by
        cases hb : b.pro.toList.isEmpty with
        | true =>
          have hb' := hk.2 ▸ hb
          rw [List.isEmpty_iff, toList_bs] at hb hb'
          exact bs_inj (hb.trans hb'.symm)
        | false =>
          have hb' := hk.2 ▸ hb
          have x1 := a2.2
          have x2 := c2.2
          rw [hb] at x1
          rw [hb'] at x2
          simp only [inB, List.any_cons, List.any_nil, Bool.or_false, Bool.false_or, decide_eq_true_eq] at x1 x2
          exact x1.symm.trans x2
      rw [ho b a1 b' ((hm b').2 c1) e1 e2]
end Go.Proofs.Ythdmibjeomhibaa
