/- Searching a slice of routes or of strings for one; conditions: the slices can be read. -/
import Derived.Test.YthdmibjeomhibaaRc
import Derived.Laws.StructEq
namespace Go.Proofs.Ythdmibjeomhibaa
set_option linter.unusedSimpArgs false
set_option linter.unusedVariables false
open Go.RowKit
theorem contains_calls (s : ByteArray) (A : Option Addr) (l : List ByteArray) (c : Nat) (w : World) (hl : l.length ≤ maxLen) (hA : Strs w A l) :
    Calls Try.prog 29 #[.slice A l.length c, .string s] w fun e w' => e = .returned (.bool (inB s l)) ∧ w' = w := by
  by_cases h0 : 0 < l.length
  · obtain ⟨b, off, rfl, _⟩ := hA 0 h0
    refine (Try.slices_Contains_string b off l.length c l s w (Nat.le_refl _) hl ?_).mono ?_
    · intro j hj
      obtain ⟨b', off', e, hc⟩ := hA j hj
      cases e
      rw [List.getD_eq_getElem?_getD, List.getElem?_eq_getElem hj]
      exact hc
    · rintro e w' ⟨rfl, rfl⟩
      refine ⟨ret_bool ?_, rfl⟩
      rw [List.take_length, Bool.eq_iff_iff, Lib.containsS_iff, inB]
      simp
  · have : l = [] := List.length_eq_zero_iff.1 (by omega)
    subst this
    exact (Try.slices_Contains_string_empty A c s w).mono fun e w' ⟨h, hw⟩ => ⟨h, hw⟩
theorem eqf_step {P : Program} {d : Nat} {xs ys : Array Value} {f : Field} {fs : List Field} {a b : Value} {r : Bool} {w : World} (hn : f.name ≠ "_") (ha : (part f.type xs f.offset).run P w = .ok a w) (hb : (part f.type ys f.offset).run P w = .ok b w)
    (he : (Op.equalIn d f.type a b).run P w = .ok r w) : (Op.eqFields d xs ys (f :: fs)).run P w = if r then (Op.eqFields d xs ys fs).run P w else .ok false w := by
  rw [Op.eqFields]
  simp only [if_pos hn, Sem.run_bind, ha, hb, he, Result.andThen_ok]
  cases r <;> simp
/-- Two routes are held against each other field by field. -/
theorem eqR (d : Nat) (w : World) (x y : Rt) : (Op.equalIn (d + 2) 34 x.val y.val).run Try.prog w = .ok (decide (x = y)) w := by
  rw [run_equalIn_struct (P := Try.prog) w (d + 1) 34 _ _ (by simp only [Program.fieldsOf, Try.underlying34]) (by kernel_rfl)]
  simp only [Program.fieldsOf, Try.underlying34]
  rw [eqf_step (a := .string x.pre) (b := .string y.pre) (r := decide (x.pre = y.pre)) (by simp) (by go_simp) (by go_simp) (by rw [← str_beq]; go_simp),
    eqf_step (a := .string x.pro) (b := .string y.pro) (r := decide (x.pro = y.pro)) (by simp) (by go_simp) (by go_simp) (by rw [← str_beq]; go_simp),
    eqf_step (a := .string x.dst) (b := .string y.dst) (r := decide (x.dst = y.dst)) (by simp) (by go_simp) (by go_simp) (by rw [← str_beq]; go_simp)]
  obtain ⟨a, b, c⟩ := x
  obtain ⟨a', b', c'⟩ := y
  by_cases h1 : a = a' <;> by_cases h2 : b = b' <;> by_cases h3 : c = c' <;> simp [h1, h2, h3, Op.eqFields]
def inR (r : Rt) (l : List Rt) : Bool := l.any fun x => decide (r = x)
/-- A number that tells whether a route is there. -/
def Tells (r : Rt) (l : List Rt) (w : World) (e : Ending) (w' : World) : Prop := ∃ n : Int, e = .returned (.int .i64 n) ∧ decide (0 ≤ n) = inR r l ∧ Below w.heap.size w w'
set_option maxHeartbeats 1000000 in
theorem indexR_calls (r : Rt) (A : Option Addr) (l : List Rt) (c : Nat) (w : World) (hl : l.length ≤ maxLen) (hA : Rts w A l) :
    Calls Try.prog 37 #[.slice A l.length c, r.val] w (Tells r l w) := by
  obtain ⟨W, hW⟩ : ∃ W, W = w.alloc (.cells #[.string r.pre, .string r.pro, .string r.dst] 34 (0, 0)) := ⟨_, rfl⟩
  have hB : Hid (Below w.heap.size w W) := Lib.hid (by rw [hW]; exact below_alloc1 w _)
  have f0 : W.cell? ⟨w.heap.size, 0, none⟩ = some (.string r.pre) := by rw [hW]; exact alloc_cell w _ _ 0
  have f1 : W.cell? ⟨w.heap.size, 1, none⟩ = some (.string r.pro) := by rw [hW]; exact alloc_cell w _ _ 1
  have f2 : W.cell? ⟨w.heap.size, 2, none⟩ = some (.string r.dst) := by rw [hW]; exact alloc_cell w _ _ 2
  have HR := Lib.hid (hA.below hB.out)
  have HW := Lib.hid hW
  clear hW hA
  unfold maxLen at hl
  go_enter Try.func37, Try.ntmps37
  go_wp2
  go_loopg [8] l.length (fun g i wr => ∃ k n : Nat, i = .int .i64 k ∧ k + g = l.length ∧ Hid ((l.take k).any (fun x => decide (r = x)) = false) ∧ wr = W.drewN n)
  case atStart => exact ⟨0, 0, rfl, by omega, Lib.hid rfl, HW.out.symm⟩
  case round =>
    obtain ⟨k, n, rfl, hk, hall, rfl⟩ := hrel
    by_cases hlt : k < l.length
    · obtain ⟨b, off, rfl, h0, h1, h2⟩ := HR.out k hlt
      have he := fun (d : Nat) (w : World) => eqR d w r l[k]
      go_upto_region 4 with (fail)
      go_quiet (fail)
      go_wp2
      · have e : r = l[k] := by assumption
        go_ret
        exact ⟨k, rfl, by rw [inR, any_yes l k hlt (decide_eq_true e), decide_eq_true (by omega)], below_drewN (below_drewN hB.out _) _⟩
      · have e : ¬ r = l[k] := by assumption
        go_roundg (l.length - (k + 1))
        case measure => omega
        case rel => exact ⟨k + 1, _, by go_num, by omega, Lib.hid (by rw [any_take l k hlt, hall.out, decide_eq_false e]; rfl), rfl⟩
    · have hall' := hall.out
      rw [List.take_of_length_le (by omega)] at hall'
      have HA := Lib.hid hall'
      clear hall' hall
      go_wp2
      go_ret
      exact ⟨-1, rfl, by rw [inR, HA.out]; rfl, below_drewN hB.out _⟩
theorem containsR_calls (r : Rt) (A : Option Addr) (l : List Rt) (c : Nat) (w : World) (hl : l.length ≤ maxLen) (hA : Rts w A l) :
    Calls Try.prog 27 #[.slice A l.length c, r.val] w fun e w' => e = .returned (.bool (inR r l)) ∧ Below w.heap.size w w' := by
  obtain ⟨W, hW⟩ : ∃ W, W = w.alloc (.cells #[.string r.pre, .string r.pro, .string r.dst] 34 (0, 0)) := ⟨_, rfl⟩
  have hB : Hid (Below w.heap.size w W) := Lib.hid (by rw [hW]; exact below_alloc1 w _)
  have hI := indexR_calls r A l c W hl (hA.below hB.out)
  have hsz : w.heap.size ≤ W.heap.size := hB.out.size
  rw [hW] at hI
  clear hA
  go_enter Try.func27, Try.ntmps27
  go_wp2_with (go_at_call 37; refine hI.mono ?_; rintro e w' ⟨n, rfl, hn, hb⟩)
  go_ret
  exact ⟨rfl, (hW ▸ hB.out : Below w.heap.size w _).trans (hb.mono (hW ▸ hsz))⟩
end Go.Proofs.Ythdmibjeomhibaa
