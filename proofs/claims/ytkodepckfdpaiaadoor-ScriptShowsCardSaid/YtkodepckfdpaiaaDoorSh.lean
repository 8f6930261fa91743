/- Whether a deed has a text, by the program; conditions: strings of lengths that a world can hold. -/
import Derived.Test.YtkodepckfdpaiaaDoorSg
import Derived.BigQuiet
namespace Go.Proofs.YtkodepckfdpaiaaDoor
set_option linter.unusedSimpArgs false
set_option linter.unusedVariables false
open Go.RowKit
theorem num_calls (n : Int) (w : World) (h0 : -9223372036854775808 ≤ n) (h1 : n ≤ 9223372036854775807) :
    Calls Tryd.prog 22 #[.int .i64 n] w fun e w' => e = .returned (.bool (numB n)) ∧ w' = w := by
  have HN : Hid (numB n = (decide (0 ≤ n) && decide (n ≤ 1000000))) := Lib.hid rfl
  generalize numB n = q at HN ⊢
  by_cases hn : 0 ≤ n
  · have hd : decide ((0 : Int) ≤ n) = true := decide_eq_true hn
    go_enter Tryd.func22, Tryd.ntmps22
    go_wp2
    go_ret
    exact ⟨ret_bool (by rw [HN.out, hd]; simp), rfl⟩
  · have hd : decide ((0 : Int) ≤ n) = false := decide_eq_false hn
    go_enter Tryd.func22, Tryd.ntmps22
    go_wp2
    go_ret
    exact ⟨ret_bool (by rw [HN.out, hd]; rfl), rfl⟩
theorem has_letter (wh : ByteArray) (c : UInt8) : decide (0 ≤ Lib.indexByte wh.data.toList c) = (bs wh).contains c := by
  show decide (0 ≤ Lib.indexByte (bs wh) c) = (bs wh).contains c
  generalize bs wh = l
  induction l with
  | nil => rfl
  | cons x l ih =>
    have hge : -1 ≤ Lib.indexByte l c := Lib.indexByte_ge l c
    by_cases e : x = c
    · subst e; simp [Lib.indexByte]
    · rw [List.contains_cons, show (c == x) = false from beq_eq_false_iff_ne.2 (Ne.symm e), Bool.false_or, ← ih]
      by_cases z : Lib.indexByte l c = -1
      · simp [Lib.indexByte, e, z]
      · have : 0 ≤ Lib.indexByte l c := by omega
        simp [Lib.indexByte, e, z, this]; omega
theorem may_calls (c : UInt8) (z r : Bool) (wh : ByteArray) (K : Nat) (w : World) (hc : w.cell? ⟨K, 0, none⟩ = some (.string wh)) :
    Calls Tryd.prog 20 #[.string ⟨#[c]⟩, .bool z, .bool r, .pointer (some ⟨K, 0, none⟩)] w fun e w' => e = .returned (.bool (z || (r && (bs wh).contains c))) ∧ w' = w := by
  have hct := fun w => Tryd.strings_Contains_one wh c w
  rw [has_letter] at hct
  generalize (bs wh).contains c = q at hct ⊢
  cases z
  · cases r
    · go_enter Tryd.func20, Tryd.ntmps20
      go_wp2
      go_ret
      exact ⟨rfl, rfl⟩
    · go_enter Tryd.func20, Tryd.ntmps20
      go_wp2_with (go_at_call 21; refine (hct _).mono ?_; rintro e w' ⟨rfl, rfl⟩)
      go_ret
      exact ⟨rfl, rfl⟩
  · go_enter Tryd.func20, Tryd.ntmps20
    go_wp2
    go_ret
    exact ⟨rfl, rfl⟩
structure Dd.In (d : Dd) : Prop where
  zi : -9223372036854775808 ≤ d.i ∧ d.i ≤ 9223372036854775807
  zs : -9223372036854775808 ≤ d.s ∧ d.s ≤ 9223372036854775807
  zn : -9223372036854775808 ≤ d.n ∧ d.n ≤ 9223372036854775807
  zd : d.d.size ≤ maxLen
structure Dd.At (d : Dd) (W : World) (N : Nat) : Prop where
  f0 : W.cell? ⟨N, 0, none⟩ = some (.string d.k)
  f1 : W.cell? ⟨N, 1, none⟩ = some (.int .i64 d.i)
  f2 : W.cell? ⟨N, 2, none⟩ = some (.int .i64 d.s)
  f3 : W.cell? ⟨N, 3, none⟩ = some (.int .i64 d.n)
  f4 : W.cell? ⟨N, 4, none⟩ = some (.bool d.o)
  f5 : W.cell? ⟨N, 5, none⟩ = some (.string d.d)
theorem Dd.At.below {d : Dd} {w w1 : World} {N : Nat} (k : d.At w N) (hb : Below w.heap.size w w1) : d.At w1 N := by
  have hc := (bcell hb).1 N
  exact ⟨(hc _ (cell_lt k.f0)).trans k.f0, (hc _ (cell_lt k.f1)).trans k.f1, (hc _ (cell_lt k.f2)).trans k.f2, (hc _ (cell_lt k.f3)).trans k.f3, (hc _ (cell_lt k.f4)).trans k.f4, (hc _ (cell_lt k.f5)).trans k.f5⟩
theorem Dd.box (d : Dd) {w : World} {N : Nat} {t : TypeId} (h : Blk w N d.cells t) : d.At w N :=
  ⟨(h.cell 0).trans rfl, (h.cell 1).trans rfl, (h.cell 2).trans rfl, (h.cell 3).trans rfl, (h.cell 4).trans rfl, (h.cell 5).trans rfl⟩
theorem check_def (d : Dd) : checkD d.dp = ((whatOf (bs d.k)).isSome && (decide (d.i = 0) || (numB d.i && ((whatOf (bs d.k)).getD []).contains 105)) && (decide (d.s = 0) || (decide (d.s = 1) && ((whatOf (bs d.k)).getD []).contains 115)) && (decide (bs d.d = []) || (decide (d.d.size ≤ 2048) && ((whatOf (bs d.k)).getD []).contains 100)) && (decide (d.n = 0) || (numB d.n && ((whatOf (bs d.k)).getD []).contains 110)) && (!d.o || ((whatOf (bs d.k)).getD []).contains 111)) := by
  unfold checkD Dd.dp
  simp only
  cases whatOf (bs d.k) with
  | none => rfl
  | some w => simp only [Option.isSome_some, Option.getD_some, Bool.true_and, bs_length]
set_option maxRecDepth 100000 in
set_option maxHeartbeats 1000000 in
theorem Check_calls (d : Dd) (w : World) (hd : d.In) :
    Calls Tryd.prog 11 #[d.val] w fun e w' => e = .returned (.bool (checkD d.dp)) ∧ Below w.heap.size w w' := by
  obtain ⟨W1, hW1⟩ : ∃ W1, W1 = w.alloc (.cells d.cells 27 (0, 0)) := ⟨_, rfl⟩
  have HB0 : Hid (Below w.heap.size w W1) := Lib.hid (hW1 ▸ below_alloc1 w _)
  have HAT : Hid (d.At W1 w.heap.size) := Lib.hid (d.box (hW1 ▸ Blk.new' w _ 27 rfl))
  have HD := Lib.hid (check_def d)
  have hhas := fun w => has_calls d.k w
  obtain ⟨wh, hwh⟩ : ∃ wh, wh = mk ((whatOf (bs d.k)).getD []) := ⟨_, rfl⟩
  have hbw : (whatOf (bs d.k)).getD [] = bs wh := by rw [hwh, bs_mk]
  rw [← hwh] at hhas
  rw [hbw] at HD
  clear hwh hbw
  generalize (whatOf (bs d.k)).isSome = is at hhas HD
  generalize checkD d.dp = R at HD ⊢
  obtain ⟨⟨hi1, hi2⟩, ⟨hs1, hs2⟩, ⟨hn1, hn2⟩, hdz⟩ := hd
  unfold maxLen at hdz
  have e1 : (d.i == 0) = decide (d.i = 0) := rfl
  have e2 : (d.s == 0) = decide (d.s = 0) := rfl
  have e3 : (d.s == 1) = decide (d.s = 1) := rfl
  have e4 : (d.n == 0) = decide (d.n = 0) := rfl
  have e5 : d.d.toList.isEmpty = decide (bs d.d = []) := by
    rw [isEmpty_iff]; cases bs d.d <;> rfl
  have e6 : decide ((d.d.size : Int) ≤ 2048) = decide (d.d.size ≤ 2048) := decide_eq_decide.2 (by omega)
  have hnum1 := fun w => num_calls d.i w hi1 hi2
  have hnum2 := fun w => num_calls d.n w hn1 hn2
  have hm1 := fun (K : Nat) (w : World) (hc : w.cell? ⟨K, 0, none⟩ = some (.string wh)) => may_calls 105 (decide (d.i = 0)) (numB d.i) wh K w hc
  have hm2 := fun (K : Nat) (w : World) (hc : w.cell? ⟨K, 0, none⟩ = some (.string wh)) => may_calls 115 (decide (d.s = 0)) (decide (d.s = 1)) wh K w hc
  have hm3 := fun (K : Nat) (w : World) (hc : w.cell? ⟨K, 0, none⟩ = some (.string wh)) => may_calls 100 (decide (bs d.d = [])) (decide (d.d.size ≤ 2048)) wh K w hc
  have hm4 := fun (K : Nat) (w : World) (hc : w.cell? ⟨K, 0, none⟩ = some (.string wh)) => may_calls 110 (decide (d.n = 0)) (numB d.n) wh K w hc
  have hm5 := fun (K : Nat) (w : World) (hc : w.cell? ⟨K, 0, none⟩ = some (.string wh)) => may_calls 111 (!d.o) true wh K w hc
  rw [Bool.true_and] at hm5
  generalize (decide (d.i = 0) || (numB d.i && (bs wh).contains 105)) = q1 at hm1 HD
  generalize (decide (d.s = 0) || (decide (d.s = 1) && (bs wh).contains 115)) = q2 at hm2 HD
  generalize (decide (bs d.d = []) || (decide (d.d.size ≤ 2048) && (bs wh).contains 100)) = q3 at hm3 HD
  generalize (decide (d.n = 0) || (numB d.n && (bs wh).contains 110)) = q4 at hm4 HD
  generalize (!d.o || (bs wh).contains 111) = q5 at hm5 HD
  generalize decide (d.i = 0) = z1 at e1 hm1
  generalize decide (d.s = 0) = z2 at e2 hm2
  generalize decide (d.s = 1) = r2 at e3 hm2
  generalize decide (d.n = 0) = z4 at e4 hm4
  generalize decide (bs d.d = []) = z3 at e5 hm3
  generalize decide (d.d.size ≤ 2048) = r3 at e6 hm3
  generalize numB d.i = r1 at hnum1 hm1
  generalize numB d.n = r4 at hnum2 hm4
  obtain ⟨f0, f1, f2, f3, f4, f5⟩ := HAT.out
  obtain ⟨dk, di, ds, dn, dO, dd⟩ := d
  simp only at *
  go_enter Tryd.func11, Tryd.ntmps11
  go_upto_region 1 with (fail)
  rw [← hW1]
  clear hW1
  have hmf : ∀ (fn : Fn) (first cap : Array Value) (w : World), (Instr.makeFunc fn first cap).run Tryd.prog w = .ok (.func fn first cap) w := fun _ _ _ _ => rfl
  go_cut [3, 4] (fun v3 v4 wx => ∃ K : Nat, v3 = .pointer (some ⟨K, 0, none⟩) ∧ v4 = .bool is ∧ Hid (Below W1.heap.size W1 wx ∧ wx.cell? ⟨K, 0, none⟩ = some (.string wh)))
  case first =>
    go_wp2_with (go_at_call 19; refine (hhas _).mono ?_; rintro e w1 ⟨rfl, hb⟩; have HB1 := Lib.hid hb; clear hb)
    go_meet
    exact ⟨w1.heap.size, rfl, rfl, Lib.hid ⟨below_al HB1.out _, (alloc_cell w1 _ _ 0).trans rfl⟩⟩
  case rest =>
    obtain ⟨K, rfl, rfl, HC⟩ := hcut
    have hck := HC.out.2
    obtain ⟨f0, f1, f2, f3, f4, f5⟩ := HAT.out.below HC.out.1
    have HB := Lib.hid (bt HB0.out HC.out.1)
    go_upto_region 4 with (fail)
    clear HC hhas
    cases is with
    | false =>
      go_quiet ((first
        | (go_at_call 22; first | with_reducible exact Calls.quiet_of_same (hnum1 _) | with_reducible exact Calls.quiet_of_same (hnum2 _))
        | (go_at_call 20; first | ((with_reducible show Calls _ _ #[Value.string ⟨#[105]⟩, _, _, _] _ _); refine Calls.quiet_of_same (hm1 K _ ?_); exact hck) | ((with_reducible show Calls _ _ #[Value.string ⟨#[115]⟩, _, _, _] _ _); refine Calls.quiet_of_same (hm2 K _ ?_); exact hck) | ((with_reducible show Calls _ _ #[Value.string ⟨#[100]⟩, _, _, _] _ _); refine Calls.quiet_of_same (hm3 K _ ?_); exact hck) | ((with_reducible show Calls _ _ #[Value.string ⟨#[110]⟩, _, _, _] _ _); refine Calls.quiet_of_same (hm4 K _ ?_); exact hck) | ((with_reducible show Calls _ _ #[Value.string ⟨#[111]⟩, _, _, _] _ _); refine Calls.quiet_of_same (hm5 K _ ?_); exact hck))))
      go_wp2
      go_ret
      exact ⟨ret_bool (by rw [HD.out]; try rfl), below_drewN HB.out _⟩
    | true =>
      cases q1 with
      | false =>
        go_quiet ((first
          | (go_at_call 22; first | with_reducible exact Calls.quiet_of_same (hnum1 _) | with_reducible exact Calls.quiet_of_same (hnum2 _))
          | (go_at_call 20; first | ((with_reducible show Calls _ _ #[Value.string ⟨#[105]⟩, _, _, _] _ _); refine Calls.quiet_of_same (hm1 K _ ?_); exact hck) | ((with_reducible show Calls _ _ #[Value.string ⟨#[115]⟩, _, _, _] _ _); refine Calls.quiet_of_same (hm2 K _ ?_); exact hck) | ((with_reducible show Calls _ _ #[Value.string ⟨#[100]⟩, _, _, _] _ _); refine Calls.quiet_of_same (hm3 K _ ?_); exact hck) | ((with_reducible show Calls _ _ #[Value.string ⟨#[110]⟩, _, _, _] _ _); refine Calls.quiet_of_same (hm4 K _ ?_); exact hck) | ((with_reducible show Calls _ _ #[Value.string ⟨#[111]⟩, _, _, _] _ _); refine Calls.quiet_of_same (hm5 K _ ?_); exact hck))))
        go_wp2
        go_ret
        exact ⟨ret_bool (by rw [HD.out]; try rfl), below_drewN HB.out _⟩
      | true =>
        cases q2 with
        | false =>
          go_quiet ((first
            | (go_at_call 22; first | with_reducible exact Calls.quiet_of_same (hnum1 _) | with_reducible exact Calls.quiet_of_same (hnum2 _))
            | (go_at_call 20; first | ((with_reducible show Calls _ _ #[Value.string ⟨#[105]⟩, _, _, _] _ _); refine Calls.quiet_of_same (hm1 K _ ?_); exact hck) | ((with_reducible show Calls _ _ #[Value.string ⟨#[115]⟩, _, _, _] _ _); refine Calls.quiet_of_same (hm2 K _ ?_); exact hck) | ((with_reducible show Calls _ _ #[Value.string ⟨#[100]⟩, _, _, _] _ _); refine Calls.quiet_of_same (hm3 K _ ?_); exact hck) | ((with_reducible show Calls _ _ #[Value.string ⟨#[110]⟩, _, _, _] _ _); refine Calls.quiet_of_same (hm4 K _ ?_); exact hck) | ((with_reducible show Calls _ _ #[Value.string ⟨#[111]⟩, _, _, _] _ _); refine Calls.quiet_of_same (hm5 K _ ?_); exact hck))))
          go_wp2
          go_ret
          exact ⟨ret_bool (by rw [HD.out]; try rfl), below_drewN HB.out _⟩
        | true =>
          cases q3 with
          | false =>
            go_quiet ((first
              | (go_at_call 22; first | with_reducible exact Calls.quiet_of_same (hnum1 _) | with_reducible exact Calls.quiet_of_same (hnum2 _))
              | (go_at_call 20; first | ((with_reducible show Calls _ _ #[Value.string ⟨#[105]⟩, _, _, _] _ _); refine Calls.quiet_of_same (hm1 K _ ?_); exact hck) | ((with_reducible show Calls _ _ #[Value.string ⟨#[115]⟩, _, _, _] _ _); refine Calls.quiet_of_same (hm2 K _ ?_); exact hck) | ((with_reducible show Calls _ _ #[Value.string ⟨#[100]⟩, _, _, _] _ _); refine Calls.quiet_of_same (hm3 K _ ?_); exact hck) | ((with_reducible show Calls _ _ #[Value.string ⟨#[110]⟩, _, _, _] _ _); refine Calls.quiet_of_same (hm4 K _ ?_); exact hck) | ((with_reducible show Calls _ _ #[Value.string ⟨#[111]⟩, _, _, _] _ _); refine Calls.quiet_of_same (hm5 K _ ?_); exact hck))))
            go_wp2
            go_ret
            exact ⟨ret_bool (by rw [HD.out]; try rfl), below_drewN HB.out _⟩
          | true =>
            cases q4 with
            | false =>
              go_quiet ((first
                | (go_at_call 22; first | with_reducible exact Calls.quiet_of_same (hnum1 _) | with_reducible exact Calls.quiet_of_same (hnum2 _))
                | (go_at_call 20; first | ((with_reducible show Calls _ _ #[Value.string ⟨#[105]⟩, _, _, _] _ _); refine Calls.quiet_of_same (hm1 K _ ?_); exact hck) | ((with_reducible show Calls _ _ #[Value.string ⟨#[115]⟩, _, _, _] _ _); refine Calls.quiet_of_same (hm2 K _ ?_); exact hck) | ((with_reducible show Calls _ _ #[Value.string ⟨#[100]⟩, _, _, _] _ _); refine Calls.quiet_of_same (hm3 K _ ?_); exact hck) | ((with_reducible show Calls _ _ #[Value.string ⟨#[110]⟩, _, _, _] _ _); refine Calls.quiet_of_same (hm4 K _ ?_); exact hck) | ((with_reducible show Calls _ _ #[Value.string ⟨#[111]⟩, _, _, _] _ _); refine Calls.quiet_of_same (hm5 K _ ?_); exact hck))))
              go_wp2
              go_ret
              exact ⟨ret_bool (by rw [HD.out]; try rfl), below_drewN HB.out _⟩
            | true =>
              go_quiet ((first
                | (go_at_call 22; first | with_reducible exact Calls.quiet_of_same (hnum1 _) | with_reducible exact Calls.quiet_of_same (hnum2 _))
                | (go_at_call 20; first | ((with_reducible show Calls _ _ #[Value.string ⟨#[105]⟩, _, _, _] _ _); refine Calls.quiet_of_same (hm1 K _ ?_); exact hck) | ((with_reducible show Calls _ _ #[Value.string ⟨#[115]⟩, _, _, _] _ _); refine Calls.quiet_of_same (hm2 K _ ?_); exact hck) | ((with_reducible show Calls _ _ #[Value.string ⟨#[100]⟩, _, _, _] _ _); refine Calls.quiet_of_same (hm3 K _ ?_); exact hck) | ((with_reducible show Calls _ _ #[Value.string ⟨#[110]⟩, _, _, _] _ _); refine Calls.quiet_of_same (hm4 K _ ?_); exact hck) | ((with_reducible show Calls _ _ #[Value.string ⟨#[111]⟩, _, _, _] _ _); refine Calls.quiet_of_same (hm5 K _ ?_); exact hck))))
              go_wp2
              go_ret
              exact ⟨ret_bool (by rw [HD.out]; try rfl), below_drewN HB.out _⟩
end Go.Proofs.YtkodepckfdpaiaaDoor
