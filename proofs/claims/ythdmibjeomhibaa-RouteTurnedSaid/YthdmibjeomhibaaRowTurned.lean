/- The row RouteTurned of this seat: the law answers yes and never panics, of every configuration that the row admits. -/
import Derived.Test.YthdmibjeomhibaaRows
import Derived.Test.YthdmibjeomhibaaRturn
import Derived.Test.YthdmibjeomhibaaOpenO
import Derived.WalkKit
import Derived.ProofKit
import Derived.OpenShut
import Derived.ShutString
import Derived.ChangeOld
import Derived.Below
import Derived.SizedLaws
namespace Go.Proofs.Ythdmibjeomhibaa.routeTurned
open Go.ChangeShapes Go.WideShapes Go.ChangeAt Go.RowKit
open Go.ChangeMaps (open_string shut_string)
set_option linter.unusedVariables false
theorem laidOut : laidOutB Try.prog = true := by kernel_rfl
theorem own : ownKnob Try.prog.godebug = none := by kernel_rfl
set_option maxRecDepth 100000 in
theorem lifted (os : Os) (started : os.Started) (H : Type) (enc : TypeId × Value → H) :
    ReturnsInHanded {} Try.checked os 7 .any (Rows.routeTurnedSpec.pre6 enc Try.prog Try.f7 Rows.routeTurnedRow.domain false) (Rows.routeTurnedSpec.post enc Try.prog Try.f7 false true false false) := by
  refine returnsInHanded_of_change_sized (C := Try.checked) own started (by kernel_rfl) Try.func7
    (ChangeSpec.witness6 (enc := enc) (C := Try.checked) false ⟨#[], #[.agg #[.slice none 0 0, .slice none 0 0, .int .i64 0, .int .i64 0, .int .i64 0, .int .i64 0, .int .i64 0, .int .i64 0, .int .i64 0, .int .i64 0, .int .i64 0, .int .i64 0], .string ByteArray.empty, .string ByteArray.empty, .int .u8 0], []⟩ 8 (by kernel_rfl) (by kernel_rfl) (by kernel_rfl) (by kernel_rfl)) ?_
  intro W base args ds gs before hval0 hW hcnd hsz0 _
  have hsz : (DataW.weightsEach Try.prog (Try.f7.params.toList ++ Rows.routeTurnedSpec.plain.varTypes Try.prog) (ds ++ gs)).all (· ≤ reachBytes) = true := hsz0
  have hval : ∀ (j : Nat) t v, Try.f7.params[j]? = some t → args[j]? = some v → Value.okWide Try.prog W .any base t v := hval0
  have hW' := hW
  obtain ⟨p, q, hA0, hV, rfl, hfz, hnd⟩ := hW
  have hA : DataW.TrodAll enc Try.prog W 0 (fun _ => true) true Try.f7.params.toList args.toList ds p := hA0
  rw [Try.params7] at hA hval hsz
  obtain ⟨v0, vs0, d0, ds0, p0, q0, hargs, rfl, rfl, h0, r0⟩ := trodAll_cons hA
  obtain ⟨v1, vs1, d1, ds1, p1, q1, rfl, rfl, rfl, h1, r1⟩ := trodAll_cons r0
  obtain ⟨v2, vs2, d2, ds2, p2, q2, rfl, rfl, rfl, h2, r2⟩ := trodAll_cons r1
  obtain ⟨v3, vs3, d3, ds3, p3, q3, rfl, rfl, rfl, h3, r3⟩ := trodAll_cons r2
  obtain ⟨rfl, rfl, rfl⟩ := trodAll_nil r3
  obtain rfl : args = #[v0, v1, v2, v3] := by cases args; simp_all
  obtain ⟨rfl, rfl⟩ := trodVars_none hV
  have hv0 := hval 0 25 v0 rfl rfl
  have hv1 := hval 1 9 v1 rfl rfl
  have hv2 := hval 2 9 v2 rfl rfl
  have hv3 := hval 3 5 v3 rfl rfl
  have hlt : ∀ x, x ∈ p0 ∨ x ∈ p1 ∨ x ∈ p2 ∨ x ∈ p3 → x.block < W.heap.size := fun x hx => by
    have := hW'.lt x (by rcases hx with h | h | h | h <;> simp [h])
    simpa using this
  have ha0 : ∀ (W' : World), Below W.heap.size W W' → DataW.Trod enc Try.prog W' 0 (fun b => decide (b < W.heap.size)) true 25 v0 d0 p0 :=
    fun W' hn => Below.trod laidOut (by kernel_rfl) (of_decide_eq_true (by kernel_rfl)) h0 hn (fun x hx => hlt x (.inl hx))
  have ha1 : ∀ (W' : World), Below W.heap.size W W' → DataW.Trod enc Try.prog W' 0 (fun b => decide (b < W.heap.size)) true 9 v1 d1 p1 :=
    fun W' hn => Below.trod laidOut (by kernel_rfl) (of_decide_eq_true (by kernel_rfl)) h1 hn (fun x hx => hlt x (.inr (.inl hx)))
  have ha2 : ∀ (W' : World), Below W.heap.size W W' → DataW.Trod enc Try.prog W' 0 (fun b => decide (b < W.heap.size)) true 9 v2 d2 p2 :=
    fun W' hn => Below.trod laidOut (by kernel_rfl) (of_decide_eq_true (by kernel_rfl)) h2 hn (fun x hx => hlt x (.inr (.inr (.inl hx))))
  have ha3 : ∀ (W' : World), Below W.heap.size W W' → DataW.Trod enc Try.prog W' 0 (fun b => decide (b < W.heap.size)) true 5 v3 d3 p3 :=
    fun W' hn => Below.trod laidOut (by kernel_rfl) (of_decide_eq_true (by kernel_rfl)) h3 hn (fun x hx => hlt x (.inr (.inr (.inr hx))))
  obtain ⟨c, rfl, hc, hrs, hos⟩ := cfg_of hv0 h0
  obtain ⟨s1, rfl, -, -, hs1⟩ := open_string Try.underlying9 hv1 h1
  obtain ⟨s2, rfl, -, -, hs2⟩ := open_string Try.underlying9 hv2 h2
  obtain ⟨n3, rfl, -, -, hwf3⟩ := open_int Try.underlying5 hv3 h3
  obtain ⟨m, rfl, hm⟩ : ∃ m : Nat, n3 = m ∧ m ≤ 255 := by
    have h := hwf3
    simp only [Lit.wf, Bool.and_eq_true, decide_eq_true_eq] at h
    have h1 : IntKind.u8.min = 0 := rfl
    have h2 : IntKind.u8.max = 255 := rfl
    exact ⟨n3.toNat, by omega, by omega⟩
  clear hA0 hval0 hsz0 hsz
  refine (RouteTurned_calls c s1 s2 m W hc hs1 hs2 hm hrs).mono fun e W' ⟨he, bel⟩ => ?_
  subst he
  exact ⟨_, rfl, _, _, _, [], _, [], hW', trodAll_mk1 (shut_bool Try.underlying4 _), (trodAll_cons_mk (ha0 W' bel) (trodAll_cons_mk (ha1 W' bel) (trodAll_cons_mk (ha2 W' bel) (trodAll_cons_mk (ha3 W' bel) trodAll_mk0)))), rfl, bel.frame _, fun h => by cases h⟩
theorem over : Rows.routeTurnedRow.holds Try.pinned (OpenSpec.ofChange Rows.routeTurnedSpec) :=
  OpenClaim.holds_of_wide 7 Try.f7 rfl rfl rfl rfl rfl rfl rfl ⟨rfl, rfl, rfl, rfl, rfl⟩ rfl rfl rfl rfl rfl (by kernel_rfl) Try.func7 (by kernel_rfl)
    (of_decide_eq_true (by kernel_rfl)) (by unfold Func.isWrapper; first | (rw [if_pos (by decide +kernel)]; kernel_rfl) | (rw [if_neg (by decide +kernel)]; exact ⟨rfl, rfl⟩))
    (fun os started H enc _ => lifted os started H enc)
theorem proved : Rows.RouteTurnedSaid := over
#print axioms proved
end Go.Proofs.Ythdmibjeomhibaa.routeTurned
namespace Go.Proofs.Ythdmibjeomhibaa
/-- The row, under a short name, for the claim. -/
theorem routeTurned_holds : Rows.RouteTurnedSaid := routeTurned.proved
end Go.Proofs.Ythdmibjeomhibaa
