/- base.Has, and what the chapter's examples fix (awake); conditions: at most 1000 letters. -/
import Derived.Test.YtjlkdfgboklmhaaDoorBe
import Derived.Laws.IdiomStrings
import Derived.Laws.BytesString
import Derived.Lib.SlBytesConst
namespace Go.Proofs.YtjlkdfgboklmhaaDoor
set_option linter.unusedSimpArgs false
set_option linter.unusedVariables false
open Go.RowKit
def hasB (s : List UInt8) (n : Int) : Bool := (getB s).isSome && decide ((((getB s).getD []).length : Int) = n)
set_option maxHeartbeats 1000000 in
theorem Has_calls (s : ByteArray) (n : Int) (w : World) (hs : s.size ≤ 1000) :
    Calls Tryd.prog 16 #[.string s, .int .i64 n] w fun e w' => e = .returned (.bool (hasB (bs s) n)) ∧ Below w.heap.size w w' := by
  have hg := Get_calls s w hs
  have HH : Hid (hasB (bs s) n = _) := Lib.hid (by rw [hasB])
  generalize getB (bs s) = o at hg HH
  have HW : Hid (∀ w' : World, Below w.heap.size w w' → Below w.heap.size w w') := Lib.hid fun _ h => h
  cases o with
  | none =>
    go_enter Tryd.func16, Tryd.ntmps16
    go_wp2_with (go_at_call 13; refine hg.mono ?_; rintro e w' ⟨A, c, rfl, _, _, _, hb⟩; have HB := Lib.hid hb; clear hb; simp only [codeG, Option.getD_none, List.length_nil])
    go_ret
    exact ⟨by rw [HH.out]; rfl, HB.out⟩
  | some out =>
    by_cases hn : (out.length : Int) = n
    · have hd : ((out.length : Int) == n) = true := beq_iff_eq.2 hn
      have HN := Lib.hid hn
      clear hn
      go_enter Tryd.func16, Tryd.ntmps16
      go_wp2_with (go_at_call 13; refine hg.mono ?_; rintro e w' ⟨A, c, rfl, _, _, _, hb⟩; have HB := Lib.hid hb; clear hb; simp only [codeG, Option.getD_some])
      go_ret
      exact ⟨ret_bool (by rw [HH.out]; simp [HN.out]), HB.out⟩
    · have hd : ((out.length : Int) == n) = false := beq_eq_false_iff_ne.2 hn
      have HN := Lib.hid hn
      clear hn
      go_enter Tryd.func16, Tryd.ntmps16
      go_wp2_with (go_at_call 13; refine hg.mono ?_; rintro e w' ⟨A, c, rfl, _, _, _, hb⟩; have HB := Lib.hid hb; clear hb; simp only [codeG, Option.getD_some])
      go_ret
      exact ⟨ret_bool (by rw [HH.out]; simp [HN.out]), HB.out⟩
theorem conv_str {w : World} {A : Option Addr} {l : List UInt8} (c : Nat) (h : Bys w A l) : (convert 24 9 (.slice A l.length c)).run Tryd.prog w = .ok (.string ⟨l.toArray⟩) w := by
  cases A with
  | some a =>
    refine run_convert_bytes_back (P := Tryd.prog) w 24 9 5 a c l Tryd.underlying24 Tryd.underlying5 Tryd.underlying9 fun j hj => ?_
    obtain ⟨b, off, e, hc⟩ := h j hj
    cases e
    rw [Addr.add_lit]; exact hc
  | none =>
    have hl : l = [] := by
      rcases Nat.eq_zero_or_pos l.length with h0 | h0
      · exact List.eq_nil_of_length_eq_zero h0
      · obtain ⟨b, off, e, _⟩ := h 0 h0
        cases e
    subst hl
    show (convert 24 9 (.slice none 0 c)).run Tryd.prog w = _
    rw [run_convert_bytes_string w 24 9 5 none 0 c Tryd.underlying24 Tryd.underlying5 Tryd.underlying9]
    rfl
theorem conv_const (w : World) (C : Array Value) (n c : Nat) : (convert 24 24 (.slice (some ⟨w.heap.size, 0, none⟩) n c)).run Tryd.prog (w.alloc (.cells C 5)) = .ok (.slice (some ⟨w.heap.size, 0, none⟩) n c) (w.alloc (.cells C 5 (C.size, C.size + 1))) :=
  Lib.run_convert_bytes_const w 24 5 C n c Tryd.underlying24 Tryd.underlying5
theorem aw_get1 (w : World) : Calls Tryd.prog 13 #[.string ⟨#[89, 87, 74, 106]⟩] w fun e w' => ∃ (A : Option Addr) (c : Nat), e = .returned (.tuple #[.slice A 3 c, .int .i64 0]) ∧ Bys w' A [97, 98, 99] ∧ Below w.heap.size w w' := by
  refine (Get_calls ⟨#[89, 87, 74, 106]⟩ w (by decide)).mono ?_
  rintro e w' ⟨A, c, he, hb, _, _, hbel⟩
  have hg : getB (bs ⟨#[89, 87, 74, 106]⟩) = some [97, 98, 99] := by kernel_rfl
  rw [hg] at he hb
  exact ⟨A, c, he, hb, hbel⟩
theorem aw_get2 (w : World) : Calls Tryd.prog 13 #[.string ⟨#[89, 82, 61, 61]⟩] w fun e w' => ∃ (A : Option Addr) (c : Nat), e = .returned (.tuple #[.slice A 0 c, .int .i64 20]) ∧ Below w.heap.size w w' := by
  refine (Get_calls ⟨#[89, 82, 61, 61]⟩ w (by decide)).mono ?_
  rintro e w' ⟨A, c, he, hb, _, _, hbel⟩
  have hg : getB (bs ⟨#[89, 82, 61, 61]⟩) = none := by kernel_rfl
  rw [hg] at he
  exact ⟨A, c, he, hbel⟩
theorem aw_put (w : World) (g : Nat) (hg : w.cell? ⟨g, 0, none⟩ = some (.int .u8 97)) : Calls Tryd.prog 12 #[.slice (some ⟨g, 0, none⟩) 1 1] w fun e w' => e = .returned (.string ⟨#[89, 81, 61, 61]⟩) ∧ Below w.heap.size w w' := by
  refine (Put_calls (some ⟨g, 0, none⟩) [97] 1 w (by decide) (by decide) (by decide) (fun i hi => ?_)).mono ?_
  · obtain rfl : i = 0 := by simp at hi; omega
    exact ⟨g, 0, rfl, hg⟩
  · rintro e w' ⟨he, hb⟩
    have hp : putB [97] = [89, 81, 61, 61] := by kernel_rfl
    rw [hp] at he
    exact ⟨he, hb⟩
theorem aw_size (w : World) : Calls Tryd.prog 15 #[.int .i64 16] w fun e w' => e = .returned (.int .i64 24) ∧ w' = w := Size_calls 16 w (by decide) (by decide)
theorem aw_has (w : World) : Calls Tryd.prog 16 #[.string ⟨#[89, 81, 61, 61]⟩, .int .i64 1] w fun e w' => e = .returned (.bool true) ∧ Below w.heap.size w w' := by
  refine (Has_calls ⟨#[89, 81, 61, 61]⟩ 1 w (by decide)).mono ?_
  rintro e w' ⟨he, hb⟩
  have hh : hasB (bs ⟨#[89, 81, 61, 61]⟩) 1 = true := by kernel_rfl
  rw [hh] at he
  exact ⟨he, hb⟩
set_option maxRecDepth 100000 in
set_option maxHeartbeats 4000000 in
theorem awake_calls (w : World) : Calls Tryd.prog 11 #[] w fun e w' => e = .returned (.bool true) ∧ Below w.heap.size w w' := by
  have s1 : (⟨#[89, 81, 61, 61]⟩ : ByteArray).toList = [89, 81, 61, 61] := by rw [toList_bs]
  have s2 : (⟨#[97, 98, 99]⟩ : ByteArray).toList = [97, 98, 99] := by rw [toList_bs]
  have hcc : ∀ w : World, (convert 24 24 (.slice (some ⟨w.heap.size, 0, none⟩) 1 1)).run Tryd.prog (w.alloc (.cells #[.int .u8 97] 5)) = .ok (.slice (some ⟨w.heap.size, 0, none⟩) 1 1) (w.alloc (.cells #[.int .u8 97] 5 (1, 2))) := fun w => conv_const w #[.int .u8 97] 1 1
  go_enter Tryd.func11, Tryd.ntmps11
  go_wp2_with (first
    | (go_at_call 13; (with_reducible refine (aw_get1 _).mono ?_); rintro e w1 ⟨A, c, rfl, hby, hb1⟩; have H1 := Lib.hid (And.intro hby hb1); clear hby hb1)
    | (go_at_call 13; (with_reducible refine (aw_get2 _).mono ?_); rintro e w2 ⟨A2, c2, rfl, hb2⟩; have H2 := Lib.hid hb2; clear hb2)
    | (go_at_call 12; refine (aw_put _ w2.heap.size ((World.cell?_alloc_mark w2 _ _ _ 0).trans rfl)).mono ?_; rintro e w3 ⟨rfl, hb3⟩
       have HB3 := Lib.hid ((below_alloc1 w2 (.cells #[.int .u8 97] 5 (1, 2))).trans (hb3.mono (below_alloc1 w2 _).size))
       have hcv := conv_str (w := w3) c (bys_below (bys_below H1.out.1 H2.out) HB3.out)
       simp only [List.length_cons, List.length_nil, Nat.zero_add, Nat.reduceAdd] at hcv
       clear hb3)
    | (go_at_call 15; refine (aw_size _).mono ?_; rintro e w' ⟨rfl, hw⟩; rw [hw]; clear hw w')
    | (go_at_call 16; refine (aw_has _).mono ?_; rintro e w4 ⟨rfl, hb4⟩; have H4 := Lib.hid hb4; clear hb4))
  go_ret
  exact ⟨rfl, ((H1.out.2.trans (H2.out.mono H1.out.2.size)).trans (HB3.out.mono (Nat.le_trans H1.out.2.size H2.out.size))).trans (H4.out.mono (Nat.le_trans (Nat.le_trans H1.out.2.size H2.out.size) HB3.out.size))⟩
end Go.Proofs.YtjlkdfgboklmhaaDoor
