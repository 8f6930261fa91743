/- names.First: the first of some that others have; its closure and slices.IndexFunc at it; conditions: the slices can be read. -/
import Derived.Test.YtkhepfmllolokaaDoorNb
namespace Go.Proofs.YtkhepfmllolokaaDoor
set_option linter.unusedSimpArgs false
set_option linter.unusedVariables false
open Go.RowKit
/-- The place of the first of which p holds; -1: there is none. -/
def idxP (p : ByteArray → Bool) (l : List ByteArray) : Int := if l.any p then ((l.findIdx p : Nat) : Int) else -1
theorem idxP_hit {p : ByteArray → Bool} {l : List ByteArray} {k : Nat} (h : k < l.length) (hb : (l.take k).any p = false) (hk : p l[k] = true) : idxP p l = k := by
  have e : l.findIdx p = k := (List.findIdx_eq h).2 ⟨hk, fun j hj => by
    rw [List.any_eq_false] at hb
    have := hb l[j] (List.mem_iff_getElem.2 ⟨j, by rw [List.length_take]; omega, by rw [List.getElem_take]⟩)
    simpa using this⟩
  rw [idxP, if_pos (any_yes l k h hk), e]
theorem idxP_none {p : ByteArray → Bool} {l : List ByteArray} (h : l.any p = false) : idxP p l = -1 := by rw [idxP, if_neg (by rw [h]; simp)]
theorem firstf_calls (s : ByteArray) (bx : Nat) (B : Option Addr) (m : List ByteArray) (d : Nat) (w : World) (hm : m.length ≤ maxLen) (hB : Strs w B m) (hx : w.cell? ⟨bx, 0, none⟩ = some (.slice B m.length d)) :
    Calls Tryd.prog 31 #[.string s, .pointer (some ⟨bx, 0, none⟩)] w fun e w' => e = .returned (.bool (inB s m)) ∧ w' = w := by
  have hc := contains_calls s B m d w hm hB
  clear hB hm
  go_enter Tryd.func31, Tryd.ntmps31
  go_wp2_with (go_at_call 32; refine hc.mono ?_; rintro e w' ⟨rfl, rfl⟩)
  go_ret
  exact ⟨rfl, rfl⟩
set_option maxHeartbeats 1000000 in
theorem indexFirst_calls (A : Option Addr) (l : List ByteArray) (c : Nat) (bx : Nat) (B : Option Addr) (m : List ByteArray) (d : Nat) (w : World) (hl : l.length ≤ maxLen) (hA : Strs w A l) (hm : m.length ≤ maxLen) (hB : Strs w B m) (hx : w.cell? ⟨bx, 0, none⟩ = some (.slice B m.length d)) :
    Calls Tryd.prog 30 #[.slice A l.length c, .func (.func 31) #[] #[.pointer (some ⟨bx, 0, none⟩)]] w fun e w' => e = .returned (.int .i64 (idxP (fun s => inB s m) l)) ∧ w' = w := by
  have hf := fun s => firstf_calls s bx B m d w hm hB hx
  unfold maxLen at hl
  clear hm hB hx
  go_enter Tryd.func30, Tryd.ntmps30
  go_wp2
  have HA := Lib.hid hA; clear hA
  go_loop [8] (fun i => ∃ k : Nat, k ≤ l.length ∧ i = .int .i64 k ∧ Hid ((l.take k).any (fun s => inB s m) = false)) (fun i => l.length - (intOf i).toNat)
  case atStart => exact ⟨0, Nat.zero_le _, rfl, Lib.hid rfl⟩
  case round =>
    obtain ⟨k, hk, rfl, hall⟩ := hrel
    by_cases hlt : k < l.length
    · obtain ⟨b, off, rfl, h1⟩ := HA.out k hlt
      have hfk := hf l[k]
      cases hin : inB l[k] m
      all_goals
        have HI := Lib.hid hin
        rw [hin] at hfk
        clear hin
        go_wp2_with (go_at_call 31; refine hfk.mono ?_; rintro e w' ⟨rfl, rfl⟩)
        first
          | (go_ret
             exact ⟨ret_int (idxP_hit hlt hall.out HI.out).symm, rfl⟩)
          | (go_round
             case rel => exact ⟨k + 1, hlt, by go_num, Lib.hid (by rw [any_take l k hlt, hall.out, HI.out]; rfl)⟩
             case measure => simp [intOf]; omega)
    · have hall' := hall.out
      rw [List.take_of_length_le (by omega)] at hall'
      have HE := Lib.hid hall'; clear hall' hall
      go_wp2
      go_ret
      exact ⟨ret_int (idxP_none HE.out).symm, rfl⟩
/-- The first of some that others have. -/
def firstO (a b : List ByteArray) : Option ByteArray := a.find? fun s => inB s b
theorem firstO_none {a b : List ByteArray} (h : a.any (fun s => inB s b) = false) : firstO a b = none := by
  unfold firstO
  rw [List.find?_eq_none]
  intro x hx
  exact List.any_eq_false.1 h x hx
theorem firstO_some {a b : List ByteArray} (h : a.any (fun s => inB s b) = true) : ∃ k, ∃ hk : k < a.length, idxP (fun s => inB s b) a = k ∧ firstO a b = some a[k] := by
  have hk := List.findIdx_lt_length.2 (List.any_eq_true.1 h)
  refine ⟨a.findIdx fun s => inB s b, hk, by rw [idxP, if_pos h], ?_⟩
  unfold firstO
  rw [List.find?_eq_some_iff_getElem]
  refine ⟨by have := List.findIdx_getElem (w := hk); exact this, _, hk, rfl, fun j hj => ?_⟩
  have := List.not_of_lt_findIdx hj
  simpa using this
set_option maxHeartbeats 1000000 in
theorem First_calls (A : Option Addr) (a : List ByteArray) (c : Nat) (B : Option Addr) (b : List ByteArray) (d : Nat) (w : World) (ha : a.length ≤ maxLen) (hA : Strs w A a) (hb : b.length ≤ maxLen) (hB : Strs w B b) :
    Calls Tryd.prog 16 #[.slice A a.length c, .slice B b.length d] w fun e w' => e = .returned (.tuple #[.string ((firstO a b).getD ⟨#[]⟩), .bool (firstO a b).isSome]) ∧ Below w.heap.size w w' := by
  have hi := indexFirst_calls A a c w.heap.size B b d (w.alloc (.cells #[.slice B b.length d] 22)) ha (hA.alloc _) hb (hB.alloc _) (alloc_cell w _ _ 0)
  have hA2 := hA.alloc (.cells #[.slice B b.length d] 22)
  unfold maxLen at ha hb
  clear hA hB
  cases hh : a.any fun s => inB s b with
  | false =>
    rw [idxP_none hh] at hi
    rw [firstO_none hh]
    clear hh hA2
    go_enter Tryd.func16, Tryd.ntmps16
    go_wp2_with (go_at_call 30; refine hi.mono ?_; rintro e w' ⟨rfl, rfl⟩)
    go_ret2
    exact ⟨rfl, below_alloc1 _ _⟩
  | true =>
    obtain ⟨k, hk, e1, e2⟩ := firstO_some hh
    rw [e1] at hi
    rw [e2]
    clear hh e1 e2
    obtain ⟨g, off, rfl, h1⟩ := hA2 k hk
    clear hA2
    generalize a[k] = x at h1 ⊢
    go_enter Tryd.func16, Tryd.ntmps16
    go_wp2_with (go_at_call 30; refine hi.mono ?_; rintro e w' ⟨rfl, rfl⟩)
    go_ret2
    exact ⟨rfl, below_alloc1 _ _⟩
end Go.Proofs.YtkhepfmllolokaaDoor
