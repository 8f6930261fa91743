/- Rows that are the same, the one, whether each is there once; conditions: the slices can be read. -/
import Derived.Test.YtkhepfmllolokaaDoorNa
namespace Go.Proofs.YtkhepfmllolokaaDoor
set_option linter.unusedSimpArgs false
set_option linter.unusedVariables false
open Go.RowKit
theorem contains_calls (s : ByteArray) (A : Option Addr) (l : List ByteArray) (c : Nat) (w : World) (hl : l.length ≤ maxLen) (hA : Strs w A l) :
    Calls Tryd.prog 32 #[.slice A l.length c, .string s] w fun e w' => e = .returned (.bool (inB s l)) ∧ w' = w := by
  by_cases h0 : 0 < l.length
  · obtain ⟨b, off, rfl, _⟩ := hA 0 h0
    refine (Tryd.slices_Contains_string b off l.length c l s w (Nat.le_refl _) hl ?_).mono ?_
    · intro j hj
      obtain ⟨b', off', e, hc⟩ := hA j hj
      cases e
      rw [List.getD_eq_getElem?_getD, List.getElem?_eq_getElem hj]
      exact hc
    · rintro e w' ⟨rfl, rfl⟩
      refine ⟨ret_bool ?_, rfl⟩
      rw [List.take_length, Bool.eq_iff_iff, Lib.containsS_iff, inB]
      simp
  · have : l = [] := List.length_eq_zero_iff.1 (by omega)
    subst this
    exact (Tryd.slices_Contains_string_empty A c s w).mono fun e w' ⟨h, hw⟩ => ⟨h, hw⟩
def rowB (a b : List ByteArray) : Bool := decide (a = b)
theorem row_no {a b : List ByteArray} {k : Nat} (ha : k < a.length) (hb : k < b.length) (h : a[k] ≠ b[k]) : rowB a b = false := by
  unfold rowB
  rw [decide_eq_false_iff_not]
  intro e; subst e; exact h rfl
theorem take_snoc_eq {a b : List ByteArray} {k : Nat} (ha : k < a.length) (hb : k < b.length) (h : a.take k = b.take k) (he : a[k] = b[k]) : a.take (k + 1) = b.take (k + 1) := by
  rw [List.take_succ_eq_append_getElem ha, List.take_succ_eq_append_getElem hb, h, he]
set_option maxHeartbeats 1000000 in
theorem Row_calls (A B : Option Addr) (a b : List ByteArray) (c d : Nat) (w : World) (ha : a.length ≤ maxLen) (hb : b.length ≤ maxLen) (hA : Strs w A a) (hB : Strs w B b) :
    Calls Tryd.prog 15 #[.slice A a.length c, .slice B b.length d] w fun e w' => e = .returned (.bool (rowB a b)) ∧ ∃ n, w' = w.drewN n := by
  unfold maxLen at ha hb
  by_cases hl : a.length = b.length
  · have HL := Lib.hid hl
    have HA := Lib.hid hA
    have HB := Lib.hid hB
    clear hl hA hB
    have hne : ((a.length : Int) != (b.length : Int)) = false := by rw [HL.out]; simp
    go_enter Tryd.func15, Tryd.ntmps15
    go_wp2
    go_loopg [5] a.length (fun gh i wx => ∃ k : Nat, i = .int .i64 k ∧ k + gh = a.length ∧ Hid (a.take k = b.take k) ∧ Hid (Drawn w wx))
    case atStart => exact ⟨0, rfl, by omega, Lib.hid rfl, Lib.hid (Drawn.refl w)⟩
    case round =>
      obtain ⟨k, rfl, hk, hall, hd⟩ := hrel
      by_cases hlt : k < a.length
      · have hltb : k < b.length := by rw [← HL.out]; exact hlt
        obtain ⟨b1, o1, rfl, h1⟩ := HA.out k hlt
        obtain ⟨b2, o2, rfl, h2⟩ := HB.out k hltb
        have hw1 : wr.cell? ⟨b1, o1 + k, none⟩ = some (.string a[k]) := by
          obtain ⟨n, e⟩ := hd.out.out
          rw [e]; exact h1
        have hw2 : wr.cell? ⟨b2, o2 + k, none⟩ = some (.string b[k]) := by
          obtain ⟨n, e⟩ := hd.out.out
          rw [e]; exact h2
        clear h1 h2
        by_cases he : a[k] = b[k]
        · have hs : (a[k].toList == b[k].toList) = true := by rw [he]; simp
          have HE := Lib.hid he; clear he
          go_upto_region 6 with (fail)
          go_quiet (fail)
          go_wp2
          go_roundg (a.length - (k + 1))
          case measure => omega
          case rel => exact ⟨k + 1, by go_num, by omega, Lib.hid (take_snoc_eq hlt hltb hall.out HE.out), Lib.hid (hd.out.more _)⟩
        · have hs : (a[k].toList == b[k].toList) = false := by rw [str_beq]; exact decide_eq_false he
          have HE := Lib.hid he; clear he
          go_upto_region 6 with (fail)
          go_quiet (fail)
          go_wp2
          go_ret
          exact ⟨ret_bool (row_no hlt hltb HE.out).symm, (hd.out.more _).out⟩
      · have hall' := hall.out
        rw [List.take_of_length_le (by omega), List.take_of_length_le (by have := HL.out; omega)] at hall'
        have HE := Lib.hid hall'; clear hall' hall
        go_wp2
        go_ret
        exact ⟨ret_bool (by rw [rowB, decide_eq_true HE.out]), hd.out.out⟩
  · have hne : ((a.length : Int) != (b.length : Int)) = true := by rw [bne_iff_ne]; omega
    have HL := Lib.hid hl; clear hl
    go_enter Tryd.func15, Tryd.ntmps15
    go_wp2
    go_ret
    exact ⟨ret_bool (by rw [rowB, decide_eq_false]; exact fun e => HL.out (by rw [e])), 0, rfl⟩
/-- The one value, or none. -/
def oneV (l : List ByteArray) : ByteArray := match l with | [x] => x | _ => ⟨#[]⟩
theorem One_calls (A : Option Addr) (l : List ByteArray) (c : Nat) (w : World) (hl : l.length ≤ maxLen) (hA : Strs w A l) :
    Calls Tryd.prog 18 #[.slice A l.length c] w fun e w' => e = .returned (.tuple #[.string (oneV l), .bool (decide (l.length = 1))]) ∧ w' = w := by
  unfold maxLen at hl
  by_cases h1 : l.length = 1
  · obtain ⟨x, rfl⟩ := List.length_eq_one_iff.1 h1
    obtain ⟨b, off, rfl, hc⟩ := hA 0 (by simp)
    simp only [Nat.add_zero, List.getElem_cons_zero] at hc
    show Calls Tryd.prog _ #[.slice (some ⟨b, off, none⟩) 1 c] w fun e w' => e = .returned (.tuple #[.string x, .bool true]) ∧ w' = w
    clear hl h1 hA
    go_enter Tryd.func18, Tryd.ntmps18
    go_wp2
    go_ret2
    exact ⟨rfl, rfl⟩
  · have hne : ((l.length : Int) != 1) = true := by rw [bne_iff_ne]; omega
    have hv : oneV l = ⟨#[]⟩ := by
      match l, h1 with
      | [], _ => rfl
      | [x], h => exact absurd rfl h
      | _ :: _ :: _, _ => rfl
    rw [hv, decide_eq_false h1]
    clear hv h1 hA
    go_enter Tryd.func18, Tryd.ntmps18
    go_wp2
    go_ret2
    exact ⟨rfl, rfl⟩
/-- Is each there once, up to k? -/
def onceU (l : List ByteArray) (k : Nat) : Bool := (List.range k).all fun i => !inB (l.getD i ⟨#[]⟩) (l.take i)
theorem onceU_succ (l : List ByteArray) (k : Nat) (h : k < l.length) : onceU l (k + 1) = (onceU l k && !inB l[k] (l.take k)) := by
  unfold onceU
  rw [List.range_succ, List.all_append, List.all_cons, List.all_nil, Bool.and_true, List.getD_eq_getElem?_getD, List.getElem?_eq_getElem h]; rfl
theorem onceU_no (l : List ByteArray) (k n : Nat) (h : k < l.length) (hn : k < n) (hk : inB l[k] (l.take k) = true) : onceU l n = false := by
  unfold onceU
  rw [List.all_eq_false]
  refine ⟨k, List.mem_range.2 hn, ?_⟩
  rw [List.getD_eq_getElem?_getD, List.getElem?_eq_getElem h]
  show ¬ (!inB l[k] (l.take k)) = true
  rw [hk]; simp
def onceB (l : List ByteArray) : Bool := onceU l l.length
set_option maxHeartbeats 1000000 in
theorem Once_calls (A : Option Addr) (l : List ByteArray) (c : Nat) (w : World) (hc : l.length ≤ c) (hm : c ≤ maxLen) (hA : Strs w A l) :
    Calls Tryd.prog 19 #[.slice A l.length c] w fun e w' => e = .returned (.bool (onceB l)) ∧ w' = w := by
  unfold maxLen at hm
  go_enter Tryd.func19, Tryd.ntmps19
  go_wp2
  have HA := Lib.hid hA; clear hA
  go_loop [7] (fun i => ∃ k : Nat, k ≤ l.length ∧ i = .int .i64 k ∧ Hid (onceU l k = true)) (fun i => l.length - (intOf i).toNat)
  case atStart => exact ⟨0, Nat.zero_le _, rfl, Lib.hid rfl⟩
  case round =>
    obtain ⟨k, hk, rfl, hall⟩ := hrel
    by_cases hlt : k < l.length
    · obtain ⟨b, off, rfl, h1⟩ := HA.out k hlt
      have hcn := contains_calls l[k] (some ⟨b, off, none⟩) (l.take k) c w (by unfold maxLen; rw [List.length_take]; omega) (fun i hi => by
        obtain ⟨b', o', e, hx⟩ := HA.out i (by rw [List.length_take] at hi; omega)
        exact ⟨b', o', e, by rw [hx, List.getElem_take]⟩)
      rw [List.length_take, Nat.min_eq_left hk] at hcn
      have h2 : k ≤ c := by omega
      cases hin : inB l[k] (l.take k)
      all_goals
        have HI := Lib.hid hin
        rw [hin] at hcn
        clear hin
        go_wp2_with (go_at_call 32; refine hcn.mono ?_; rintro e w' ⟨rfl, rfl⟩)
        first
          | (go_ret
             exact ⟨ret_bool (by rw [onceB, onceU_no l k _ hlt hlt HI.out]), rfl⟩)
          | (go_round
             case rel => exact ⟨k + 1, hlt, by go_num, Lib.hid (by rw [onceU_succ l k hlt, hall.out, HI.out]; rfl)⟩
             case measure => simp [intOf]; omega)
    · have hk' : k = l.length := by omega
      have hall' := hall.out
      rw [hk'] at hall'
      have HE := Lib.hid hall'; clear hall' hall
      go_wp2
      go_ret
      exact ⟨ret_bool HE.out.symm, rfl⟩
set_option maxHeartbeats 1000000 in
theorem refOnce_calls (A : Option Addr) (l : List ByteArray) (c : Nat) (w : World) (hc : l.length ≤ c) (hm : c ≤ maxLen) (hA : Strs w A l) :
    Calls Tryd.prog 20 #[.slice A l.length c] w fun e w' => e = .returned (.bool (onceB l)) ∧ ∃ n, w' = w.drewN n := by
  unfold maxLen at hm
  go_enter Tryd.func20, Tryd.ntmps20
  go_wp2
  have HA := Lib.hid hA; clear hA
  go_loopg [3] l.length (fun gh i wx => ∃ k : Nat, i = .int .i64 k ∧ k + gh = l.length ∧ Hid (onceU l k = true) ∧ Hid (Drawn w wx))
  case atStart => exact ⟨0, rfl, by omega, Lib.hid rfl, Lib.hid (Drawn.refl w)⟩
  case round =>
    obtain ⟨k, rfl, hk, hall, hd⟩ := hrel
    by_cases hlt : k < l.length
    · have HW : Hid (Strs wr A l) := Lib.hid (by obtain ⟨n, e⟩ := hd.out.out; rw [e]; exact HA.out)
      obtain ⟨b, off, rfl, h1⟩ := HW.out k hlt
      have hcn := fun n => In_calls l[k] (some ⟨b, off, none⟩) (l.take k) c (wr.drewN n) (by unfold maxLen; rw [List.length_take]; omega) (fun i hi => by
        obtain ⟨b', o', e, hx⟩ := HW.out i (by rw [List.length_take] at hi; omega)
        exact ⟨b', o', e, by rw [List.getElem_take]; exact hx⟩)
      rw [List.length_take, Nat.min_eq_left (by omega)] at hcn
      have h2 : k ≤ c := by omega
      cases hin : inB l[k] (l.take k)
      all_goals
        have HI := Lib.hid hin
        rw [hin] at hcn
        clear hin
        go_upto_region 4 with (fail)
        go_quiet ((go_at_call 17; exact Calls.quiet_of_same (hcn _)))
        go_wp2
        first
          | (go_ret
             exact ⟨ret_bool (by rw [onceB, onceU_no l k _ hlt hlt HI.out]), (hd.out.more _).out⟩)
          | (go_roundg (l.length - (k + 1))
             case measure => omega
             case rel => exact ⟨k + 1, by go_num, by omega, Lib.hid (by rw [onceU_succ l k hlt, hall.out, HI.out]; rfl), Lib.hid (hd.out.more _)⟩)
    · have hk' : k = l.length := by omega
      have hall' := hall.out
      rw [hk'] at hall'
      have HE := Lib.hid hall'; clear hall' hall
      go_wp2
      go_ret
      exact ⟨ret_bool HE.out.symm, hd.out.out⟩
end Go.Proofs.YtkhepfmllolokaaDoor
