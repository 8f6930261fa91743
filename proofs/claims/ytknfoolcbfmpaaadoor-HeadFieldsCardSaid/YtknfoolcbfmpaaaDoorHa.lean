/- Small functions of layer 5: rows that are the same, texts of bytes between two, values, words; conditions: strings of lengths that a world can hold. -/
import Derived.Test.YtknfoolcbfmpaaaDoorSm
import Derived.Test.YtknfoolcbfmpaaaDoorTr
import Derived.Shelf.Strings.SlTrimAscii
namespace Go.Proofs.YtknfoolcbfmpaaaDoor
set_option linter.unusedSimpArgs false
set_option linter.unusedVariables false
open Go.RowKit
/-- The library's bound, where it lies. -/
def MaxL (w : World) : Prop := ∃ m, w.cell? ⟨0, 0, none⟩ = some (.int .i64 m)
theorem MaxL.below {w w1 : World} (h : MaxL w) (hb : Below w.heap.size w w1) : MaxL w1 := by
  obtain ⟨m, hm⟩ := h
  exact ⟨m, ((bcell hb).1 0 0 (cell_lt hm)).trans hm⟩
def rowB (a b : List ByteArray) : Bool := decide (a = b)
theorem row_no {a b : List ByteArray} {k : Nat} (ha : k < a.length) (hb : k < b.length) (h : a[k] ≠ b[k]) : rowB a b = false := by
  unfold rowB
  rw [decide_eq_false_iff_not]
  intro e; subst e; exact h rfl
theorem take_snoc_eq {a b : List ByteArray} {k : Nat} (ha : k < a.length) (hb : k < b.length) (h : a.take k = b.take k) (he : a[k] = b[k]) : a.take (k + 1) = b.take (k + 1) := by
  rw [List.take_succ_eq_append_getElem ha, List.take_succ_eq_append_getElem hb, h, he]
set_option maxHeartbeats 1000000 in
theorem Row_calls (A B : Option Addr) (a b : List ByteArray) (c d : Nat) (w : World) (ha : a.length ≤ maxLen) (hb : b.length ≤ maxLen) (hA : Strs w A a) (hB : Strs w B b) :
    Calls Tryd.prog 20 #[.slice A a.length c, .slice B b.length d] w fun e w' => e = .returned (.bool (rowB a b)) ∧ ∃ n, w' = w.drewN n := by
  unfold maxLen at ha hb
  by_cases hl : a.length = b.length
  · have HL := Lib.hid hl
    have HA := Lib.hid hA
    have HB := Lib.hid hB
    clear hl hA hB
    have hne : ((a.length : Int) != (b.length : Int)) = false := by rw [HL.out]; simp
    go_enter Tryd.func20, Tryd.ntmps20
    go_wp2
    go_loopg [5] a.length (fun gh i wx => ∃ k : Nat, i = .int .i64 k ∧ k + gh = a.length ∧ Hid (a.take k = b.take k) ∧ Hid (Drawn w wx))
    case atStart => exact ⟨0, rfl, by omega, Lib.hid rfl, Lib.hid (Drawn.refl w)⟩
    case round =>
      obtain ⟨k, rfl, hk, hall, hd⟩ := hrel
      by_cases hlt : k < a.length
      · have hltb : k < b.length := by rw [← HL.out]; exact hlt
        obtain ⟨b1, o1, rfl, h1⟩ := HA.out k hlt
        obtain ⟨b2, o2, rfl, h2⟩ := HB.out k hltb
        have hw1 : wr.cell? ⟨b1, o1 + k, none⟩ = some (.string a[k]) := by
          obtain ⟨n, e⟩ := hd.out.out
          rw [e]; exact h1
        have hw2 : wr.cell? ⟨b2, o2 + k, none⟩ = some (.string b[k]) := by
          obtain ⟨n, e⟩ := hd.out.out
          rw [e]; exact h2
        clear h1 h2
        by_cases he : a[k] = b[k]
        · have hs : (a[k].toList == b[k].toList) = true := by rw [he]; simp
          have HE := Lib.hid he; clear he
          go_upto_region 6 with (fail)
          go_quiet (fail)
          go_wp2
          go_roundg (a.length - (k + 1))
          case measure => omega
          case rel => exact ⟨k + 1, by go_num, by omega, Lib.hid (take_snoc_eq hlt hltb hall.out HE.out), Lib.hid (hd.out.more _)⟩
        · have hs : (a[k].toList == b[k].toList) = false := by rw [str_beq]; exact decide_eq_false he
          have HE := Lib.hid he; clear he
          go_upto_region 6 with (fail)
          go_quiet (fail)
          go_wp2
          go_ret
          exact ⟨ret_bool (row_no hlt hltb HE.out).symm, (hd.out.more _).out⟩
      · have hall' := hall.out
        rw [List.take_of_length_le (by omega), List.take_of_length_le (by have := HL.out; omega)] at hall'
        have HE := Lib.hid hall'; clear hall' hall
        go_wp2
        go_ret
        exact ⟨ret_bool (by rw [rowB, decide_eq_true HE.out]), hd.out.out⟩
  · have hne : ((a.length : Int) != (b.length : Int)) = true := by rw [bne_iff_ne]; omega
    have HL := Lib.hid hl; clear hl
    go_enter Tryd.func20, Tryd.ntmps20
    go_wp2
    go_ret
    exact ⟨ret_bool (by rw [rowB, decide_eq_false]; exact fun e => HL.out (by rw [e])), 0, rfl⟩
def inC (a b c : UInt8) : Bool := a ≤ c && c ≤ b
theorem inC_iff (a b c : UInt8) : inC a b c = true ↔ (a.toNat : Int) ≤ (c.toNat : Int) ∧ (c.toNat : Int) ≤ (b.toNat : Int) := by
  simp only [inC, Bool.and_eq_true, decide_eq_true_eq, UInt8.le_iff_toNat_le]
  omega
def within (a b : UInt8) (l : List UInt8) : Bool := l.all (inC a b)
set_option maxHeartbeats 1000000 in
theorem within_calls (s : ByteArray) (a b : UInt8) (w : World) (hs : s.size ≤ maxLen) :
    Calls Tryd.prog 52 #[.string s, .int .u8 a.toNat, .int .u8 b.toNat] w fun e w' => e = .returned (.bool (within a b (bs s))) ∧ w' = w := by
  unfold maxLen at hs
  go_enter Tryd.func52, Tryd.ntmps52
  go_wp2
  go_loop [10] (fun i => ∃ k : Nat, k ≤ s.size ∧ i = .int .i64 k ∧ Hid (((bs s).take k).all (inC a b) = true)) (fun i => s.size - (intOf i).toNat)
  case atStart => exact ⟨0, Nat.zero_le _, rfl, Lib.hid rfl⟩
  case round =>
    obtain ⟨k, hk, rfl, hall⟩ := hrel
    by_cases hlt : k < s.size
    · by_cases h1 : (s[k].toNat : Int) < (a.toNat : Int)
      · have e : inC a b s[k] = false := by rw [Bool.eq_false_iff, Ne, inC_iff]; omega
        have HE := Lib.hid (all_not s k hlt e)
        clear e
        go_wp2
        go_ret
        exact ⟨ret_bool HE.out.symm, rfl⟩
      · by_cases h2 : (b.toNat : Int) < (s[k].toNat : Int)
        · have e : inC a b s[k] = false := by rw [Bool.eq_false_iff, Ne, inC_iff]; omega
          have HE := Lib.hid (all_not s k hlt e)
          clear e
          go_wp2
          go_ret
          exact ⟨ret_bool HE.out.symm, rfl⟩
        · have e : inC a b s[k] = true := by rw [inC_iff]; omega
          have HE : Hid (((bs s).take (k + 1)).all (inC a b) = true) := Lib.hid (by rw [take_all s k hlt, hall.out, e]; rfl)
          clear e
          go_wp2
          go_round
          case rel => exact ⟨k + 1, hlt, by go_num, HE⟩
          case measure => simp [intOf]; omega
    · have hall' := hall.out
      rw [show k = s.size by omega, take_size] at hall'
      have HE := Lib.hid hall'
      clear hall' hall
      go_wp2
      go_ret
      exact ⟨ret_bool HE.out.symm, rfl⟩
def wordB (l : List UInt8) : Bool := !l.isEmpty && within 33 126 l
theorem word_calls (s : ByteArray) (w : World) (hs : s.size ≤ maxLen) :
    Calls Tryd.prog 33 #[.string s] w fun e w' => e = .returned (.bool (wordB (bs s))) ∧ w' = w := by
  have hw := fun w => within_calls s 33 126 w hs
  by_cases h : bs s = []
  · have he : s.toList.isEmpty = true := by rw [ByteArray.toList_eq]; exact List.isEmpty_iff.2 h
    have HE : Hid (wordB (bs s) = false) := Lib.hid (by rw [wordB, h]; rfl)
    clear h hw
    go_enter Tryd.func33, Tryd.ntmps33
    go_wp2
    go_ret
    exact ⟨ret_bool HE.out.symm, rfl⟩
  · have he : s.toList.isEmpty = false := by rw [ByteArray.toList_eq]; exact (List.isEmpty_eq_false_iff).2 h
    have HE : Hid (wordB (bs s) = within 33 126 (bs s)) := Lib.hid (by rw [wordB, ← toList_bs, he]; rfl)
    clear h
    go_enter Tryd.func33, Tryd.ntmps33
    go_wp2_with (go_at_call 52; refine (hw _).mono ?_; rintro e w' ⟨rfl, rfl⟩)
    go_ret
    exact ⟨ret_bool HE.out.symm, rfl⟩
def endsOk (l : List UInt8) : Bool := l.isEmpty || (l.head? != some 32 && l.getLast? != some 32)
def valueB (l : List UInt8) : Bool := within 32 126 l && endsOk l
theorem dw_id {p : UInt8 → Bool} {l : List UInt8} : l.dropWhile p = l ↔ ∀ x, l.head? = some x → p x = false := by
  cases l with
  | nil => simp
  | cons x l =>
    rw [List.dropWhile_cons]
    constructor
    · intro h y hy
      cases hy
      split at h
      · have := congrArg List.length h
        have h2 := (List.dropWhile_sublist (l := l) p).length_le
        simp at this; omega
      · rename_i hx; simpa using hx
    · intro h
      rw [if_neg (by rw [h x rfl]; simp)]
theorem trimB_id (l : List UInt8) : decide (Lib.trimB l 32 = l) = endsOk l := by
  rw [Bool.eq_iff_iff, decide_eq_true_eq]
  unfold Lib.trimB Lib.trimLeftB Lib.trimRightB endsOk
  constructor
  · intro h
    have hl := congrArg List.length h
    have h1 := (List.dropWhile_sublist (l := (l.reverse.dropWhile (· == 32)).reverse) (· == 32)).length_le
    have h2 := (List.dropWhile_sublist (l := l.reverse) (· == 32)).length_le
    rw [List.length_reverse] at h1 h2
    have h3 : l.reverse.dropWhile (· == 32) = l.reverse := (List.dropWhile_sublist _).eq_of_length (by rw [List.length_reverse]; omega)
    rw [h3, List.reverse_reverse] at h
    rw [dw_id] at h h3
    rw [List.head?_reverse] at h3
    cases l with
    | nil => rfl
    | cons x l =>
      have hx := h x rfl
      have hy := h3 ((x :: l).getLast (by simp)) (List.getLast?_eq_some_getLast (by simp))
      rw [List.getLast?_eq_some_getLast (show x :: l ≠ [] by simp)]
      simp only [beq_eq_false_iff_ne] at hx hy
      simp [hx, hy]
  · intro h
    cases l with
    | nil => rfl
    | cons x l =>
      rw [List.getLast?_eq_some_getLast (show x :: l ≠ [] by simp)] at h
      simp at h
      have h3 : (x :: l).reverse.dropWhile (· == 32) = (x :: l).reverse := by
        rw [dw_id]
        intro y hy
        rw [List.head?_reverse, List.getLast?_eq_some_getLast (show x :: l ≠ [] by simp)] at hy
        cases hy
        simpa using h.2
      rw [h3, List.reverse_reverse, dw_id]
      intro y hy
      cases hy
      simpa using h.1
theorem value_quiet (s : ByteArray) (w : World) (hs : s.size ≤ maxLen) :
    Calls Tryd.prog 32 #[.string s] w fun e w' => e = .returned (.bool (valueB (bs s))) ∧ ∃ n, w' = w.drewN n := by
  have hw := fun w => within_calls s 32 126 w hs
  cases h : within 32 126 (bs s) with
  | false =>
    rw [h] at hw
    have HE : Hid (valueB (bs s) = false) := Lib.hid (by rw [valueB, h]; rfl)
    clear h
    go_enter Tryd.func32, Tryd.ntmps32
    go_wp2_with (go_at_call 52; refine (hw _).mono ?_; rintro e w' ⟨rfl, rfl⟩)
    go_ret
    exact ⟨ret_bool HE.out.symm, 0, rfl⟩
  | true =>
    rw [h] at hw
    obtain ⟨t, ht⟩ : ∃ t, t = mk (Lib.trimB (bs s) 32) := ⟨_, rfl⟩
    have hT := fun w => Tryd.strings_Trim_one s 32 (by decide) w hs
    have HE : Hid (valueB (bs s) = (t.toList == s.toList)) := Lib.hid (by
      rw [str_beq, valueB, h, ← trimB_id, Bool.true_and, ht]
      exact decide_eq_decide.2 ⟨fun e => by rw [e, mk_bs], fun e => by have := congrArg bs e; rwa [bs_mk] at this⟩)
    change ∀ w : World, Calls Tryd.prog _ _ w fun e w' => e = .returned (.string (mk (Lib.trimB (bs s) 32))) ∧ (w' = w ∨ w' = w.drew) at hT
    rw [← ht] at hT
    have hT2 := fun w => (hT w).mono (R' := fun e w' => e = .returned (.string t) ∧ ∃ n, w' = w.drewN n) fun e w' ⟨h1, h2⟩ => ⟨h1, by
      rcases h2 with rfl | rfl
      · exact ⟨0, rfl⟩
      · exact ⟨1, rfl⟩⟩
    clear h ht hT
    cases hq : (t.toList == s.toList)
    all_goals
      rw [hq] at HE
      go_enter Tryd.func32, Tryd.ntmps32
      go_wp2_with (first
        | (go_at_call 52; refine (hw _).mono ?_; rintro e w' ⟨rfl, rfl⟩)
        | (go_at_call 53; refine (hT2 _).mono ?_; rintro e w'' ⟨rfl, n, rfl⟩))
      go_ret
      exact ⟨ret_bool HE.out.symm, n, rfl⟩
theorem value_calls (s : ByteArray) (w : World) (hs : s.size ≤ maxLen) :
    Calls Tryd.prog 32 #[.string s] w fun e w' => e = .returned (.bool (valueB (bs s))) ∧ Below w.heap.size w w' :=
  (value_quiet s w hs).mono fun e w' ⟨h, n, e'⟩ => ⟨h, e' ▸ below_drewN1 w n⟩
end Go.Proofs.YtknfoolcbfmpaaaDoor
