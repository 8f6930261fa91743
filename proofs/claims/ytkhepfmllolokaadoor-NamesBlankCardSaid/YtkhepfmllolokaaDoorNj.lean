/- The statements' own helpers of layer 6: awake, upper; the contracts of List by case; a slice copied; conditions: the slices can be read, and are not too great. -/
import Derived.Test.YtkhepfmllolokaaDoorNi
import Derived.Test.YtkhepfmllolokaaDoorGb
namespace Go.Proofs.YtkhepfmllolokaaDoor
set_option linter.unusedSimpArgs false
set_option linter.unusedVariables false
open Go.RowKit
theorem List_yes {A : Option Addr} {l r : List ByteArray} {c : Nat} {w : World} (h : listB (bss l) = some (bss r)) (hl : cntB l ≤ 900000) (hm : l.length ≤ maxLen) (hs : ∀ s ∈ l, s.size ≤ 900000) (hA : Strs w A l) :
    Calls Tryd.prog 11 #[.slice A l.length c] w fun e w' => ∃ A' c', e = .returned (.tuple #[.slice A' r.length c', .int .i64 0]) ∧ r.length ≤ c' ∧ c' ≤ maxLen ∧ Strs w' A' r ∧ Below w.heap.size w w' :=
  (List_calls A l c w hl hm hs hA).mono fun e w' ⟨hb, hr⟩ => by
    rcases hr with ⟨r', A', c', h1, h2, h3, h4, h6⟩ | ⟨h2, _⟩
    · rw [h] at h1
      have := bss_inj (Option.some.inj h1)
      subst this
      exact ⟨A', c', h2, h3, h4, h6, hb⟩
    · rw [h] at h2; cases h2
theorem List_no {A : Option Addr} {l : List ByteArray} {c : Nat} {w : World} (h : listB (bss l) = none) (hl : cntB l ≤ 900000) (hm : l.length ≤ maxLen) (hs : ∀ s ∈ l, s.size ≤ 900000) (hA : Strs w A l) :
    Calls Tryd.prog 11 #[.slice A l.length c] w fun e w' => e = .returned (.tuple #[.slice none 0 0, .int .i64 60]) ∧ Below w.heap.size w w' :=
  (List_calls A l c w hl hm hs hA).mono fun e w' ⟨hb, hr⟩ => by
    rcases hr with ⟨r', A', c', h1, h2, h3, h4, h6⟩ | ⟨h2, h3⟩
    · rw [h] at h1; cases h1
    · exact ⟨h3, hb⟩
theorem refLists_yes {A : Option Addr} {l r : List ByteArray} {c : Nat} {w : World} (h : listB (bss l) = some (bss r)) (hl : cntB l ≤ 900000) (hm : l.length ≤ maxLen) (hs : ∀ s ∈ l, s.size ≤ 900000) (hA : Strs w A l) :
    Calls Tryd.prog 12 #[.slice A l.length c] w fun e w' => ∃ A' c', e = .returned (.tuple #[.slice A' r.length c', .bool true]) ∧ r.length ≤ c' ∧ c' ≤ maxLen ∧ Strs w' A' r ∧ Below w.heap.size w w' :=
  (refLists_calls A l c w hl hm hs hA).mono fun e w' ⟨hb, hr⟩ => by
    rcases hr with ⟨r', A', c', h1, h2, h3, h4, h6⟩ | ⟨h2, _⟩
    · rw [h] at h1
      have := bss_inj (Option.some.inj h1)
      subst this
      exact ⟨A', c', h2, h3, h4, h6, hb⟩
    · rw [h] at h2; cases h2
theorem refLists_no {A : Option Addr} {l : List ByteArray} {c : Nat} {w : World} (h : listB (bss l) = none) (hl : cntB l ≤ 900000) (hm : l.length ≤ maxLen) (hs : ∀ s ∈ l, s.size ≤ 900000) (hA : Strs w A l) :
    Calls Tryd.prog 12 #[.slice A l.length c] w fun e w' => e = .returned (.tuple #[.slice none 0 0, .bool false]) ∧ Below w.heap.size w w' :=
  (refLists_calls A l c w hl hm hs hA).mono fun e w' ⟨hb, hr⟩ => by
    rcases hr with ⟨r', A', c', h1, h2, h3, h4, h6⟩ | ⟨h2, h3⟩
    · rw [h] at h1; cases h1
    · exact ⟨h3, hb⟩
/-- What a copy of a slice is. -/
def CopyOf (B : Nat) (w : World) (l : List ByteArray) (v : Value) (w' : World) : Prop := (∃ A c, v = .slice A l.length c ∧ l.length ≤ c ∧ c ≤ maxLen ∧ Strs w' A l) ∧ OwnS w' B v l ∧ Below B w w'
theorem copy_run {w : World} (ty : TypeId) {A : Option Addr} {l : List ByteArray} (c : Nat) (hA : Strs w A l) (hn : l.length ≤ 900000) :
    ∃ v' w', (Builtin.append_ #[22, 22] ty #[.slice (some ⟨w.heap.size, 0, none⟩) 0 0, .slice A l.length c]).run Tryd.prog (w.alloc (.cells #[] 9)) = .ok v' w' ∧ CopyOf w.heap.size w l v' w' := by
  obtain ⟨v', w', hr, ho, hb, _⟩ := OwnS.app (OwnS.new' w rfl (Nat.le_refl _)) ty A l c (hA.alloc _) (by simp; omega) (by simp)
  rw [List.nil_append] at ho
  exact ⟨v', w', hr, ho.form, ho, (below_alloc1 w _).trans hb⟩
theorem cal_b {P : Program} {f : FuncId} {args : Array Value} {w : World} {o : Obj} {v : Value} (h : Calls P f args (w.alloc o) fun e w' => e = .returned v ∧ Below (w.alloc o).heap.size (w.alloc o) w') : Calls P f args (w.alloc o) fun e w' => e = .returned v ∧ Below w.heap.size w w' :=
  h.mono fun e w' ⟨he, hb⟩ => ⟨he, bt (below_alloc1 w o) hb⟩
theorem cal_s {P : Program} {f : FuncId} {args : Array Value} {w : World} {v : Value} (h : Calls P f args w fun e w' => e = .returned v ∧ w' = w) : Calls P f args w fun e w' => e = .returned v ∧ Below w.heap.size w w' :=
  h.mono fun e w' ⟨he, hw⟩ => ⟨he, hw ▸ Below.refl _ _⟩
theorem cal_d {P : Program} {f : FuncId} {args : Array Value} {w : World} {v : Value} (h : Calls P f args w fun e w' => e = .returned v ∧ ∃ n, w' = w.drewN n) : Calls P f args w fun e w' => e = .returned v ∧ Below w.heap.size w w' :=
  h.mono fun e w' ⟨he, n, hw⟩ => ⟨he, hw ▸ below_drewN1 _ _⟩
set_option maxRecDepth 100000 in
set_option maxHeartbeats 4000000 in
theorem awake_calls (w : World) : Calls Tryd.prog 9 #[] w fun e w' => e = .returned (.bool true) ∧ Below w.heap.size w w' := by
  have h1 : listB (bss [⟨#[107, 101, 101, 112, 45, 97, 108, 105, 118, 101, 44, 32, 85, 112, 103, 114, 97, 100, 101]⟩, ⟨#[44, 120]⟩]) = some (bss [⟨#[107, 101, 101, 112, 45, 97, 108, 105, 118, 101]⟩, ⟨#[85, 112, 103, 114, 97, 100, 101]⟩, ⟨#[120]⟩]) := by decide +kernel
  have hL := fun w => List_yes (A := some ⟨w.heap.size, 0, none⟩) (c := 2) (w := w.alloc (.cells #[.string ⟨#[107, 101, 101, 112, 45, 97, 108, 105, 118, 101, 44, 32, 85, 112, 103, 114, 97, 100, 101]⟩, .string ⟨#[44, 120]⟩] 9)) h1 (by decide) (by decide) (by decide) (strs_lit w [⟨#[107, 101, 101, 112, 45, 97, 108, 105, 118, 101, 44, 32, 85, 112, 103, 114, 97, 100, 101]⟩, ⟨#[44, 120]⟩] 9 rfl)
  have hF := fun w => (First_calls (some ⟨w.heap.size, 0, none⟩) [⟨#[97]⟩, ⟨#[98]⟩] 2 (some ⟨w.heap.size + 1, 0, none⟩) [⟨#[99]⟩, ⟨#[98]⟩, ⟨#[97]⟩] 3 ((w.alloc (.cells #[.string ⟨#[97]⟩, .string ⟨#[98]⟩] 9)).alloc (.cells #[.string ⟨#[99]⟩, .string ⟨#[98]⟩, .string ⟨#[97]⟩] 9)) (by decide) ((strs_lit w [⟨#[97]⟩, ⟨#[98]⟩] 9 rfl).alloc _) (by decide) (strs_lit _ [⟨#[99]⟩, ⟨#[98]⟩, ⟨#[97]⟩] 9 (by simp))).mono fun e w' h => And.intro h.1 (bt (below_al (below_alloc1 w _) _) h.2)
  rw [show firstO [⟨#[97]⟩, ⟨#[98]⟩] [⟨#[99]⟩, ⟨#[98]⟩, ⟨#[97]⟩] = some ⟨#[97]⟩ by decide +kernel] at hF
  have hO := fun w => cal_b <| cal_s <| One_calls (some ⟨w.heap.size, 0, none⟩) [⟨#[118]⟩] 1 (w.alloc (.cells #[.string ⟨#[118]⟩] 9)) (by decide) (strs_lit w [⟨#[118]⟩] 9 rfl)
  rw [show oneV [⟨#[118]⟩] = ⟨#[118]⟩ from rfl] at hO
  have hR := fun (w : World) A1 c1 (h : Strs w A1 [⟨#[107, 101, 101, 112, 45, 97, 108, 105, 118, 101]⟩, ⟨#[85, 112, 103, 114, 97, 100, 101]⟩, ⟨#[120]⟩]) => cal_b <| cal_d <| Row_calls A1 (some ⟨w.heap.size, 0, none⟩) [⟨#[107, 101, 101, 112, 45, 97, 108, 105, 118, 101]⟩, ⟨#[85, 112, 103, 114, 97, 100, 101]⟩, ⟨#[120]⟩] [⟨#[107, 101, 101, 112, 45, 97, 108, 105, 118, 101]⟩, ⟨#[85, 112, 103, 114, 97, 100, 101]⟩, ⟨#[120]⟩] c1 3 (w.alloc (.cells #[.string ⟨#[107, 101, 101, 112, 45, 97, 108, 105, 118, 101]⟩, .string ⟨#[85, 112, 103, 114, 97, 100, 101]⟩, .string ⟨#[120]⟩] 9)) (by decide) (by decide) (h.alloc _) (strs_lit w [⟨#[107, 101, 101, 112, 45, 97, 108, 105, 118, 101]⟩, ⟨#[85, 112, 103, 114, 97, 100, 101]⟩, ⟨#[120]⟩] 9 rfl)
  rw [show rowB [⟨#[107, 101, 101, 112, 45, 97, 108, 105, 118, 101]⟩, ⟨#[85, 112, 103, 114, 97, 100, 101]⟩, ⟨#[120]⟩] [⟨#[107, 101, 101, 112, 45, 97, 108, 105, 118, 101]⟩, ⟨#[85, 112, 103, 114, 97, 100, 101]⟩, ⟨#[120]⟩] = true by decide +kernel] at hR
  have hH := fun w => cal_b <| Has_calls ⟨#[117, 112, 103, 114, 97, 100, 101]⟩ (some ⟨w.heap.size, 0, none⟩) [⟨#[97]⟩, ⟨#[85, 112, 103, 114, 97, 100, 101]⟩] 2 (w.alloc (.cells #[.string ⟨#[97]⟩, .string ⟨#[85, 112, 103, 114, 97, 100, 101]⟩] 9)) (by decide) (by decide) (by decide) (by decide) (strs_lit w [⟨#[97]⟩, ⟨#[85, 112, 103, 114, 97, 100, 101]⟩] 9 rfl)
  rw [show hasN (bs ⟨#[117, 112, 103, 114, 97, 100, 101]⟩) (listB (bss [⟨#[97]⟩, ⟨#[85, 112, 103, 114, 97, 100, 101]⟩])) = true by decide +kernel] at hH
  have hN := fun w => cal_b <| cal_s <| Once_calls (some ⟨w.heap.size, 0, none⟩) [⟨#[97]⟩, ⟨#[98]⟩] 2 (w.alloc (.cells #[.string ⟨#[97]⟩, .string ⟨#[98]⟩] 9)) (by decide) (by decide) (strs_lit w [⟨#[97]⟩, ⟨#[98]⟩] 9 rfl)
  rw [show onceB [⟨#[97]⟩, ⟨#[98]⟩] = true by decide +kernel] at hN
  go_enter Tryd.func9, Tryd.ntmps9
  have HB := Lib.hid (Below.refl w.heap.size w)
  go_wp2_with (first
    | (go_at_call 11; refine (hL _).mono ?_; rintro e w1 ⟨A1, c1, rfl, hc1, hm1, hst1, hb⟩; have HM := Lib.hid hst1; replace HB := Lib.hid (bt (below_al HB.out _) hb); clear hb hst1 hL)
    | (go_at_call 16; refine (hF _).mono ?_; rintro e w2 ⟨rfl, hb⟩; replace HM := Lib.hid (HM.out.below hb); replace HB := Lib.hid (bt HB.out hb); clear hb hF)
    | (go_at_call 18; refine (hO _).mono ?_; rintro e w3 ⟨rfl, hb⟩; replace HM := Lib.hid (HM.out.below hb); replace HB := Lib.hid (bt HB.out hb); clear hb hO)
    | (go_at_call 15; refine (hR _ _ _ HM.out).mono ?_; rintro e w4 ⟨rfl, hb⟩; replace HB := Lib.hid (bt HB.out hb); clear hb hR)
    | (go_at_call 13; refine (hH _).mono ?_; rintro e w5 ⟨rfl, hb⟩; replace HB := Lib.hid (bt HB.out hb); clear hb hH)
    | (go_at_call 19; refine (hN _).mono ?_; rintro e w6 ⟨rfl, hb⟩; replace HB := Lib.hid (bt HB.out hb); clear hb hN))
  go_ret
  exact ⟨rfl, HB.out⟩
end Go.Proofs.YtkhepfmllolokaaDoor
