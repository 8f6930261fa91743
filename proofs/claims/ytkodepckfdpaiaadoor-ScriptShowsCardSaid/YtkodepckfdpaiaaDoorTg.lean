/- Bounds of deeds' texts; Few, with what it says, and Same, by the document; conditions: the deeds lie in memory. -/
import Derived.Test.YtkodepckfdpaiaaDoorSt
namespace Go.Proofs.YtkodepckfdpaiaaDoor
set_option linter.unusedSimpArgs false
set_option linter.unusedVariables false
open Go.RowKit
theorem itoa_le {n : Int} (h0 : 0 ≤ n) (h1 : n ≤ 1000000) : (Lib.itoa n).length ≤ 21 := Lib.itoa_length_le n (by omega) (by omega)
theorem text_le {d : Dp} (h : checkD d = true) : (textD d).length ≤ 75 + 2 * d.d.length := by
  obtain ⟨w, hw, _⟩ := check_parts h
  obtain ⟨hi, hs, hn, _⟩ := check_bounds h
  have li : (fieldD d 105).length ≤ 21 := itoa_le hi.1 hi.2
  have ls : (fieldD d 115).length ≤ 21 := itoa_le hs.1 (by omega)
  have ln : (fieldD d 110).length ≤ 21 := itoa_le hn.1 hn.2
  have ld : (fieldD d 100).length = 1 + d.d.length * 2 := hexB_len d.d
  have lo : (fieldD d 111).length = 1 := by
    have e : fieldD d 111 = if d.o then [49] else [48] := rfl
    rw [e]
    split <;> rfl
  unfold textD lineD
  rw [hw, Option.getD_some]
  rcases what_k hw with ⟨hk, rfl⟩ | ⟨hk, rfl⟩ | ⟨hk, rfl⟩ | ⟨hk, rfl⟩ | ⟨hk, rfl⟩ | ⟨hk, rfl⟩ | ⟨hk, rfl⟩ <;> rw [hk] <;>
    simp only [List.flatMap_cons, List.flatMap_nil, List.length_append, List.length_cons, List.length_nil, kAccept, kFeed, kTake, kDialed, kTick, kLose, kState] <;> omega
/-- The bytes of some deeds. -/
def totD : List Dd → Nat
  | [] => 0
  | d :: l => d.d.size + totD l
theorem totD_app (a b : List Dd) : totD (a ++ b) = totD a + totD b := by
  induction a with
  | nil => show totD b = 0 + totD b; omega
  | cons d l ih => show d.d.size + totD (l ++ b) = (d.d.size + totD l) + totD b; omega
theorem totD_take (l : List Dd) (k : Nat) (h : k < l.length) : totD (l.take (k + 1)) = totD (l.take k) + l[k].d.size := by
  rw [List.take_succ_eq_append_getElem h, totD_app]
  show _ + (l[k].d.size + 0) = _
  omega
theorem allT_le (l : List Dd) (h : ∀ d ∈ l, checkD d.dp = true) : (allT (dps l)).length ≤ l.length * 75 + 2 * totD l := by
  induction l with
  | nil => exact Nat.le_refl _
  | cons d l ih =>
    have h1 := ih fun x hx => h x (.tail _ hx)
    have h2 := text_le (h d (.head _))
    have e1 : (allT (dps (d :: l))).length = (textD d.dp).length + (allT (dps l)).length := List.length_append
    have e2 : totD (d :: l) = d.d.size + totD l := rfl
    have e3 : d.dp.d.length = d.d.size := bs_length _
    rw [e1, e2, List.length_cons, Nat.add_mul]
    omega
structure FewE (l : List Dd) (e : Ending) : Prop where mk :: (out : ∃ b, e = .returned (.bool b) ∧ (b = true → l.length ≤ 60 ∧ totD l ≤ 10000))
theorem fewE_no {l : List Dd} : FewE l (.returned (.bool false)) := ⟨false, rfl, fun h => by cases h⟩
set_option maxRecDepth 100000 in
set_option maxHeartbeats 600000 in
theorem FewS_calls (A : Option Addr) (c : Nat) (l : List Dd) (w : World) (hl : l.length ≤ 2200000000000) (hA : Dds w A l) :
    Calls Tryd.prog 10 #[.slice A l.length c] w fun e w' => FewE l e ∧ Below w.heap.size w w' := by
  have HA := Lib.hid hA
  clear hA
  go_enter Tryd.func10, Tryd.ntmps10
  go_upto_region 3 with (fail)
  go_loopg [3, 4] l.length (fun gh v3 v4 wx => ∃ (k : Nat) (x : Int), v3 = .int .i64 x ∧ v4 = .int .i64 k ∧ k + gh = l.length ∧ Hid (k ≤ 60 → x = (totD (l.take k) : Nat) ∧ totD (l.take k) ≤ k * 2100) ∧ wx = w)
  case atStart => exact ⟨0, 0, rfl, rfl, by omega, Lib.hid fun _ => ⟨rfl, Nat.le_refl _⟩, rfl⟩
  case round =>
    obtain ⟨k, x, rfl, rfl, hk, HX, rfl⟩ := hrel
    by_cases hlt : k < l.length
    · obtain ⟨b, off, rfl, h0, h1, h2, h3, h4, h5⟩ := HA.out k hlt
      have HT := Lib.hid (totD_take l k hlt)
      generalize l[k] = d at *
      go_wp2
      all_goals first
        | (go_ret; exact ⟨fewE_no, Below.refl _ _⟩)
        | (go_roundg (l.length - (k + 1))
           case measure => omega
           case rel =>
             refine ⟨k + 1, _, rfl, by go_num, by omega, Lib.hid fun h => ?_, rfl⟩
             obtain ⟨e1, e2⟩ := HX.out (by omega)
             rw [HT.out]
             subst e1
             constructor
             · show wrap64 _ = _
               unfold wrap64
               omega
             · omega)
    · have hke : k = l.length := by omega
      subst hke
      by_cases h6 : l.length ≤ 60
      · obtain ⟨e1, e2⟩ := HX.out h6
        rw [List.take_length] at e1 e2
        by_cases h7 : totD l ≤ 10000
        · have HF := Lib.hid h7
          have h8 : x ≤ 10000 := by omega
          clear e1 e2 h7
          go_wp2
          all_goals (go_ret; exact ⟨⟨_, rfl, fun _ => ⟨h6, HF.out⟩⟩, Below.refl _ _⟩)
        · have h8 : ¬ x ≤ 10000 := by omega
          clear e1 e2 h7
          go_wp2
          all_goals (go_ret; refine ⟨?_, Below.refl _ _⟩; first | exact fewE_no | (exfalso; omega))
      · go_wp2
        all_goals (go_ret; refine ⟨?_, Below.refl _ _⟩; first | exact fewE_no | (exfalso; omega))
set_option maxRecDepth 100000 in
set_option maxHeartbeats 600000 in
theorem Same_calls (A B : Option Addr) (c d : Nat) (l : List Dd) (w : World) (hl : l.length ≤ 100000) (hA : Dds w A l) (hB : Dds w B l) :
    Calls Tryd.prog 16 #[.slice A l.length c, .slice B l.length d] w fun e w' => e = .returned (.bool true) ∧ Below w.heap.size w w' := by
  have HA := Lib.hid hA
  have HB := Lib.hid hB
  clear hA hB
  go_enter Tryd.func16, Tryd.ntmps16
  go_wp2
  go_loopg [5] l.length (fun gh v3 wx => ∃ (k : Nat), v3 = .int .i64 k ∧ k + gh = l.length ∧ Hid (Below w.heap.size w wx))
  case atStart => exact ⟨0, rfl, by omega, Lib.hid (Below.refl _ _)⟩
  case round =>
    obtain ⟨k, rfl, hk, HW⟩ := hrel
    by_cases hlt : k < l.length
    · obtain ⟨b, off, rfl, h0, h1, h2, h3, h4, h5⟩ := HA.out.below HW.out k hlt
      obtain ⟨b2, off2, rfl, g0, g1, g2, g3, g4, g5⟩ := HB.out.below HW.out k hlt
      generalize l[k] = x at *
      go_upto_region 6 with (fail)
      go_quiet (fail)
      go_wp2
      go_roundg (l.length - (k + 1))
      case measure => omega
      case rel => exact ⟨k + 1, by go_num, by omega, Lib.hid (below_drewN HW.out _)⟩
    · go_wp2
      go_ret
      exact ⟨rfl, HW.out⟩
end Go.Proofs.YtkodepckfdpaiaaDoor
