/- The law RouteBelow: of all strings of the bound, it answers yes. -/
import Derived.Test.YthdmibjeomhibaaRk
namespace Go.Proofs.Ythdmibjeomhibaa
set_option linter.unusedSimpArgs false
set_option linter.unusedVariables false
open Go.RowKit
theorem cut_mid (a m : List UInt8) : cutB 63 (a ++ 63 :: m) = cutB 63 a := by
  induction a with
  | nil => rfl
  | cons x a ih =>
    rw [cutB, cutB, List.cons_append, List.takeWhile_cons, List.takeWhile_cons]
    cases (x != 63)
    · rfl
    · exact congrArg (x :: ·) ih
theorem cut_whole {a : List UInt8} (h : cutB 63 a = a) (m : List UInt8) : cutB 63 (a ++ m) = a ++ cutB 63 m := by
  have h' : ∀ x ∈ a, (x != 63) = true := by rw [← h]; exact fun x hx => List.all_eq_true.1 (List.all_takeWhile) x hx
  rw [cutB, cutB, List.takeWhile_append_of_pos h']
theorem below_more {a b : List UInt8} (h : cutB 63 a = a) (hb : belowB a b = true) (m : List UInt8) : belowB (a ++ 47 :: m) b = true := by
  rw [belowB, h, belowL, Bool.and_eq_true, List.isPrefixOf_iff_prefix] at hb
  obtain ⟨⟨t, rfl⟩, h2⟩ := hb
  rw [belowB, cut_whole h, List.append_assoc, below_at]
  cases t with
  | nil => 
    have : cutB 63 (47 :: m) = 47 :: cutB 63 m := rfl
    rw [this]; simp
  | cons c t =>
    have hl : ((b ++ c :: t).length == b.length) = false := by rw [beq_eq_false_iff_ne, List.length_append, List.length_cons]; omega
    rw [hl] at h2
    simpa using h2
theorem below_same {a : List UInt8} (h : cutB 63 a = a) : belowB a a = true := by
  have := below_at a []
  rw [List.append_nil] at this
  rw [belowB, h, this]; rfl
theorem bs_append (a b : ByteArray) : bs (a ++ b) = bs a ++ bs b := by
  rw [bs, ByteArray.data_append, Array.toList_append]
theorem below_quest (a b m : ByteArray) (w : World) (ha : a.size ≤ 300) (hb : b.size ≤ 300) (hm : m.size ≤ 300) :
    Calls Try.prog 19 #[.string (a ++ ⟨#[63]⟩ ++ m), .string b] w fun e w' => e = .returned (.bool (belowB (bs a) (bs b))) ∧ ∃ n, w' = w.drewN n := by
  have hs : (a ++ ⟨#[63]⟩ ++ m).size = a.size + 1 + m.size := by rw [ByteArray.size_append, ByteArray.size_append]; rfl
  refine (Below_calls _ b w (by rw [hs, maxLen]; omega) (by rw [maxLen]; omega)).mono ?_
  rintro e w' ⟨rfl, hw⟩
  refine ⟨ret_bool ?_, hw⟩
  rw [bs_append, bs_append, List.append_assoc, show bs ⟨#[63]⟩ ++ bs m = 63 :: bs m from rfl, belowB, cut_mid]; rfl
theorem below_slash (a b m : ByteArray) (w : World) (ha : a.size ≤ 300) (hb : b.size ≤ 300) (hm : m.size ≤ 300) (h1 : cutB 63 (bs a) = bs a) (h2 : belowB (bs a) (bs b) = true) :
    Calls Try.prog 19 #[.string (a ++ ⟨#[47]⟩ ++ m), .string b] w fun e w' => e = .returned (.bool true) ∧ ∃ n, w' = w.drewN n := by
  have hs : (a ++ ⟨#[47]⟩ ++ m).size = a.size + 1 + m.size := by rw [ByteArray.size_append, ByteArray.size_append]; rfl
  refine (Below_calls _ b w (by rw [hs, maxLen]; omega) (by rw [maxLen]; omega)).mono ?_
  rintro e w' ⟨rfl, hw⟩
  refine ⟨ret_bool ?_, hw⟩
  rw [bs_append, bs_append, List.append_assoc, show bs ⟨#[47]⟩ ++ bs m = 47 :: bs m from rfl]; exact below_more h1 h2 _
theorem plain_bool (a : ByteArray) : ((mk (cutB 63 (bs a))).toList == a.toList) = decide (cutB 63 (bs a) = bs a) := by
  rw [str_beq]; exact decide_eq_decide.2 ⟨fun h => by rw [← bs_mk (cutB 63 (bs a)), h], fun h => by rw [h, mk_bs]⟩
set_option maxHeartbeats 2000000 in
theorem RouteBelow_calls (a b m : ByteArray) (w : World) (ha : a.size ≤ 140737488351232) (hb : b.size ≤ 140737488351232) (hm : m.size ≤ 140737488351232) :
    Calls Try.prog 5 #[.string a, .string b, .string m] w fun e w' => e = .returned (.bool true) ∧ Below w.heap.size w w' := by
  by_cases hfew : a.size ≤ 300 ∧ b.size ≤ 300 ∧ m.size ≤ 300
  · obtain ⟨h1, h2, h3⟩ := hfew
    have hq := fun w => below_quest a b m w h1 h2 h3
    have hsl := fun w h => below_slash a b m w h1 h2 h3 h
    have hB := fun w => Below_calls a b w (by rw [maxLen]; omega) (by rw [maxLen]; omega)
    have hR := fun w => refBelow_calls a b w (by rw [maxLen]; omega) (by rw [maxLen]; omega)
    have hP := fun w => plain_calls a w (by rw [maxLen]; omega)
    have hPB := plain_bool a
    have hBA := str_beq b a
    have hself : b = a → cutB 63 (bs a) = bs a → belowB (bs a) (bs b) = true := fun e h => by subst e; exact below_same h
    have HS := Lib.hid hself; clear hself
    generalize mk (cutB 63 (bs a)) = pa at hP hPB
    generalize hpl : cutB 63 (bs a) = ca at *
    have HSL := Lib.hid hsl; clear hsl
    generalize hx : belowB (bs a) (bs b) = x at *
    clear hpl hx
    go_enter Try.func5, Try.ntmps5
    go_upto_region 3 with (go_at_call 10; refine (awake_calls _).mono ?_; rintro e w1 ⟨rfl, hbel⟩)
    have HBEL := Lib.hid hbel; clear hbel
    go_upto_region 4 with (go_at_call 19; refine (hB _).mono ?_; rintro e w' ⟨rfl, n, rfl⟩)
    go_upto_region 6 with (go_at_call 20; refine (hR _).mono ?_; rintro e w' ⟨rfl, rfl⟩)
    clear hB hR
    have HBE : Hid (∀ n, Below w.heap.size w (w1.drewN n)) := Lib.hid fun n => below_drewN HBEL.out n
    have hsz : (a ++ ⟨#[63]⟩ ++ m).size = a.size + 1 + m.size := by rw [ByteArray.size_append, ByteArray.size_append]; rfl
    have hsz2 : (a ++ ⟨#[47]⟩ ++ m).size = a.size + 1 + m.size := by rw [ByteArray.size_append, ByteArray.size_append]; rfl
    by_cases hp : ca = bs a <;> by_cases he : b = a <;> cases x
    all_goals first
      | exact absurd (HS.out he hp) (by decide)
      | (simp only [hp, decide_true, decide_false] at hPB
         first | rw [decide_eq_true he] at hBA | rw [decide_eq_false he] at hBA
         have HP := Lib.hid hp
         have HE := Lib.hid he
         clear hp he
         go_wp2_with (first
           | (go_at_call 19; (with_reducible refine (hq _).mono ?_); rintro e w' ⟨rfl, n, rfl⟩)
           | (go_at_call 21; refine (hP _).mono ?_; rintro e w' ⟨rfl, rfl⟩)
           | (go_at_call 19; refine (HSL.out _ HP.out (by trivial)).mono ?_; rintro e w' ⟨rfl, n, rfl⟩))
         go_ret
         exact ⟨rfl, HBE.out _⟩)
  · go_enter Try.func5, Try.ntmps5
    go_wp2_with (go_at_call 10; refine (awake_calls _).mono ?_; rintro e w1 ⟨rfl, hbel⟩; have HBEL := Lib.hid hbel; clear hbel)
    all_goals first
      | (exfalso; omega)
      | (go_ret; exact ⟨rfl, Below.trans (Hid.out ‹Hid (Below w.heap.size w _)›) (HBEL.out.mono (Below.size (Hid.out ‹Hid (Below w.heap.size w _)›)))⟩)
end Go.Proofs.Ythdmibjeomhibaa
