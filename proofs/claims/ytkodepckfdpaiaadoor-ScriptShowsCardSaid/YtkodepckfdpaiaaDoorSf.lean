/- What a deed of a kind has; whether a deed has a text, by the program; conditions: strings of lengths that a world can hold. -/
import Derived.Test.YtkodepckfdpaiaaDoorSe
import Derived.Deep.RegionHeld3
namespace Go.Proofs.YtkodepckfdpaiaaDoor
set_option linter.unusedSimpArgs false
set_option linter.unusedVariables false
open Go.RowKit
/-- The library's bound, where it lies. -/
def MaxL (w : World) : Prop := ∃ m, w.cell? ⟨0, 0, none⟩ = some (.int .i64 m)
theorem MaxL.below {w w1 : World} (h : MaxL w) (hb : Below w.heap.size w w1) : MaxL w1 := by
  obtain ⟨m, hm⟩ := h
  exact ⟨m, ((bcell hb).1 0 0 (cell_lt hm)).trans hm⟩
structure Dd where
  k : ByteArray
  i : Int
  s : Int
  n : Int
  o : Bool
  d : ByteArray
  deriving DecidableEq
@[reducible] def Dd.val (d : Dd) : Value := .agg #[.string d.k, .int .i64 d.i, .int .i64 d.s, .int .i64 d.n, .bool d.o, .string d.d]
@[reducible] def Dd.cells (d : Dd) : Array Value := #[.string d.k, .int .i64 d.i, .int .i64 d.s, .int .i64 d.n, .bool d.o, .string d.d]
def Dd.dp (d : Dd) : Dp := ⟨bs d.k, d.i, d.s, d.n, d.o, bs d.d⟩
structure Dd.Ok (d : Dd) : Prop where
  zk : d.k.size ≤ 100000
  zd : d.d.size ≤ 100000
/-- The kinds' row, as it lies. -/
def kindC : Array Value := #[.string ⟨#[97, 99, 99, 101, 112, 116]⟩, .string ⟨#[]⟩, .string ⟨#[102, 101, 101, 100]⟩, .string ⟨#[105, 115, 100]⟩, .string ⟨#[116, 97, 107, 101]⟩, .string ⟨#[105, 115, 110]⟩, .string ⟨#[100, 105, 97, 108, 101, 100]⟩, .string ⟨#[105, 111]⟩, .string ⟨#[116, 105, 99, 107]⟩, .string ⟨#[110]⟩, .string ⟨#[108, 111, 115, 101]⟩, .string ⟨#[105, 115]⟩, .string ⟨#[115, 116, 97, 116, 101]⟩, .string ⟨#[105]⟩]
def kindL : List (ByteArray × ByteArray) := [(⟨#[97, 99, 99, 101, 112, 116]⟩, ⟨#[]⟩), (⟨#[102, 101, 101, 100]⟩, ⟨#[105, 115, 100]⟩), (⟨#[116, 97, 107, 101]⟩, ⟨#[105, 115, 110]⟩), (⟨#[100, 105, 97, 108, 101, 100]⟩, ⟨#[105, 111]⟩), (⟨#[116, 105, 99, 107]⟩, ⟨#[110]⟩), (⟨#[108, 111, 115, 101]⟩, ⟨#[105, 115]⟩), (⟨#[115, 116, 97, 116, 101]⟩, ⟨#[105]⟩)]
theorem kind_eq_calls (a b k : ByteArray) (K : Nat) (w : World) (hk : w.cell? ⟨K, 0, none⟩ = some (.string k)) :
    Calls Tryd.prog 35 #[.agg #[.string a, .string b], .pointer (some ⟨K, 0, none⟩)] w fun e w' => e = .returned (.bool (decide (a = k))) ∧ Below w.heap.size w w' := by
  obtain ⟨W1, hW1⟩ : ∃ W1, W1 = w.alloc (.cells #[.string a, .string b] 63 (0, 0)) := ⟨_, rfl⟩
  have hb : Below w.heap.size w W1 := hW1 ▸ below_alloc1 w _
  have h1 : W1.cell? ⟨K, 0, none⟩ = some (.string k) := ((bcell hb).1 K 0 (cell_lt hk)).trans hk
  have h2 : W1.cell? ⟨w.heap.size, 0, none⟩ = some (.string a) := hW1 ▸ (alloc_cell w _ _ 0).trans rfl
  have hs : (a.toList == k.toList) = decide (a = k) := str_beq a k
  have HB := Lib.hid hb
  generalize decide (a = k) = q at hs ⊢
  clear hb
  go_enter Tryd.func35, Tryd.ntmps35
  go_upto_region 1 with (fail)
  rw [← hW1]
  clear hW1
  go_wp2
  go_ret
  exact ⟨ret_bool rfl, HB.out⟩
/-- A slice of pairs of strings that is read. -/
def Prs (w : World) (A : Option Addr) (l : List (ByteArray × ByteArray)) : Prop := ∀ i (h : i < l.length), ∃ b off, A = some ⟨b, off, none⟩ ∧
  w.cell? ⟨b, off + i * 2, none⟩ = some (.string l[i].1) ∧ w.cell? ⟨b, off + i * 2 + 1, none⟩ = some (.string l[i].2)
theorem Prs.below {w w1 : World} {A : Option Addr} {l : List (ByteArray × ByteArray)} (h : Prs w A l) (hb : Below w.heap.size w w1) : Prs w1 A l := fun i hi => by
  obtain ⟨b, off, e, h1, h2⟩ := h i hi
  have hc := (bcell hb).1 b
  exact ⟨b, off, e, (hc _ (cell_lt h1)).trans h1, (hc _ (cell_lt h2)).trans h2⟩
/-- Where a kind is first. -/
def IdxK (k : ByteArray) (l : List (ByteArray × ByteArray)) (n : Int) : Prop := (n = -1 ∧ ∀ j (h : j < l.length), l[j].1 ≠ k) ∨ (∃ (i : Nat) (h : i < l.length), n = i ∧ l[i].1 = k)
set_option maxHeartbeats 1000000 in
theorem indexK_calls (A : Option Addr) (l : List (ByteArray × ByteArray)) (c K : Nat) (k : ByteArray) (w : World) (hl : l.length ≤ 1000) (hA : Prs w A l) (hk : w.cell? ⟨K, 0, none⟩ = some (.string k)) :
    Calls Tryd.prog 34 #[.slice A l.length c, .func (.func 35) #[] #[.pointer (some ⟨K, 0, none⟩)]] w fun e w' => (∃ n : Int, e = .returned (.int .i64 n) ∧ Hid (IdxK k l n)) ∧ Below w.heap.size w w' := by
  have HA := Lib.hid hA
  have HKK := Lib.hid hk
  have hf := fun (a b : ByteArray) (w' : World) (h : w'.cell? ⟨K, 0, none⟩ = some (.string k)) => kind_eq_calls a b k K w' h
  clear hA hk
  go_enter Tryd.func34, Tryd.ntmps34
  go_wp2
  go_loopg [8] l.length (fun gh v8 wx => ∃ i : Nat, v8 = .int .i64 i ∧ i + gh = l.length ∧ Hid (∀ j (h : j < l.length), j < i → l[j].1 ≠ k) ∧ Hid (Below w.heap.size w wx))
  case atStart => exact ⟨0, rfl, by omega, Lib.hid (fun j _ h => absurd h (Nat.not_lt_zero _)), Lib.hid (Below.refl _ _)⟩
  case round =>
    obtain ⟨i, rfl, hi, HN, HB⟩ := hrel
    by_cases hlt : i < l.length
    · obtain ⟨b, off, rfl, h0, h1⟩ := (HA.out.below HB.out) i hlt
      have hfk := hf l[i].1 l[i].2 wr (((bcell HB.out).1 K 0 (cell_lt HKK.out)).trans HKK.out)
      cases hq : decide (l[i].1 = k)
      all_goals
        have HQ := Lib.hid hq
        rw [hq] at hfk
        clear hq
        go_wp2_with (go_at_call 35; refine hfk.mono ?_; rintro e w' ⟨rfl, hb⟩; replace HB := Lib.hid (bt HB.out hb); clear hb)
        first
          | (go_ret
             exact ⟨⟨_, rfl, Lib.hid (.inr ⟨i, hlt, rfl, of_decide_eq_true HQ.out⟩)⟩, HB.out⟩)
          | (go_roundg (l.length - (i + 1))
             case measure => omega
             case rel => exact ⟨i + 1, by go_num, by omega, Lib.hid (fun j hj hji => by
               rcases Nat.lt_or_ge j i with h | h
               · exact HN.out j hj h
               · obtain rfl : j = i := by omega
                 exact of_decide_eq_false HQ.out), HB⟩)
    · go_wp2
      go_ret
      exact ⟨⟨-1, rfl, Lib.hid (.inl ⟨rfl, fun j hj => HN.out j hj (by omega)⟩)⟩, HB.out⟩
theorem kind_what {k : ByteArray} {n : Int} (h : IdxK k kindL n) : (n = -1 ∧ whatOf (bs k) = none) ∨ (∃ i : Nat, ∃ h : i < kindL.length, n = i ∧ whatOf (bs k) = some (bs (kindL[i]).2)) := by
  rcases h with ⟨rfl, h⟩ | ⟨i, hi, rfl, rfl⟩
  · refine .inl ⟨rfl, ?_⟩
    have hne : ∀ (i : Nat) (hi : i < kindL.length), bs k ≠ bs kindL[i].1 := fun i hi e => h i hi (bs_inj e).symm
    have h0 : bs k ≠ kAccept := hne 0 (by decide)
    have h1 : bs k ≠ kFeed := hne 1 (by decide)
    have h2 : bs k ≠ kTake := hne 2 (by decide)
    have h3 : bs k ≠ kDialed := hne 3 (by decide)
    have h4 : bs k ≠ kTick := hne 4 (by decide)
    have h5 : bs k ≠ kLose := hne 5 (by decide)
    have h6 : bs k ≠ kState := hne 6 (by decide)
    unfold whatOf
    rw [if_neg h0, if_neg h1, if_neg h2, if_neg h3, if_neg h4, if_neg h5, if_neg h6]
  · refine .inr ⟨i, hi, rfl, ?_⟩
    have hall : ∀ i : Fin 7, whatOf (bs (kindL[i.val]'i.isLt).1) = some (bs (kindL[i.val]'i.isLt).2) := by decide +kernel
    exact hall ⟨i, hi⟩
end Go.Proofs.YtkodepckfdpaiaaDoor
