/- Small words for this seat's walks: lists of bytes, strings as lists, slices that are read; no condition. -/
import Derived.Test.YtkodepckfdpaiaaDoorProg
import Derived.Below
import Derived.Deep.Draws
import Derived.WalkKit
import Derived.WalkMore
import Derived.KernelRfl
import Derived.RowKit3
import Derived.Deep.LoopGhost
import Derived.Deep.QuietTactic
import Derived.BigQuiet
import Derived.IntWalk
import Derived.Lib.Hide
import Derived.Outline
namespace Go.Proofs.YtkodepckfdpaiaaDoor
open Go.RowKit
theorem ret_int {k : IntKind} {a b : Int} (h : a = b) : Ending.returned (.int k a) = .returned (.int k b) := by rw [h]
theorem ret_bool {a b : Bool} (h : a = b) : Ending.returned (.bool a) = .returned (.bool b) := by rw [h]
theorem ret_string {a b : ByteArray} (h : a = b) : Ending.returned (.string a) = .returned (.string b) := by rw [h]
/-- The world but for the count of draws. -/
structure Drawn (w w' : World) : Prop where mk :: (out : ∃ n, w' = w.drewN n)
theorem Drawn.refl (w : World) : Drawn w w := ⟨⟨0, rfl⟩⟩
/-- The bytes of a string. -/
abbrev bs (s : ByteArray) : List UInt8 := s.data.toList
theorem toList_bs (s : ByteArray) : s.toList = bs s := ByteArray.toList_eq s
theorem bs_length (s : ByteArray) : (bs s).length = s.size := by rw [bs, Array.length_toList]; rfl
theorem bs_get (s : ByteArray) (k : Nat) (h : k < s.size) : (bs s)[k]'(by rw [bs_length]; exact h) = s[k] := rfl
theorem bs_get? (s : ByteArray) (k : Nat) (h : k < s.size) : (bs s)[k]? = some s[k] := by rw [List.getElem?_eq_getElem (by rw [bs_length]; exact h)]; rfl
theorem take_all {p : UInt8 → Bool} (s : ByteArray) (k : Nat) (h : k < s.size) : ((bs s).take (k + 1)).all p = (((bs s).take k).all p && p s[k]) := by
  rw [List.take_succ_eq_append_getElem (by rw [bs_length]; exact h), List.all_append, List.all_cons, List.all_nil, Bool.and_true]; rfl
theorem take_size (s : ByteArray) : (bs s).take s.size = bs s := List.take_of_length_le (by rw [bs_length]; exact Nat.le_refl _)
theorem all_not {p : UInt8 → Bool} (s : ByteArray) (k : Nat) (h : k < s.size) (hp : p s[k] = false) : (bs s).all p = false := by
  rw [List.all_eq_false]; exact ⟨s[k], List.mem_of_getElem? (bs_get? s k h), by rw [hp]; simp⟩
theorem bs_inj {a b : ByteArray} (h : bs a = bs b) : a = b := by
  cases a with | mk a => cases b with | mk b => exact congrArg ByteArray.mk (Array.toList_inj.1 h)
theorem str_beq (a b : ByteArray) : (a.toList == b.toList) = decide (a = b) := by
  rw [ByteArray.toList_eq, ByteArray.toList_eq]
  by_cases h : a = b
  · subst h; simp
  · rw [decide_eq_false h, beq_eq_false_iff_ne]; exact fun e => h (bs_inj e)
/-- What a slice's cells hold, one cell an element. -/
def Cells1 (w : World) (A : Option Addr) (l : List Value) : Prop := ∀ i x, l[i]? = some x → ∃ b off, A = some ⟨b, off, none⟩ ∧ w.cell? ⟨b, off + i, none⟩ = some x
/-- A slice of strings that is read. -/
def Strs (w : World) (A : Option Addr) (l : List ByteArray) : Prop := ∀ i (h : i < l.length), ∃ b off, A = some ⟨b, off, none⟩ ∧ w.cell? ⟨b, off + i, none⟩ = some (.string l[i])
theorem any_take {α : Type} {p : α → Bool} (l : List α) (k : Nat) (h : k < l.length) : (l.take (k + 1)).any p = ((l.take k).any p || p l[k]) := by
  rw [List.take_succ_eq_append_getElem h, List.any_append, List.any_cons, List.any_nil, Bool.or_false]
theorem all_take {α : Type} {p : α → Bool} (l : List α) (k : Nat) (h : k < l.length) : (l.take (k + 1)).all p = ((l.take k).all p && p l[k]) := by
  rw [List.take_succ_eq_append_getElem h, List.all_append, List.all_cons, List.all_nil, Bool.and_true]
theorem any_yes {α : Type} {p : α → Bool} (l : List α) (k : Nat) (h : k < l.length) (hp : p l[k] = true) : l.any p = true :=
  List.any_eq_true.2 ⟨l[k], List.getElem_mem h, hp⟩
theorem all_no {α : Type} {p : α → Bool} (l : List α) (k : Nat) (h : k < l.length) (hp : p l[k] = false) : l.all p = false := by
  rw [List.all_eq_false]; exact ⟨l[k], List.getElem_mem h, by rw [hp]; simp⟩
end Go.Proofs.YtkodepckfdpaiaaDoor
