/- Letters as bytes, by bits, as the document has it; no program here. -/
import Derived.Test.YtjlkdfgboklmhaaDoorBr
namespace Go.Proofs.YtjlkdfgboklmhaaDoor
set_option linter.unusedSimpArgs false
set_option linter.unusedVariables false
open Go.RowKit
def numB (c : Nat) : Int := if valB c then valN c else -1
def bits6 (n : Nat) : List Nat := [n / 32 % 2, n / 16 % 2, n / 8 % 2, n / 4 % 2, n / 2 % 2, n % 2]
def bits6L (l : List UInt8) : List Nat := l.flatMap fun b => bits6 (valN b.toNat).toNat
def eight : List Nat → List UInt8
  | a :: b :: c :: d :: e :: f :: g :: h :: t => (val6 [a, b, c, d, e, f, g, h]).toUInt8 :: eight t
  | _ => []
theorem bits6L_let (x : Nat) (h : x < 64) (t : List UInt8) : bits6L (L x :: t) = bits6 x ++ bits6L t := by
  unfold bits6L
  rw [List.flatMap_cons, L_val x h]
set_option maxHeartbeats 4000000 in
theorem eight_lets : ∀ l : List UInt8, eight (bits6L (lets l)) = l
  | [] => rfl
  | [x] => by
    have hx := u8_lt x
    rw [lets, bits6L_let _ (by omega), bits6L_let _ (by omega)]
    generalize hp : (x.toNat * 65536 + 0 * 256 + 0) / 262144 = p
    generalize hq : (x.toNat * 65536 + 0 * 256 + 0) / 4096 % 64 = q
    show [(val6 [p / 32 % 2, p / 16 % 2, p / 8 % 2, p / 4 % 2, p / 2 % 2, p % 2, q / 32 % 2, q / 16 % 2]).toUInt8] = [x]
    rw [u8_of _ x (by simp only [val6, List.foldl_cons, List.foldl_nil]; omega)]
  | [x, y] => by
    have hx := u8_lt x
    have hy := u8_lt y
    rw [lets, bits6L_let _ (by omega), bits6L_let _ (by omega), bits6L_let _ (by omega)]
    generalize hp : (x.toNat * 65536 + y.toNat * 256 + 0) / 262144 = p
    generalize hq : (x.toNat * 65536 + y.toNat * 256 + 0) / 4096 % 64 = q
    generalize hr : (x.toNat * 65536 + y.toNat * 256 + 0) / 64 % 64 = r
    have e1 : 4 * p + q / 16 = x.toNat := by omega
    have e2 : q % 16 * 16 + r / 4 = y.toNat := by omega
    show [(val6 [p / 32 % 2, p / 16 % 2, p / 8 % 2, p / 4 % 2, p / 2 % 2, p % 2, q / 32 % 2, q / 16 % 2]).toUInt8, (val6 [q / 8 % 2, q / 4 % 2, q / 2 % 2, q % 2, r / 32 % 2, r / 16 % 2, r / 8 % 2, r / 4 % 2]).toUInt8] = [x, y]
    rw [u8_of _ x (by simp only [val6, List.foldl_cons, List.foldl_nil]; omega), u8_of _ y (by simp only [val6, List.foldl_cons, List.foldl_nil]; omega)]
  | x :: y :: z :: t => by
    have hx := u8_lt x
    have hy := u8_lt y
    have hz := u8_lt z
    have ih := eight_lets t
    rw [lets]
    show eight (bits6L (L _ :: L _ :: L _ :: L _ :: lets t)) = _
    rw [bits6L_let _ (by omega), bits6L_let _ (by omega), bits6L_let _ (by omega), bits6L_let _ (by omega)]
    generalize hp : (x.toNat * 65536 + y.toNat * 256 + z.toNat) / 262144 = p
    generalize hq : (x.toNat * 65536 + y.toNat * 256 + z.toNat) / 4096 % 64 = q
    generalize hr : (x.toNat * 65536 + y.toNat * 256 + z.toNat) / 64 % 64 = r
    generalize hs : (x.toNat * 65536 + y.toNat * 256 + z.toNat) % 64 = s
    have e1 : 4 * p + q / 16 = x.toNat := by omega
    have e2 : q % 16 * 16 + r / 4 = y.toNat := by omega
    have e3 : r % 4 * 64 + s = z.toNat := by omega
    have b1 : p < 64 ∧ q < 64 ∧ r < 64 ∧ s < 64 := by omega
    clear hp hq hr hs
    show (val6 [p / 32 % 2, p / 16 % 2, p / 8 % 2, p / 4 % 2, p / 2 % 2, p % 2, q / 32 % 2, q / 16 % 2]).toUInt8 :: (val6 [q / 8 % 2, q / 4 % 2, q / 2 % 2, q % 2, r / 32 % 2, r / 16 % 2, r / 8 % 2, r / 4 % 2]).toUInt8 ::
      (val6 [r / 2 % 2, r % 2, s / 32 % 2, s / 16 % 2, s / 8 % 2, s / 4 % 2, s / 2 % 2, s % 2]).toUInt8 :: eight (bits6L (lets t)) = _
    rw [ih, u8_of _ x (by simp only [val6, List.foldl_cons, List.foldl_nil]; omega), u8_of _ y (by simp only [val6, List.foldl_cons, List.foldl_nil]; omega), u8_of _ z (by simp only [val6, List.foldl_cons, List.foldl_nil]; omega)]
/-- A letter that is none ahead of the first sign: the text is none's. -/
theorem get_bad {s : List UInt8} {i : Nat} (hs : s.length ≤ 1000) (hi : i < s.length) (hb : valB s[i].toNat = false) (hn : s[i] ≠ 61) : getB s = none := by
  cases h : getB s with
  | none => rfl
  | some o =>
    exfalso
    have hp := put_get hs h
    rw [put_lets] at hp
    have hm : s[i] ∈ lets o ++ List.replicate (padN o.length) 61 := by rw [hp]; exact List.getElem_mem hi
    rcases List.mem_append.1 hm with hm | hm
    · rw [lets_ok o _ hm] at hb; cases hb
    · exact hn (List.eq_of_mem_replicate hm)
/-- What stands ahead of the first sign. -/
theorem get_body {s o : List UInt8} {i : Nat} (hs : s.length ≤ 1000) (h : getB s = some o) (hi : i ≤ s.length) (hne : ∀ b ∈ s.take i, b ≠ 61) (he : i = s.length ∨ ∃ h : i < s.length, s[i] = 61) : s.take i = lets o := by
  have hp := put_get hs h
  rw [put_lets] at hp
  have hlo := fun b hb => ok_ne b (lets_ok o b hb)
  have hil : i = (lets o).length := by
    rcases Nat.lt_trichotomy i (lets o).length with hlt | heq | hgt
    · exfalso
      have hsl : s.length = (lets o).length + padN o.length := by rw [← hp, List.length_append, List.length_replicate]
      rcases he with he | ⟨h1, he⟩
      · omega
      · have : s[i] = (lets o)[i] := by
          have : (lets o ++ List.replicate (padN o.length) 61)[i]'(by rw [hp]; exact h1) = (lets o)[i] := List.getElem_append_left hlt
          rw [← this]; congr 1; exact hp.symm
        exact hlo _ (List.getElem_mem hlt) (this ▸ he)
    · exact heq
    · exfalso
      have hm : (61 : UInt8) ∈ s.take i := by
        have hsl : s.length = (lets o).length + padN o.length := by rw [← hp, List.length_append, List.length_replicate]
        rw [← hp, List.take_append, List.take_replicate]
        exact List.mem_append_right _ (List.mem_replicate.2 ⟨by omega, rfl⟩)
      exact hne _ hm rfl
  rw [hil, ← hp, List.take_left]
end Go.Proofs.YtjlkdfgboklmhaaDoor
