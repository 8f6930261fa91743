/- Bytes as letters by bits, as the document has it: the same letters; no program here. -/
import Derived.Test.YtjlkdfgboklmhaaDoorBk
namespace Go.Proofs.YtjlkdfgboklmhaaDoor
set_option linter.unusedSimpArgs false
set_option linter.unusedVariables false
open Go.RowKit
def bits8 (b : Nat) : List Nat := [b / 128 % 2, b / 64 % 2, b / 32 % 2, b / 16 % 2, b / 8 % 2, b / 4 % 2, b / 2 % 2, b % 2]
def bitsL (l : List UInt8) : List Nat := l.flatMap fun b => bits8 b.toNat
def val6 (xs : List Nat) : Nat := xs.foldl (fun n x => 2 * n + x) 0
def six : List Nat → List UInt8
  | a :: b :: c :: d :: e :: f :: t => L (val6 [a, b, c, d, e, f]) :: six t
  | _ => []
def zeros6 (n : Nat) : Nat := (6 - 8 * n % 6) % 6
theorem v1 (b : Nat) (h : b < 256) : val6 [b / 128 % 2, b / 64 % 2, b / 32 % 2, b / 16 % 2, b / 8 % 2, b / 4 % 2] = b / 4 := by
  simp only [val6, List.foldl_cons, List.foldl_nil]; omega
theorem v2 (a b : Nat) (ha : a < 256) (h : b < 256) : val6 [a / 2 % 2, a % 2, b / 128 % 2, b / 64 % 2, b / 32 % 2, b / 16 % 2] = a % 4 * 16 + b / 16 := by
  simp only [val6, List.foldl_cons, List.foldl_nil]; omega
theorem v3 (b c : Nat) (hb : b < 256) (h : c < 256) : val6 [b / 8 % 2, b / 4 % 2, b / 2 % 2, b % 2, c / 128 % 2, c / 64 % 2] = b % 16 * 4 + c / 64 := by
  simp only [val6, List.foldl_cons, List.foldl_nil]; omega
theorem v4 (c : Nat) (h : c < 256) : val6 [c / 32 % 2, c / 16 % 2, c / 8 % 2, c / 4 % 2, c / 2 % 2, c % 2] = c % 64 := by
  simp only [val6, List.foldl_cons, List.foldl_nil]; omega
theorem six_lets : ∀ l : List UInt8, six (bitsL l ++ List.replicate (zeros6 l.length) 0) = lets l
  | [] => rfl
  | [x] => by
    have hx := u8_lt x
    have e1 := v1 x.toNat hx
    have e2 : val6 [x.toNat / 2 % 2, x.toNat % 2, 0, 0, 0, 0] = x.toNat % 4 * 16 + 0 / 16 := by simp only [val6, List.foldl_cons, List.foldl_nil]; omega
    have ez : zeros6 [x].length = 4 := by simp [zeros6]
    rw [ez]
    show [L (val6 [x.toNat / 128 % 2, x.toNat / 64 % 2, x.toNat / 32 % 2, x.toNat / 16 % 2, x.toNat / 8 % 2, x.toNat / 4 % 2]), L (val6 [x.toNat / 2 % 2, x.toNat % 2, 0, 0, 0, 0])] = _
    rw [e1, e2, lets]
    rw [show (x.toNat * 65536 + 0 * 256 + 0) / 262144 = x.toNat / 4 by omega, show (x.toNat * 65536 + 0 * 256 + 0) / 4096 % 64 = x.toNat % 4 * 16 + 0 / 16 by omega]
  | [x, y] => by
    have hx := u8_lt x
    have hy := u8_lt y
    have e1 := v1 x.toNat hx
    have e2 := v2 x.toNat y.toNat hx hy
    have e3 : val6 [y.toNat / 8 % 2, y.toNat / 4 % 2, y.toNat / 2 % 2, y.toNat % 2, 0, 0] = y.toNat % 16 * 4 + 0 / 64 := by simp only [val6, List.foldl_cons, List.foldl_nil]; omega
    have ez : zeros6 [x, y].length = 2 := by simp [zeros6]
    rw [ez]
    show [L (val6 [x.toNat / 128 % 2, x.toNat / 64 % 2, x.toNat / 32 % 2, x.toNat / 16 % 2, x.toNat / 8 % 2, x.toNat / 4 % 2]), L (val6 [x.toNat / 2 % 2, x.toNat % 2, y.toNat / 128 % 2, y.toNat / 64 % 2, y.toNat / 32 % 2, y.toNat / 16 % 2]),
      L (val6 [y.toNat / 8 % 2, y.toNat / 4 % 2, y.toNat / 2 % 2, y.toNat % 2, 0, 0])] = _
    rw [e1, e2, e3, lets]
    rw [show (x.toNat * 65536 + y.toNat * 256 + 0) / 262144 = x.toNat / 4 by omega, show (x.toNat * 65536 + y.toNat * 256 + 0) / 4096 % 64 = x.toNat % 4 * 16 + y.toNat / 16 by omega, show (x.toNat * 65536 + y.toNat * 256 + 0) / 64 % 64 = y.toNat % 16 * 4 + 0 / 64 by omega]
  | x :: y :: z :: t => by
    have hx := u8_lt x
    have hy := u8_lt y
    have hz := u8_lt z
    have e1 := v1 x.toNat hx
    have e2 := v2 x.toNat y.toNat hx hy
    have e3 := v3 y.toNat z.toNat hy hz
    have e4 := v4 z.toNat hz
    have ih := six_lets t
    have ez : zeros6 (x :: y :: z :: t).length = zeros6 t.length := by unfold zeros6; simp only [List.length_cons]; omega
    rw [ez]
    show L (val6 [x.toNat / 128 % 2, x.toNat / 64 % 2, x.toNat / 32 % 2, x.toNat / 16 % 2, x.toNat / 8 % 2, x.toNat / 4 % 2]) :: L (val6 [x.toNat / 2 % 2, x.toNat % 2, y.toNat / 128 % 2, y.toNat / 64 % 2, y.toNat / 32 % 2, y.toNat / 16 % 2]) ::
      L (val6 [y.toNat / 8 % 2, y.toNat / 4 % 2, y.toNat / 2 % 2, y.toNat % 2, z.toNat / 128 % 2, z.toNat / 64 % 2]) :: L (val6 [z.toNat / 32 % 2, z.toNat / 16 % 2, z.toNat / 8 % 2, z.toNat / 4 % 2, z.toNat / 2 % 2, z.toNat % 2]) ::
      six (bitsL t ++ List.replicate (zeros6 t.length) 0) = _
    rw [e1, e2, e3, e4, ih, lets]
    rw [show (x.toNat * 65536 + y.toNat * 256 + z.toNat) / 262144 = x.toNat / 4 by omega, show (x.toNat * 65536 + y.toNat * 256 + z.toNat) / 4096 % 64 = x.toNat % 4 * 16 + y.toNat / 16 by omega, show (x.toNat * 65536 + y.toNat * 256 + z.toNat) / 64 % 64 = y.toNat % 16 * 4 + z.toNat / 64 by omega, show (x.toNat * 65536 + y.toNat * 256 + z.toNat) % 64 = z.toNat % 64 by omega]
    rfl
end Go.Proofs.YtjlkdfgboklmhaaDoor
