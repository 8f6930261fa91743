/- Letters are bytes' letters if and only if they are read as those bytes; no program here. -/
import Derived.Test.YtjlkdfgboklmhaaDoorBh
namespace Go.Proofs.YtjlkdfgboklmhaaDoor
set_option linter.unusedSimpArgs false
set_option linter.unusedVariables false
open Go.RowKit
theorem val_let (x : Nat) (h : x < 64) : valN (letN x) = x ∧ valB (letN x) = true := by
  constructor
  · unfold letN valN
    repeat' split
    all_goals omega
  · unfold valB
    simp only [Bool.or_eq_true, decide_eq_true_eq]
    unfold letN
    repeat' split
    all_goals omega
theorem let_val (c : Nat) (h : valB c = true) : letN (valN c).toNat = c := by
  unfold valB at h
  simp only [Bool.or_eq_true, decide_eq_true_eq] at h
  unfold valN
  repeat' split
  all_goals
    unfold letN
    repeat' split
    all_goals omega
/-- The letter of a number. -/
def L (x : Nat) : UInt8 := (letN x).toUInt8
theorem L_val (x : Nat) (h : x < 64) : (valN (L x).toNat).toNat = x := by
  unfold L; rw [u8_let, (val_let x h).1]; rfl
theorem L_ok (x : Nat) (h : x < 64) : valB (L x).toNat = true := by
  unfold L; rw [u8_let]; exact (val_let x h).2
theorem L_of (b : UInt8) (h : valB b.toNat = true) : L (valN b.toNat).toNat = b := by
  apply UInt8.toNat_inj.1
  unfold L
  rw [u8_let]; exact let_val _ h
theorem ok_ne (b : UInt8) (h : valB b.toNat = true) : b ≠ 61 := fun e => by subst e; revert h; decide
/-- The letters of bytes, without the signs at the end. -/
def lets : List UInt8 → List UInt8
  | [] => []
  | [a] => [L ((a.toNat * 65536 + 0 * 256 + 0) / 262144), L ((a.toNat * 65536 + 0 * 256 + 0) / 4096 % 64)]
  | [a, b] => [L ((a.toNat * 65536 + b.toNat * 256 + 0) / 262144), L ((a.toNat * 65536 + b.toNat * 256 + 0) / 4096 % 64), L ((a.toNat * 65536 + b.toNat * 256 + 0) / 64 % 64)]
  | a :: b :: c :: t => [L ((a.toNat * 65536 + b.toNat * 256 + c.toNat) / 262144), L ((a.toNat * 65536 + b.toNat * 256 + c.toNat) / 4096 % 64), L ((a.toNat * 65536 + b.toNat * 256 + c.toNat) / 64 % 64), L ((a.toNat * 65536 + b.toNat * 256 + c.toNat) % 64)] ++ lets t
def padN (n : Nat) : Nat := (3 - n % 3) % 3
theorem put_lets : ∀ l : List UInt8, putB l = lets l ++ List.replicate (padN l.length) 61
  | [] => rfl
  | [a] => by
    rw [putB, lets]; unfold chunk L padN
    simp [List.replicate]
  | [a, b] => by
    rw [putB, lets]; unfold chunk L padN
    simp [List.replicate]
  | a :: b :: c :: t => by
    have ih := put_lets t
    rw [putB, lets, ih, show padN (a :: b :: c :: t).length = padN t.length by unfold padN; simp only [List.length_cons]; omega, List.append_assoc]
    rfl
theorem lets_len : ∀ l : List UInt8, (lets l).length = 4 * (l.length / 3) + (if l.length % 3 = 0 then 0 else l.length % 3 + 1)
  | [] => rfl
  | [a] => by simp [lets]
  | [a, b] => by simp [lets]
  | a :: b :: c :: t => by
    have ih := lets_len t
    rw [lets, List.length_append, ih]
    simp only [List.length_cons, List.length_nil]
    have e1 : (t.length + 1 + 1 + 1) % 3 = t.length % 3 := by omega
    have e2 : (t.length + 1 + 1 + 1) / 3 = t.length / 3 + 1 := by omega
    rw [e1, e2]
    omega
theorem put_len (l : List UInt8) : (putB l).length = 4 * ((l.length + 2) / 3) := by
  rw [put_lets, List.length_append, lets_len, List.length_replicate]
  unfold padN
  split <;> omega
theorem put_size (l : List UInt8) (h : l.length ≤ 1000) : sizeN l.length = (putB l).length := by
  rw [put_len]
  unfold sizeN
  split <;> omega
theorem u8_lt (b : UInt8) : b.toNat < 256 := UInt8.toNat_lt b
theorem u8_of (n : Nat) (b : UInt8) (h : n = b.toNat) : n.toUInt8 = b := by subst h; exact UInt8.ofNat_toNat
theorem lets_ok : ∀ l : List UInt8, ∀ b ∈ lets l, valB b.toNat = true
  | [], b, hb => absurd hb List.not_mem_nil
  | [x], b, hb => by
    have := u8_lt x
    simp only [lets, List.mem_cons, List.not_mem_nil, or_false] at hb
    rcases hb with rfl | rfl
    · exact L_ok _ (by omega)
    · exact L_ok _ (by omega)
  | [x, y], b, hb => by
    have := u8_lt x
    have := u8_lt y
    simp only [lets, List.mem_cons, List.not_mem_nil, or_false] at hb
    rcases hb with rfl | rfl | rfl
    · exact L_ok _ (by omega)
    · exact L_ok _ (by omega)
    · exact L_ok _ (by omega)
  | x :: y :: z :: t, b, hb => by
    have := u8_lt x
    have := u8_lt y
    have := u8_lt z
    rw [lets] at hb
    rcases List.mem_append.1 hb with hb | hb
    · simp only [List.mem_cons, List.not_mem_nil, or_false] at hb
      rcases hb with rfl | rfl | rfl | rfl
      · exact L_ok _ (by omega)
      · exact L_ok _ (by omega)
      · exact L_ok _ (by omega)
      · exact L_ok _ (by omega)
    · exact lets_ok t b hb
theorem trim_pad (A : List UInt8) (k : Nat) (h : ∀ b ∈ A, b ≠ 61) : Lib.trimRightB (A ++ List.replicate k 61) 61 = A := by
  unfold Lib.trimRightB
  rw [List.reverse_append, List.reverse_replicate]
  have h1 : ∀ k, (List.replicate k (61 : UInt8) ++ A.reverse).dropWhile (· == 61) = A.reverse := fun k => by
    induction k with
    | zero =>
      rw [List.replicate_zero, List.nil_append]
      cases hr : A.reverse with
      | nil => rfl
      | cons x t =>
        have hx : x ∈ A := by rw [← List.mem_reverse, hr]; exact List.mem_cons_self
        rw [List.dropWhile_cons, show (x == 61) = false from beq_eq_false_iff_ne.2 (h x hx)]; rfl
    | succ k ih => rw [List.replicate_succ, List.cons_append, List.dropWhile_cons, show ((61 : UInt8) == 61) = true from rfl, if_pos rfl]; exact ih
  rw [h1 k, List.reverse_reverse]
theorem trim_split (s : List UInt8) : ∃ k, s = Lib.trimRightB s 61 ++ List.replicate k 61 := by
  unfold Lib.trimRightB
  have h : ∀ l : List UInt8, ∃ k, l = List.replicate k 61 ++ l.dropWhile (· == 61) := fun l => by
    induction l with
    | nil => exact ⟨0, rfl⟩
    | cons x t ih =>
      rw [List.dropWhile_cons]
      cases hx : (x == 61) with
      | true =>
        obtain ⟨k, hk⟩ := ih
        refine ⟨k + 1, ?_⟩
        rw [if_pos rfl, List.replicate_succ, List.cons_append, ← hk, beq_iff_eq.1 hx]
      | false => exact ⟨0, by simp⟩
  obtain ⟨k, hk⟩ := h s.reverse
  refine ⟨k, ?_⟩
  have := congrArg List.reverse hk
  rw [List.reverse_reverse, List.reverse_append, List.reverse_replicate] at this
  exact this
theorem gfold_app (a b : List UInt8) (st : St) : gfold (a ++ b) st = gfold b (gfold a st) := List.foldl_append ..
theorem gfold_cons (a : UInt8) (b : List UInt8) (st : St) : gfold (a :: b) st = gfold b (gstep (valN a.toNat).toNat st) := rfl
theorem gs0 (x v : Nat) (out : List UInt8) : gstep x (v, 0, out) = (v * 64 + x, 6, out) := rfl
theorem gs6 (x v : Nat) (out : List UInt8) : gstep x (v, 6, out) = ((v * 64 + x) % 16, 4, out ++ [((v * 64 + x) / 16).toUInt8]) := rfl
theorem gs4 (x v : Nat) (out : List UInt8) : gstep x (v, 4, out) = ((v * 64 + x) % 4, 2, out ++ [((v * 64 + x) / 4).toUInt8]) := rfl
theorem gs2 (x v : Nat) (out : List UInt8) : gstep x (v, 2, out) = ((v * 64 + x) % 1, 0, out ++ [((v * 64 + x) / 1).toUInt8]) := rfl
/-- The letters of bytes are read as those bytes. -/
theorem gfold_lets : ∀ (l : List UInt8) (out : List UInt8), (gfold (lets l) (0, 0, out)).1 = 0 ∧ (gfold (lets l) (0, 0, out)).2.2 = out ++ l
  | [], out => ⟨rfl, (List.append_nil _).symm⟩
  | [x], out => by
    have := u8_lt x
    rw [lets, gfold_cons, gfold_cons, L_val _ (by omega), L_val _ (by omega), gs0, gs6]
    refine ⟨by show (_ : Nat) % 16 = 0; omega, ?_⟩
    show out ++ [_] = out ++ [x]
    rw [u8_of _ x (by omega)]
  | [x, y], out => by
    have := u8_lt x
    have := u8_lt y
    rw [lets, gfold_cons, gfold_cons, gfold_cons, L_val _ (by omega), L_val _ (by omega), L_val _ (by omega), gs0, gs6, gs4]
    refine ⟨by show (_ : Nat) % 4 = 0; omega, ?_⟩
    show (out ++ [_]) ++ [_] = out ++ [x, y]
    rw [u8_of _ x (by omega), u8_of _ y (by omega), List.append_assoc]; rfl
  | x :: y :: z :: t, out => by
    have := u8_lt x
    have := u8_lt y
    have := u8_lt z
    have ih := gfold_lets t (out ++ [x, y, z])
    rw [lets, gfold_app, gfold_cons, gfold_cons, gfold_cons, gfold_cons, L_val _ (by omega), L_val _ (by omega), L_val _ (by omega), L_val _ (by omega), gs0, gs6, gs4, gs2,
      u8_of _ x (by omega), u8_of _ y (by omega), u8_of _ z (by omega), Nat.mod_one]
    have e : out ++ [x] ++ [y] ++ [z] = out ++ [x, y, z] := by simp
    show (gfold (lets t) (0, 0, out ++ [x] ++ [y] ++ [z])).1 = 0 ∧ (gfold (lets t) (0, 0, out ++ [x] ++ [y] ++ [z])).2.2 = out ++ (x :: y :: z :: t)
    rw [e]
    refine ⟨ih.1, ih.2.trans ?_⟩
    rw [List.append_assoc]; rfl
theorem get_put (l : List UInt8) (h : l.length ≤ 1000) : getB (putB l) = some l := by
  have ht : Lib.trimRightB (putB l) 61 = lets l := by rw [put_lets]; exact trim_pad _ _ fun b hb => ok_ne b (lets_ok l b hb)
  have hok : okL (lets l) = true := List.all_eq_true.2 fun b hb => lets_ok l b hb
  have hg := gfold_lets l []
  unfold getB
  rw [ht, hok, if_pos (by rw [put_len]; omega), if_pos rfl, hg.2, List.nil_append, if_pos ⟨hg.1, put_size l h⟩]
theorem vx (b : UInt8) (h : valB b.toNat = true) : ∃ x, x < 64 ∧ (valN b.toNat).toNat = x ∧ L x = b := by
  obtain ⟨x, hx, hl⟩ := valN_range (b.toNat : Int)
  exact ⟨x, hl, by rw [hx]; rfl, by have := L_of b h; rw [hx] at this; exact this⟩
theorem u8n (n : Nat) (h : n < 256) : n.toUInt8.toNat = n := by
  show (UInt8.ofNat n).toNat = n
  rw [UInt8.toNat_ofNat']; omega
/-- Letters that are read are those of what they are read as. -/
theorem gfold_back : ∀ (B : List UInt8) (out : List UInt8), (∀ b ∈ B, valB b.toNat = true) → (gfold B (0, 0, out)).1 = 0 →
    (B.length % 4 ≠ 1 → ∃ o, (gfold B (0, 0, out)).2.2 = out ++ o ∧ lets o = B) ∧ (B.length % 4 = 1 → (gfold B (0, 0, out)).2.2.length = out.length + 3 * (B.length / 4))
  | [], out, _, _ => ⟨fun _ => ⟨[], (List.append_nil _).symm, rfl⟩, fun h => by simp at h⟩
  | [p], out, _, _ => ⟨fun h => absurd rfl h, fun _ => by show out.length = out.length + 3 * (1 / 4); omega⟩
  | [p, q], out, hB, h0 => by
    obtain ⟨x, hx, ex, lx⟩ := vx p (hB p (by simp))
    obtain ⟨y, hy, ey, ly⟩ := vx q (hB q (by simp))
    rw [gfold_cons, gfold_cons, ex, ey, gs0, gs6] at h0 ⊢
    have h0' : (((0 * 64 + x) * 64 + y) % 16 : Nat) = 0 := h0
    refine ⟨fun _ => ⟨[(((0 * 64 + x) * 64 + y) / 16).toUInt8], rfl, ?_⟩, fun h => by simp at h⟩
    rw [lets, u8n _ (by omega), ← lx, ← ly]
    rw [show (((0 * 64 + x) * 64 + y) / 16 * 65536 + 0 * 256 + 0) / 262144 = x by omega, show (((0 * 64 + x) * 64 + y) / 16 * 65536 + 0 * 256 + 0) / 4096 % 64 = y by omega]
  | [p, q, r], out, hB, h0 => by
    obtain ⟨x, hx, ex, lx⟩ := vx p (hB p (by simp))
    obtain ⟨y, hy, ey, ly⟩ := vx q (hB q (by simp))
    obtain ⟨z, hz, ez, lz⟩ := vx r (hB r (by simp))
    rw [gfold_cons, gfold_cons, gfold_cons, ex, ey, ez, gs0, gs6, gs4] at h0 ⊢
    have h0' : ((((0 * 64 + x) * 64 + y) % 16 * 64 + z) % 4 : Nat) = 0 := h0
    refine ⟨fun _ => ⟨[(((0 * 64 + x) * 64 + y) / 16).toUInt8, ((((0 * 64 + x) * 64 + y) % 16 * 64 + z) / 4).toUInt8], by show (out ++ [_]) ++ [_] = _; rw [List.append_assoc]; rfl, ?_⟩, fun h => by simp at h⟩
    rw [lets, u8n _ (by omega), u8n _ (by omega), ← lx, ← ly, ← lz]
    rw [show (((0 * 64 + x) * 64 + y) / 16 * 65536 + ((((0 * 64 + x) * 64 + y) % 16 * 64 + z) / 4) * 256 + 0) / 262144 = x by omega,
      show (((0 * 64 + x) * 64 + y) / 16 * 65536 + ((((0 * 64 + x) * 64 + y) % 16 * 64 + z) / 4) * 256 + 0) / 4096 % 64 = y by omega,
      show (((0 * 64 + x) * 64 + y) / 16 * 65536 + ((((0 * 64 + x) * 64 + y) % 16 * 64 + z) / 4) * 256 + 0) / 64 % 64 = z by omega]
  | p :: q :: r :: u :: T, out, hB, h0 => by
    obtain ⟨x, hx, ex, lx⟩ := vx p (hB p (by simp))
    obtain ⟨y, hy, ey, ly⟩ := vx q (hB q (by simp))
    obtain ⟨z, hz, ez, lz⟩ := vx r (hB r (by simp))
    obtain ⟨v, hv, ev, lv⟩ := vx u (hB u (by simp))
    obtain ⟨A, hA⟩ : ∃ A, A = ((0 * 64 + x) * 64 + y) / 16 := ⟨_, rfl⟩
    obtain ⟨C, hC⟩ : ∃ C, C = (((0 * 64 + x) * 64 + y) % 16 * 64 + z) / 4 := ⟨_, rfl⟩
    obtain ⟨D, hD⟩ : ∃ D, D = ((((0 * 64 + x) * 64 + y) % 16 * 64 + z) % 4 * 64 + v) / 1 := ⟨_, rfl⟩
    have e : gfold (p :: q :: r :: u :: T) (0, 0, out) = gfold T (0, 0, out ++ [A.toUInt8, C.toUInt8, D.toUInt8]) := by
      rw [gfold_cons, gfold_cons, gfold_cons, gfold_cons, ex, ey, ez, ev, gs0, gs6, gs4, gs2, Nat.mod_one, ← hA, ← hC, ← hD]
      rw [show out ++ [A.toUInt8] ++ [C.toUInt8] ++ [D.toUInt8] = out ++ [A.toUInt8, C.toUInt8, D.toUInt8] by simp]
    rw [e] at h0 ⊢
    obtain ⟨i1, i2⟩ := gfold_back T (out ++ [A.toUInt8, C.toUInt8, D.toUInt8]) (fun b hb => hB b (by simp [hb])) h0
    have hlen : (p :: q :: r :: u :: T).length = T.length + 4 := rfl
    refine ⟨fun hne => ?_, fun h1 => ?_⟩
    · obtain ⟨o, ho1, ho2⟩ := i1 (by rw [hlen] at hne; omega)
      refine ⟨A.toUInt8 :: C.toUInt8 :: D.toUInt8 :: o, by rw [ho1, List.append_assoc]; rfl, ?_⟩
      rw [lets, u8n A (by omega), u8n C (by omega), u8n D (by omega), ho2, ← lx, ← ly, ← lz, ← lv]
      rw [show (A * 65536 + C * 256 + D) / 262144 = x by omega, show (A * 65536 + C * 256 + D) / 4096 % 64 = y by omega, show (A * 65536 + C * 256 + D) / 64 % 64 = z by omega, show (A * 65536 + C * 256 + D) % 64 = v by omega]
      rfl
    · rw [i2 (by rw [hlen] at h1; omega), List.length_append, hlen]
      simp only [List.length_cons, List.length_nil]
      omega
theorem put_get {s out : List UInt8} (hs : s.length ≤ 1000) (h : getB s = some out) : putB out = s := by
  have hsz := getB_size h
  have hln := getB_len h
  obtain ⟨k, hk⟩ := trim_split s
  have h2 : s.length % 4 = 0 ∧ okL (Lib.trimRightB s 61) = true ∧ (gfold (Lib.trimRightB s 61) (0, 0, [])).1 = 0 ∧ (gfold (Lib.trimRightB s 61) (0, 0, [])).2.2 = out := by
    unfold getB at h
    split at h
    · split at h
      · split at h
        · rename_i a1 a2 a3
          cases h
          exact ⟨a1, a2, a3.1, rfl⟩
        · cases h
      · cases h
    · cases h
  obtain ⟨h4, hok, hz, ho⟩ := h2
  generalize Lib.trimRightB s 61 = B at hk hok hz ho
  obtain ⟨i1, i2⟩ := gfold_back B [] (fun b hb => List.all_eq_true.1 hok b hb) hz
  have hkl : s.length = B.length + k := by rw [hk, List.length_append, List.length_replicate]
  by_cases h1 : B.length % 4 = 1
  · exfalso
    have h3 := i2 h1
    rw [ho] at h3
    simp only [List.length_nil, Nat.zero_add] at h3
    unfold sizeN at hsz
    split at hsz <;> omega
  · obtain ⟨o, ho1, ho2⟩ := i1 h1
    rw [ho, List.nil_append] at ho1
    subst ho1
    have hpl := put_len out
    rw [put_size out (by omega)] at hsz
    have hps : (putB out).length = s.length := by omega
    rw [put_lets, ho2] at hps ⊢
    rw [List.length_append, List.length_replicate] at hps
    rw [hk, show padN out.length = k by omega]
end Go.Proofs.YtjlkdfgboklmhaaDoor
