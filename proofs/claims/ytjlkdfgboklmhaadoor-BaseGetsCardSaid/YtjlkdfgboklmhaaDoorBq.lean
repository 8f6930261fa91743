/- pendentiveref02.Put: bytes as letters, by bits; conditions: at most 1000 bytes. -/
import Derived.Test.YtjlkdfgboklmhaaDoorBp
import Derived.Test.YtjlkdfgboklmhaaDoorBl
import Derived.Laws.Strings2
namespace Go.Proofs.YtjlkdfgboklmhaaDoor
set_option linter.unusedSimpArgs false
set_option linter.unusedVariables false
open Go.RowKit
def icells (l : List Nat) : List Value := l.map fun n : Nat => Value.int .i64 (n : Int)
theorem icells_app (a b : List Nat) : icells (a ++ b) = icells a ++ icells b := List.map_append
theorem info_int : (Tryd.prog.info? 3).map (fun i => (i.zero, i.size, i.bytes)) = some (some (.int .i64 0), 1, 8) := by kernel_rfl
def OwnI (B : Nat) (w : World) (v : Value) (acc : List Nat) : Prop := w.ownsRow B 3 1 v acc.length (icells acc)
theorem OwnI.app1 {w : World} {B : Nat} {vs : Value} {acc : List Nat} (h : OwnI B w vs acc) (ty : TypeId) (g n : Nat) (X : Int) (hX : X = n) (hg : Blk w g #[.int .i64 X] 3) (hl : acc.length ≤ 10000) (hB : B ≤ w.heap.size) :
    ∃ v' w', (Builtin.append_ #[58, 58] ty #[vs, .slice (some ⟨g, 0, none⟩) 1 1]).run Tryd.prog w = .ok v' w' ∧ OwnI B w' v' (acc ++ [n]) ∧ Below B w w' := by
  subst hX
  obtain ⟨i0, hi, hz0, hz1, hz2⟩ := info_parts info_int
  obtain ⟨v', w', hr, ho, hb', hg'⟩ := run_app (P := Tryd.prog) w B 58 ty 3 i0 (.int .i64 0) 1 8 Tryd.underlying58 hi hz0 hz1 hz2 rfl (by decide) vs acc.length (icells acc) h (some ⟨g, 0, none⟩) 1 1 [.int .i64 n] rfl
    (fun j u hj => by
      obtain rfl : j = 0 := by have := (List.getElem?_eq_some_iff.1 hj).1; simp at this; omega
      exact ⟨_, rfl, by rw [Addr.add_lit, hg.cell]; exact hj⟩)
    (fun u hu => by rw [List.mem_singleton] at hu; subst hu; rfl) (by unfold maxLen; omega) (by omega) hB
  refine ⟨v', w', hr, ?_, hb'⟩
  unfold OwnI
  rw [icells_app, List.length_append]
  exact ho
theorem OwnI.al {w : World} {B : Nat} {v : Value} {acc : List Nat} (h : OwnI B w v acc) (o : Obj) : OwnI B (w.alloc o) v acc := owns_al' h o
theorem OwnI.form {w : World} {B : Nat} {v : Value} {acc : List Nat} (h : OwnI B w v acc) : ∃ A c, v = .slice A acc.length c ∧ acc.length ≤ c ∧ c ≤ maxLen ∧ ∀ i (hi : i < acc.length), ∃ b, A = some ⟨b, 0, none⟩ ∧ w.cell? ⟨b, i, none⟩ = some (.int .i64 acc[i]) := by
  rcases h.2 with ⟨rfl, h0⟩ | ⟨g, cap, cur, rfl, hb, hg, hnc, hcm, hcs, htake⟩
  · exact ⟨none, 0, by rw [h0], by omega, Nat.zero_le _, fun i hi => by omega⟩
  · refine ⟨some ⟨g, 0, none⟩, cap, rfl, hnc, hcm, fun i hi => ⟨g, rfl, ?_⟩⟩
    refine (World.ownsRow.cellAt (w := w) (g := g) h i (by omega)).trans ?_
    show (acc.map _)[i]? = _
    rw [List.getElem?_map, List.getElem?_eq_getElem hi]; rfl
theorem OwnI.new (w : World) : OwnI w.heap.size (w.alloc (.cells #[] 3)) (.slice (some ⟨w.heap.size, 0, none⟩) 0 0) [] := World.ownsRow_lit w #[] 0 (Nat.le_refl _) (Nat.zero_le _) rfl
theorem bitsL_take (s : List UInt8) (i : Nat) (h : i < s.length) : bitsL (s.take (i + 1)) = bitsL (s.take i) ++ bits8 s[i].toNat := by
  unfold bitsL
  rw [List.take_succ_eq_append_getElem h, List.flatMap_append]
  simp
theorem bitsL_len (l : List UInt8) : (bitsL l).length = 8 * l.length := by
  induction l with
  | nil => rfl
  | cons x l ih => rw [bitsL, List.flatMap_cons, List.length_append]; unfold bitsL at ih; rw [ih]; simp [bits8]; omega
theorem bitsL_le (l : List UInt8) : ∀ x ∈ bitsL l, x ≤ 1 := fun x hx => by
  obtain ⟨b, _, hb⟩ := List.mem_flatMap.1 hx
  simp only [bits8, List.mem_cons, List.not_mem_nil, or_false] at hb
  rcases hb with rfl | rfl | rfl | rfl | rfl | rfl | rfl | rfl <;> omega
theorem val6_take (l : List Nat) (k : Nat) (h : k < l.length) : val6 (l.take (k + 1)) = 2 * val6 (l.take k) + l[k] := by
  unfold val6
  rw [List.take_succ_eq_append_getElem h, List.foldl_append]; rfl
theorem fold_lt (l : List Nat) : ∀ (n : Nat), (∀ x ∈ l, x ≤ 1) → l.foldl (fun n x => 2 * n + x) n + 1 ≤ (n + 1) * 2 ^ l.length := by
  induction l with
  | nil => intro n _; simp
  | cons x t ih =>
    intro n h
    have h1 := ih (2 * n + x) fun y hy => h y (List.mem_cons_of_mem _ hy)
    have h2 := h x List.mem_cons_self
    rw [List.foldl_cons, List.length_cons, Nat.pow_succ]
    refine Nat.le_trans h1 ?_
    rw [show (n + 1) * (2 ^ t.length * 2) = (2 * n + 2) * 2 ^ t.length by rw [Nat.mul_comm (2 ^ t.length) 2, ← Nat.mul_assoc]; congr 1; omega]
    exact Nat.mul_le_mul_right _ (by omega)
theorem val6_lt (l : List Nat) (h : ∀ x ∈ l, x ≤ 1) : val6 l < 2 ^ l.length := by
  have := fold_lt l 0 h
  unfold val6
  omega
theorem val6_64 (l : List Nat) (h : ∀ x ∈ l, x ≤ 1) (hl : l.length ≤ 6) : val6 l < 64 :=
  Nat.lt_of_lt_of_le (val6_lt l h) (Nat.pow_le_pow_right (by omega) hl)
theorem six_step (l : List Nat) (h : 6 ≤ l.length) : six l = L (val6 (l.take 6)) :: six (l.drop 6) := by
  match l, h with
  | a :: b :: c :: d :: e :: f :: t, _ => rfl
theorem let_all : ∀ n : Fin 64, (⟨#[65, 66, 67, 68, 69, 70, 71, 72, 73, 74, 75, 76, 77, 78, 79, 80, 81, 82, 83, 84, 85, 86, 87, 88, 89, 90, 97, 98, 99, 100, 101, 102, 103, 104, 105, 106, 107, 108, 109, 110, 111, 112, 113, 114, 115, 116, 117, 118, 119, 120, 121, 122, 48, 49, 50, 51, 52, 53, 54, 55, 56, 57, 43, 47]⟩ : ByteArray).extract n.val (n.val + 1) = ⟨#[L n.val]⟩ := by decide +kernel
theorem let_ext (n : Nat) (h : n < 64) : (⟨#[65, 66, 67, 68, 69, 70, 71, 72, 73, 74, 75, 76, 77, 78, 79, 80, 81, 82, 83, 84, 85, 86, 87, 88, 89, 90, 97, 98, 99, 100, 101, 102, 103, 104, 105, 106, 107, 108, 109, 110, 111, 112, 113, 114, 115, 116, 117, 118, 119, 120, 121, 122, 48, 49, 50, 51, 52, 53, 54, 55, 56, 57, 43, 47]⟩ : ByteArray).extract n (n + 1) = ⟨#[L n]⟩ := let_all ⟨n, h⟩
theorem let_slice (n : Nat) (h : n < 64) (w : World) : (Instr.slice 9 (.string ⟨#[65, 66, 67, 68, 69, 70, 71, 72, 73, 74, 75, 76, 77, 78, 79, 80, 81, 82, 83, 84, 85, 86, 87, 88, 89, 90, 97, 98, 99, 100, 101, 102, 103, 104, 105, 106, 107, 108, 109, 110, 111, 112, 113, 114, 115, 116, 117, 118, 119, 120, 121, 122, 48, 49, 50, 51, 52, 53, 54, 55, 56, 57, 43, 47]⟩) (some (.int .i64 (n : Int))) (some (.int .i64 ((n : Int) + 1))) none).run Tryd.prog w = .ok (.string ⟨#[L n]⟩) w := by
  have e := run_slice_string (P := Tryd.prog) w 9 ⟨#[65, 66, 67, 68, 69, 70, 71, 72, 73, 74, 75, 76, 77, 78, 79, 80, 81, 82, 83, 84, 85, 86, 87, 88, 89, 90, 97, 98, 99, 100, 101, 102, 103, 104, 105, 106, 107, 108, 109, 110, 111, 112, 113, 114, 115, 116, 117, 118, 119, 120, 121, 122, 48, 49, 50, 51, 52, 53, 54, 55, 56, 57, 43, 47]⟩ .i64 .i64 (n : Int) ((n : Int) + 1) Tryd.underlying9 (by omega) (by omega) (by show (n : Int) + 1 ≤ ((64 : Nat) : Int); omega)
  rw [e]
  have h1 : ((n : Int) + 1).toNat = n + 1 := by omega
  rw [Int.toNat_natCast, h1, let_ext n h]
theorem lets_pad (l : List UInt8) : ((lets l).length + padN l.length) % 4 = 0 ∧ ∀ p, p < padN l.length → ((lets l).length + p) % 4 ≠ 0 := by
  rw [lets_len]
  unfold padN
  split <;> exact ⟨by omega, fun p hp => by omega⟩
set_option maxRecDepth 100000 in
set_option maxHeartbeats 8000000 in
theorem refPut_calls (s : ByteArray) (w : World) (hs : s.size ≤ 1000) :
    Calls Tryd.prog 14 #[.string s] w fun e w' => e = .returned (.string ⟨(putB (bs s)).toArray⟩) ∧ Below w.heap.size w w' := by
  go_enter Tryd.func14, Tryd.ntmps14
  go_wp2
  go_loopg [3, 4] s.size (fun gh v3 v4 wx => ∃ (i : Nat) (acc : List Nat), v4 = .int .i64 i ∧ i + gh = s.size ∧ Hid (acc = bitsL ((bs s).take i)) ∧ acc.length = 8 * i ∧ Hid (OwnI w.heap.size wx v3 acc ∧ Below w.heap.size w wx))
  case atStart => exact ⟨0, [], rfl, by omega, Lib.hid rfl, rfl, Lib.hid ⟨OwnI.new w, below_alloc1 w _⟩⟩
  case round =>
    obtain ⟨i, acc, rfl, hi, hacc, hal, hx⟩ := hrel
    by_cases hlt : i < s.size
    · go_wp2
      go_loopg [3, 5] 8 (fun gh v3 v5 wx => ∃ (j : Nat) (acc : List Nat), v5 = .int .i64 (7 - (j : Int)) ∧ j + gh = 8 ∧ Hid (acc = bitsL ((bs s).take i) ++ (bits8 s[i].toNat).take j) ∧ acc.length = 8 * i + j ∧ Hid (OwnI w.heap.size wx v3 acc ∧ Below w.heap.size w wx))
      case atStart => exact ⟨0, acc, rfl, by omega, Lib.hid (by rw [hacc.out]; simp), by omega, hx⟩
      case round =>
        clear hx hacc hal
        obtain ⟨j, acc, rfl, hj, hacc, hal, hx⟩ := hrel
        by_cases hj8 : j < 8
        · have hb := u8_lt s[i]
          rcases (by omega : j = 0 ∨ j = 1 ∨ j = 2 ∨ j = 3 ∨ j = 4 ∨ j = 5 ∨ j = 6 ∨ j = 7) with rfl | rfl | rfl | rfl | rfl | rfl | rfl | rfl
          · obtain ⟨nn0, hnn0⟩ : ∃ nn, nn = s[i].toNat / 128 % 2 := ⟨_, rfl⟩
            go_wp2_with (at_builtin
                         refine wpList_app rfl _ _ _ rfl u3 (.slice (some ⟨wr.heap.size, 0, none⟩) 1 1) (by rfl) (by rfl) (OwnI.app1 (hx.out.1.al _) _ wr.heap.size nn0 _ ?h1 (Blk.new' _ _ _ rfl) ?h2 ?h3) ?_
                         case h1 => omega
                         case h2 => omega
                         case h3 => exact (Nat.le_trans hx.out.2.size (below_alloc1 _ _).size)
                         intro v2 w2 hF
                         have HF := Lib.hid hF
                         clear hF)
            go_roundg (8 - (0 + 1))
            case measure => omega
            case rel => exact ⟨1, acc ++ [nn0], rfl, by omega, Lib.hid (by rw [hacc.out, List.append_assoc, hnn0]; rfl), by rw [List.length_append]; show acc.length + 1 = _; omega, Lib.hid ⟨HF.out.1, (hx.out.2.trans ((below_alloc1 _ _).mono hx.out.2.size)).trans HF.out.2⟩⟩
          · obtain ⟨nn1, hnn1⟩ : ∃ nn, nn = s[i].toNat / 64 % 2 := ⟨_, rfl⟩
            go_wp2_with (at_builtin
                         refine wpList_app rfl _ _ _ rfl u3 (.slice (some ⟨wr.heap.size, 0, none⟩) 1 1) (by rfl) (by rfl) (OwnI.app1 (hx.out.1.al _) _ wr.heap.size nn1 _ ?h1 (Blk.new' _ _ _ rfl) ?h2 ?h3) ?_
                         case h1 => omega
                         case h2 => omega
                         case h3 => exact (Nat.le_trans hx.out.2.size (below_alloc1 _ _).size)
                         intro v2 w2 hF
                         have HF := Lib.hid hF
                         clear hF)
            go_roundg (8 - (1 + 1))
            case measure => omega
            case rel => exact ⟨2, acc ++ [nn1], rfl, by omega, Lib.hid (by rw [hacc.out, List.append_assoc, hnn1]; rfl), by rw [List.length_append]; show acc.length + 1 = _; omega, Lib.hid ⟨HF.out.1, (hx.out.2.trans ((below_alloc1 _ _).mono hx.out.2.size)).trans HF.out.2⟩⟩
          · obtain ⟨nn2, hnn2⟩ : ∃ nn, nn = s[i].toNat / 32 % 2 := ⟨_, rfl⟩
            go_wp2_with (at_builtin
                         refine wpList_app rfl _ _ _ rfl u3 (.slice (some ⟨wr.heap.size, 0, none⟩) 1 1) (by rfl) (by rfl) (OwnI.app1 (hx.out.1.al _) _ wr.heap.size nn2 _ ?h1 (Blk.new' _ _ _ rfl) ?h2 ?h3) ?_
                         case h1 => omega
                         case h2 => omega
                         case h3 => exact (Nat.le_trans hx.out.2.size (below_alloc1 _ _).size)
                         intro v2 w2 hF
                         have HF := Lib.hid hF
                         clear hF)
            go_roundg (8 - (2 + 1))
            case measure => omega
            case rel => exact ⟨3, acc ++ [nn2], rfl, by omega, Lib.hid (by rw [hacc.out, List.append_assoc, hnn2]; rfl), by rw [List.length_append]; show acc.length + 1 = _; omega, Lib.hid ⟨HF.out.1, (hx.out.2.trans ((below_alloc1 _ _).mono hx.out.2.size)).trans HF.out.2⟩⟩
          · obtain ⟨nn3, hnn3⟩ : ∃ nn, nn = s[i].toNat / 16 % 2 := ⟨_, rfl⟩
            go_wp2_with (at_builtin
                         refine wpList_app rfl _ _ _ rfl u3 (.slice (some ⟨wr.heap.size, 0, none⟩) 1 1) (by rfl) (by rfl) (OwnI.app1 (hx.out.1.al _) _ wr.heap.size nn3 _ ?h1 (Blk.new' _ _ _ rfl) ?h2 ?h3) ?_
                         case h1 => omega
                         case h2 => omega
                         case h3 => exact (Nat.le_trans hx.out.2.size (below_alloc1 _ _).size)
                         intro v2 w2 hF
                         have HF := Lib.hid hF
                         clear hF)
            go_roundg (8 - (3 + 1))
            case measure => omega
            case rel => exact ⟨4, acc ++ [nn3], rfl, by omega, Lib.hid (by rw [hacc.out, List.append_assoc, hnn3]; rfl), by rw [List.length_append]; show acc.length + 1 = _; omega, Lib.hid ⟨HF.out.1, (hx.out.2.trans ((below_alloc1 _ _).mono hx.out.2.size)).trans HF.out.2⟩⟩
          · obtain ⟨nn4, hnn4⟩ : ∃ nn, nn = s[i].toNat / 8 % 2 := ⟨_, rfl⟩
            go_wp2_with (at_builtin
                         refine wpList_app rfl _ _ _ rfl u3 (.slice (some ⟨wr.heap.size, 0, none⟩) 1 1) (by rfl) (by rfl) (OwnI.app1 (hx.out.1.al _) _ wr.heap.size nn4 _ ?h1 (Blk.new' _ _ _ rfl) ?h2 ?h3) ?_
                         case h1 => omega
                         case h2 => omega
                         case h3 => exact (Nat.le_trans hx.out.2.size (below_alloc1 _ _).size)
                         intro v2 w2 hF
                         have HF := Lib.hid hF
                         clear hF)
            go_roundg (8 - (4 + 1))
            case measure => omega
            case rel => exact ⟨5, acc ++ [nn4], rfl, by omega, Lib.hid (by rw [hacc.out, List.append_assoc, hnn4]; rfl), by rw [List.length_append]; show acc.length + 1 = _; omega, Lib.hid ⟨HF.out.1, (hx.out.2.trans ((below_alloc1 _ _).mono hx.out.2.size)).trans HF.out.2⟩⟩
          · obtain ⟨nn5, hnn5⟩ : ∃ nn, nn = s[i].toNat / 4 % 2 := ⟨_, rfl⟩
            go_wp2_with (at_builtin
                         refine wpList_app rfl _ _ _ rfl u3 (.slice (some ⟨wr.heap.size, 0, none⟩) 1 1) (by rfl) (by rfl) (OwnI.app1 (hx.out.1.al _) _ wr.heap.size nn5 _ ?h1 (Blk.new' _ _ _ rfl) ?h2 ?h3) ?_
                         case h1 => omega
                         case h2 => omega
                         case h3 => exact (Nat.le_trans hx.out.2.size (below_alloc1 _ _).size)
                         intro v2 w2 hF
                         have HF := Lib.hid hF
                         clear hF)
            go_roundg (8 - (5 + 1))
            case measure => omega
            case rel => exact ⟨6, acc ++ [nn5], rfl, by omega, Lib.hid (by rw [hacc.out, List.append_assoc, hnn5]; rfl), by rw [List.length_append]; show acc.length + 1 = _; omega, Lib.hid ⟨HF.out.1, (hx.out.2.trans ((below_alloc1 _ _).mono hx.out.2.size)).trans HF.out.2⟩⟩
          · obtain ⟨nn6, hnn6⟩ : ∃ nn, nn = s[i].toNat / 2 % 2 := ⟨_, rfl⟩
            go_wp2_with (at_builtin
                         refine wpList_app rfl _ _ _ rfl u3 (.slice (some ⟨wr.heap.size, 0, none⟩) 1 1) (by rfl) (by rfl) (OwnI.app1 (hx.out.1.al _) _ wr.heap.size nn6 _ ?h1 (Blk.new' _ _ _ rfl) ?h2 ?h3) ?_
                         case h1 => omega
                         case h2 => omega
                         case h3 => exact (Nat.le_trans hx.out.2.size (below_alloc1 _ _).size)
                         intro v2 w2 hF
                         have HF := Lib.hid hF
                         clear hF)
            go_roundg (8 - (6 + 1))
            case measure => omega
            case rel => exact ⟨7, acc ++ [nn6], rfl, by omega, Lib.hid (by rw [hacc.out, List.append_assoc, hnn6]; rfl), by rw [List.length_append]; show acc.length + 1 = _; omega, Lib.hid ⟨HF.out.1, (hx.out.2.trans ((below_alloc1 _ _).mono hx.out.2.size)).trans HF.out.2⟩⟩
          · obtain ⟨nn7, hnn7⟩ : ∃ nn, nn = s[i].toNat % 2 := ⟨_, rfl⟩
            go_wp2_with (at_builtin
                         refine wpList_app rfl _ _ _ rfl u3 (.slice (some ⟨wr.heap.size, 0, none⟩) 1 1) (by rfl) (by rfl) (OwnI.app1 (hx.out.1.al _) _ wr.heap.size nn7 _ ?h1 (Blk.new' _ _ _ rfl) ?h2 ?h3) ?_
                         case h1 => omega
                         case h2 => omega
                         case h3 => exact (Nat.le_trans hx.out.2.size (below_alloc1 _ _).size)
                         intro v2 w2 hF
                         have HF := Lib.hid hF
                         clear hF)
            go_roundg (8 - (7 + 1))
            case measure => omega
            case rel => exact ⟨8, acc ++ [nn7], rfl, by omega, Lib.hid (by rw [hacc.out, List.append_assoc, hnn7]; rfl), by rw [List.length_append]; show acc.length + 1 = _; omega, Lib.hid ⟨HF.out.1, (hx.out.2.trans ((below_alloc1 _ _).mono hx.out.2.size)).trans HF.out.2⟩⟩
        · obtain rfl : j = 8 := by omega
          go_wp2
          go_roundg (s.size - (i + 1))
          case measure => omega
          case rel => exact ⟨i + 1, acc, by go_num, by omega, Lib.hid (by rw [hacc.out, bitsL_take _ _ (by rw [bs_length]; exact hlt)]; rfl), by omega, hx⟩
    · obtain rfl : i = s.size := by omega
      have hab : acc = bitsL (bs s) := by rw [hacc.out, take_size]
      have HAB := Lib.hid hab
      clear hab hacc
      obtain ⟨N, hN⟩ : ∃ N, N = s.size := ⟨_, rfl⟩
      obtain ⟨Z, hZ⟩ : ∃ Z, Z = zeros6 N := ⟨_, rfl⟩
      have hz1 : (8 * N + Z) % 6 = 0 ∧ Z < 6 ∧ (∀ p, p < Z → (8 * N + p) % 6 ≠ 0) := by
        rw [hZ]; unfold zeros6; exact ⟨by omega, by omega, fun p hp => by omega⟩
      have HZ := Lib.hid (And.intro hZ hN)
      rw [← hN] at hal
      have hN1 : N ≤ 1000 := by omega
      clear hZ hN
      go_wp2
      go_loopg [3] Z (fun gh v3 wx => ∃ (p : Nat) (acc2 : List Nat), p + gh = Z ∧ Hid (acc2 = bitsL (bs s) ++ List.replicate p 0) ∧ acc2.length = 8 * N + p ∧ Hid (OwnI w.heap.size wx v3 acc2 ∧ Below w.heap.size w wx))
      case atStart => exact ⟨0, acc, by omega, Lib.hid (by rw [HAB.out]; simp), by omega, hx⟩
      case round =>
        clear hx hal HAB
        obtain ⟨p, acc2, hp, hacc, hal, hx⟩ := hrel
        obtain ⟨A3, c3, rfl, hc1, hc2, hcl⟩ := hx.out.1.form
        have HCL := Lib.hid (And.intro hc1 (And.intro hc2 hcl))
        clear hc1 hc2 hcl
        by_cases hpz : p < Z
        · have hm := hz1.2.2 p hpz
          have hd : ((acc2.length : Int) % 6 != 0) = true := by rw [bne_iff_ne]; omega
          go_wp2_with (at_builtin
                       refine wpList_app rfl _ _ _ rfl (.slice A3 acc2.length c3) (.slice (some ⟨wr.heap.size, 0, none⟩) 1 1) (by rfl) (by rfl) (OwnI.app1 (hx.out.1.al _) _ wr.heap.size 0 _ ?h1 (Blk.new' _ _ _ rfl) ?h2 ?h3) ?_
                       case h1 => rfl
                       case h2 => omega
                       case h3 => exact (Nat.le_trans hx.out.2.size (below_alloc1 _ _).size)
                       intro v2 w2 hF
                       have HF := Lib.hid hF
                       clear hF)
          go_roundg (Z - (p + 1))
          case measure => omega
          case rel => exact ⟨p + 1, acc2 ++ [0], by omega, Lib.hid (by rw [hacc.out, List.append_assoc, List.replicate_succ']), by rw [List.length_append]; show acc2.length + 1 = _; omega, Lib.hid ⟨HF.out.1, (hx.out.2.trans ((below_alloc1 _ _).mono hx.out.2.size)).trans HF.out.2⟩⟩
        · obtain rfl : p = Z := by omega
          have hd : ((acc2.length : Int) % 6 != 0) = false := by simp; omega
          have HSX : Hid (six acc2 = lets (bs s)) := Lib.hid (by rw [hacc.out, HZ.out.1, HZ.out.2, ← bs_length]; exact six_lets (bs s))
          have hl6 : acc2.length % 6 = 0 := by omega
          have hll : acc2.length ≤ 8010 := by omega
          have HBIT : Hid (∀ x ∈ acc2, x ≤ 1) := Lib.hid fun x hx => by
            rw [hacc.out] at hx
            rcases List.mem_append.1 hx with hx | hx
            · exact bitsL_le _ x hx
            · rw [List.eq_of_mem_replicate hx]; omega
          have HBW := Lib.hid hx.out.2
          clear hacc hz1 hal hpz hx hp
          obtain ⟨W0, hW0⟩ : ∃ W0, W0 = wr := ⟨_, rfl⟩
          rw [← hW0] at HBW HCL ⊢
          clear hW0
          obtain ⟨G, hG⟩ : ∃ G, acc2.length = 6 * G := ⟨acc2.length / 6, by omega⟩
          have hGl : G ≤ 1400 := by omega
          have HG := Lib.hid hG
          clear hG hl6
          go_wp2
          go_loopg [6, 7] G (fun gh v6 v7 wx => ∃ (g q : Nat) (so : ByteArray), v6 = .string so ∧ v7 = .int .i64 q ∧ q = 6 * g ∧ g + gh = G ∧ Hid (bs so ++ six (acc2.drop q) = six acc2) ∧ so.size = g ∧ wx = W0)
          case atStart => exact ⟨0, 0, ⟨#[]⟩, rfl, rfl, rfl, by omega, Lib.hid rfl, rfl, rfl⟩
          case round =>
            obtain ⟨g, q, so, rfl, rfl, hq, hg, hso, hss, rfl⟩ := hrel
            have HQ := Lib.hid hq
            by_cases hgG : g < G
            · have hql : q + 6 ≤ acc2.length := by have := HG.out; omega
              clear hq
              have hqlt : (q : Int) < (acc2.length : Int) := by omega
              go_wp2
              go_loopg [8, 9] 6 (fun gh v8 v9 wx => ∃ (k n : Nat), v9 = .int .i64 k ∧ v8 = .int .i64 n ∧ k + gh = 6 ∧ Hid (n = val6 ((acc2.drop q).take k)) ∧ n < 64 ∧ wx = wr)
              case atStart => exact ⟨0, 0, rfl, rfl, by omega, Lib.hid rfl, by omega, rfl⟩
              case round =>
                obtain ⟨k, n, rfl, rfl, hk, hn, hn64, rfl⟩ := hrel
                by_cases hk6 : k < 6
                · obtain ⟨b, rfl, hc⟩ := HCL.out.2.2 (q + k) (by omega)
                  have hdl : k < (acc2.drop q).length := by rw [List.length_drop]; omega
                  have HVT := Lib.hid (val6_take (acc2.drop q) k hdl)
                  have hxe : (acc2.drop q)[k] = acc2[q + k] := List.getElem_drop ..
                  have hx1 : acc2[q + k] ≤ 1 := HBIT.out _ (List.getElem_mem _)
                  rw [hxe] at HVT
                  generalize acc2[q + k] = xk at hc hx1 HVT
                  clear hxe
                  have i0 : (0 : Int) ≤ (q : Int) + (k : Int) := by omega
                  have i1 : (q : Int) + (k : Int) < (acc2.length : Int) := by omega
                  have i2 : ((q : Int) + (k : Int)).toNat = q + k := by omega
                  go_wp2
                  go_roundg (6 - (k + 1))
                  case measure => omega
                  case rel =>
                    have hv : 2 * n + xk = val6 ((acc2.drop q).take (k + 1)) := by rw [HVT.out, ← hn.out]
                    refine ⟨k + 1, 2 * n + xk, by go_num, by go_num, by omega, Lib.hid hv, ?_, rfl⟩
                    rw [hv]
                    exact val6_64 _ (fun x hx => HBIT.out x (List.mem_of_mem_drop (List.mem_of_mem_take hx))) (by rw [List.length_take]; omega)
                · obtain rfl : k = 6 := by omega
                  have hle := fun w => let_slice n hn64 w
                  have hn0 : (0 : Int) ≤ (n : Int) := Int.natCast_nonneg _
                  have hn1 : (n : Int) + 1 ≤ 64 := by omega
                  have hn2 : ((n : Int) + 1).toNat = n + 1 := by omega
                  have HST := Lib.hid (six_step (acc2.drop q) (by rw [List.length_drop]; omega))
                  have hq1 : (so ++ ⟨#[L n]⟩).size = so.size + 1 := ByteArray.size_append
                  go_wp2
                  go_roundg (G - (g + 1))
                  case measure => omega
                  case rel =>
                    refine ⟨g + 1, q + 6, so ++ ⟨#[L n]⟩, rfl, by go_num, by have := HQ.out; omega, by omega, Lib.hid ?_, by rw [hq1]; omega, rfl⟩
                    rw [bs_app, List.append_assoc, ← hso.out, HST.out, hn.out, List.drop_drop]; rfl
            · obtain rfl : g = G := by omega
              have hbso : bs so = lets (bs s) := by
                have h := hso.out
                rw [List.drop_eq_nil_of_le (by have := HG.out; omega), HSX.out] at h
                rw [← h]; exact (List.append_nil _).symm
              have HBS := Lib.hid hbso
              have hpd := lets_pad (bs s)
              rw [← hbso, bs_length, bs_length] at hpd
              obtain ⟨P, hP⟩ : ∃ P, P = padN s.size := ⟨_, rfl⟩
              rw [← hP] at hpd
              have hP3 : P ≤ 2 := by rw [hP]; unfold padN; omega
              have HPP := Lib.hid hP
              obtain ⟨S0, hS0⟩ : ∃ S0, S0 = so.size := ⟨_, rfl⟩
              rw [← hS0] at hpd
              have HPD := Lib.hid hpd
              have hS1 : S0 ≤ 1400 := by omega
              have hqn : (acc2.length : Int) ≤ (q : Int) := by have := HG.out; omega
              clear hpd hP hso hbso hq HQ
              go_wp2
              go_loopg [6] P (fun gh v6 wx => ∃ (p : Nat) (so2 : ByteArray), v6 = .string so2 ∧ p + gh = P ∧ Hid (bs so2 = lets (bs s) ++ List.replicate p 61) ∧ so2.size = S0 + p ∧ wx = wr)
              case atStart => exact ⟨0, so, rfl, by omega, Lib.hid (by rw [HBS.out]; exact (List.append_nil _).symm), by omega, rfl⟩
              case round =>
                obtain ⟨p, so2, rfl, hp2, hbs2, hsz2, rfl⟩ := hrel
                by_cases hpP : p < P
                · have hm := HPD.out.2 p hpP
                  have hd4 : ((so2.size : Int) % 4 != 0) = true := by rw [bne_iff_ne]; omega
                  have hq1 : (so2 ++ ⟨#[61]⟩).size = so2.size + 1 := ByteArray.size_append
                  go_wp2
                  go_roundg (P - (p + 1))
                  case measure => omega
                  case rel =>
                    refine ⟨p + 1, so2 ++ ⟨#[61]⟩, rfl, by omega, Lib.hid ?_, by rw [hq1]; omega, rfl⟩
                    rw [bs_app, hbs2.out, List.append_assoc, List.replicate_succ']
                · obtain rfl : p = P := by omega
                  have hm := HPD.out.1
                  have hd4 : ((so2.size : Int) % 4 != 0) = false := by simp; omega
                  have HEND : Hid (so2 = ⟨(putB (bs s)).toArray⟩) := Lib.hid (bs_inj (by rw [hbs2.out, HPP.out]; show _ = putB (bs s); rw [put_lets, bs_length]))
                  go_wp2
                  go_ret
                  exact ⟨ret_string HEND.out, HBW.out⟩
end Go.Proofs.YtjlkdfgboklmhaaDoor
