/- base.Put: bytes as letters; conditions: the slice can be read, at most 1000 bytes. -/
import Derived.Test.YtjlkdfgboklmhaaDoorBb
import Derived.Test.YtjlkdfgboklmhaaDoorGe
import Derived.Laws.IdiomCopy
namespace Go.Proofs.YtjlkdfgboklmhaaDoor
set_option linter.unusedSimpArgs false
set_option linter.unusedVariables false
open Go.RowKit
/-- A slice of bytes that is read. -/
def Bys (w : World) (A : Option Addr) (l : List UInt8) : Prop := ∀ i (h : i < l.length), ∃ b off, A = some ⟨b, off, none⟩ ∧ w.cell? ⟨b, off + i, none⟩ = some (.int .u8 l[i].toNat)
theorem bys_below {w w1 : World} {A : Option Addr} {l : List UInt8} (h : Bys w A l) (hb : Below w.heap.size w w1) : Bys w1 A l := fun i hi => by
  obtain ⟨b, off, e, hc⟩ := h i hi
  exact ⟨b, off, e, (hb.cell (p := ⟨b, off + i, none⟩) (World.block_lt_of_cell? w _ hc)).trans hc⟩
theorem info_b1 : (Tryd.prog.info? 5).map (·.size) = some 1 := by kernel_rfl
/-- At a step of a region that draws its order: copy. -/
theorem step_copy {P : Program} {w : World} {ops : Array Oper} {o : Oper} {a : Act} {K : Act → World → Prop} {Q : Exit → Act → World → Prop} {E : Prop} {F : Value → World → Prop} (hgd : o.guard = none) (s x : Operand) (t t' : TypeId)
    (ho : o.op = .call { callee := .builtin .copy, args := #[s, x], argTypes := #[t, t'] }) (v u : Value) (hs : a.eval s = v) (hx : a.eval x = u)
    (hr : ∃ v' w', (Builtin.copy_ #[t, t'] o.type #[v, u]).run P w = .ok v' w' ∧ F v' w') (h : ∀ v' w', F v' w' → K (a.put o.dst v') w') :
    if Region.wanted o (yielded ops a.tmps) = true then Oper.wp P o a w K Q else E := by
  have hw : Region.wanted o (yielded ops a.tmps) = true := by simp [Region.wanted, hgd]
  rw [if_pos hw]
  obtain ⟨v', w', hr, hf⟩ := hr
  unfold Oper.wp execOp
  simp only [ho, resolve, invoke, builtin, Sem.run_bind, Sem.run_pure, Result.andThen_ok, List.map_toArray, List.map_cons, List.map_nil, hs, hx, hr]
  exact h v' w' hf
/-- Three bytes, or fewer, are copied into three cells of the call's own. -/
theorem copy_three {w : World} {B g : Nat} (hg : Blk w g #[.int .u8 0, .int .u8 0, .int .u8 0] 44) (hB : B ≤ g) (ty : TypeId) (b off : Nat) (l : List UInt8) (k m c : Nat) (hA : Bys w (some ⟨b, off, none⟩) l) (hk : k < l.length) (hm : m = l.length - k) :
    ∃ v' w', (Builtin.copy_ #[24, 24] ty #[.slice (some ⟨g, 0, none⟩) 3 3, .slice (some ⟨b, off + k, none⟩) m c]).run Tryd.prog w = .ok v' w' ∧
      v' = .int .i64 (Nat.min m 3 : Nat) ∧ Blk w' g #[.int .u8 ((l.drop k).getD 0 0).toNat, .int .u8 ((l.drop k).getD 1 0).toNat, .int .u8 ((l.drop k).getD 2 0).toNat] 44 ∧ Below B w w' := by
  have hc : ∀ j, j < m → w.cell? ⟨b, off + k + j, none⟩ = some (.int .u8 ((l.drop k).getD j 0).toNat) := fun j hj => by
    obtain ⟨b', off', e, h⟩ := hA (k + j) (by omega)
    cases e
    rw [Nat.add_assoc, h, List.getD_eq_getElem?_getD, List.getElem?_drop, List.getElem?_eq_getElem (by omega)]; rfl
  have hr := fun cs hn hsrc hcc hf h1 => run_copy_cells (P := Tryd.prog) w 24 24 ty 5 g 0 3 3 ⟨b, off + k, none⟩ m c cs Tryd.underlying24 info_b1 hn hsrc hcc hf h1
  have hcell : ∀ j, j < 3 → (w.cell? ⟨g, 0 + j, none⟩).isSome = true := fun j hj => by
    rw [hg.cell, Nat.zero_add]
    rcases (by omega : j = 0 ∨ j = 1 ∨ j = 2) with rfl | rfl | rfl <;> rfl
  have hz : ∀ j, m ≤ j → (l.drop k).getD j 0 = 0 := fun j hj => by
    rw [List.getD_eq_getElem?_getD, List.getElem?_eq_none (by rw [List.length_drop]; omega)]; rfl
  have hz0 : (0 : UInt8).toNat = 0 := rfl
  have hone : ∀ n : Nat, (Value.int .u8 (n : Int)).oneCell' = true := fun _ => rfl
  rcases (by omega : m = 1 ∨ m = 2 ∨ 3 ≤ m) with h1 | h2 | h3
  · subst h1
    refine ⟨_, _, hr [.int .u8 ((l.drop k).getD 0 0).toNat] rfl (fun j v hj => ?_) (fun j hj => hcell j (by simp at hj; omega)) (fun j hj => hg.frozen _) (by simp; rfl), rfl, ?_, ?_⟩
    · obtain rfl : j = 0 := by have := (List.getElem?_eq_some_iff.1 hj).1; simp at this; omega
      rw [Addr.add_lit, hc 0 (by omega)]; exact hj
    · rw [hz 1 (by omega), hz 2 (by omega)]
      exact hg.set 0 _
    · exact below_set (Below.refl _ _) hB _ _
  · subst h2
    refine ⟨_, _, hr [.int .u8 ((l.drop k).getD 0 0).toNat, .int .u8 ((l.drop k).getD 1 0).toNat] rfl (fun j v hj => ?_) (fun j hj => hcell j (by simp at hj; omega)) (fun j hj => hg.frozen _) (by simp; exact ⟨rfl, rfl⟩), rfl, ?_, ?_⟩
    · have hlt := (List.getElem?_eq_some_iff.1 hj).1
      simp at hlt
      rw [Addr.add_lit, hc j (by omega)]
      rcases (by omega : j = 0 ∨ j = 1) with rfl | rfl <;> exact hj
    · rw [hz 2 (by omega)]
      exact (hg.set 0 _).set 1 _
    · exact below_set (below_set (Below.refl _ _) hB _ _) hB _ _
  · refine ⟨_, _, hr [.int .u8 ((l.drop k).getD 0 0).toNat, .int .u8 ((l.drop k).getD 1 0).toNat, .int .u8 ((l.drop k).getD 2 0).toNat] (Nat.min_eq_right h3).symm (fun j v hj => ?_) (fun j hj => hcell j (by simp at hj; omega)) (fun j hj => hg.frozen _) (by simp; exact ⟨rfl, rfl, rfl⟩), ?_, ?_, ?_⟩
    · have hlt := (List.getElem?_eq_some_iff.1 hj).1
      simp at hlt
      rw [Addr.add_lit, hc j (by omega)]
      rcases (by omega : j = 0 ∨ j = 1 ∨ j = 2) with rfl | rfl | rfl <;> exact hj
    · rw [show Nat.min m 3 = 3 from Nat.min_eq_right h3]; rfl
    · exact ((hg.set 0 _).set 1 _).set 2 _
    · exact below_set (below_set (below_set (Below.refl _ _) hB _ _) hB _ _) hB _ _
theorem or32 (a b : Nat) (ha : a < 4294967296) (hb : b < 4294967296) : bits .or .u32 (a : Int) (b : Int) = ((a ||| b : Nat) : Int) := by
  have hx : a ||| b < 2 ^ 32 := Nat.or_lt_two_pow (by omega) (by omega)
  have h1 : (BitVec.ofInt 32 (a : Int)).toNat = a := by
    rw [BitVec.ofInt_natCast, BitVec.toNat_ofNat]; exact Nat.mod_eq_of_lt (by omega)
  have h2 : (BitVec.ofInt 32 (b : Int)).toNat = b := by
    rw [BitVec.ofInt_natCast, BitVec.toNat_ofNat]; exact Nat.mod_eq_of_lt (by omega)
  show IntKind.u32.wrap ((BitVec.ofInt 32 (a : Int) ||| BitVec.ofInt 32 (b : Int)).toNat : Int) = _
  rw [BitVec.toNat_or, h1, h2, IntKind.wrap_u32]
  omega
theorem and32 (a b : Nat) (ha : a < 4294967296) (hb : b < 4294967296) : bits .and .u32 (a : Int) (b : Int) = ((a &&& b : Nat) : Int) := by
  have hx : a &&& b < 2 ^ 32 := Nat.and_lt_two_pow _ (by omega)
  have h1 : (BitVec.ofInt 32 (a : Int)).toNat = a := by
    rw [BitVec.ofInt_natCast, BitVec.toNat_ofNat]; exact Nat.mod_eq_of_lt (by omega)
  have h2 : (BitVec.ofInt 32 (b : Int)).toNat = b := by
    rw [BitVec.ofInt_natCast, BitVec.toNat_ofNat]; exact Nat.mod_eq_of_lt (by omega)
  show IntKind.u32.wrap ((BitVec.ofInt 32 (a : Int) &&& BitVec.ofInt 32 (b : Int)).toNat : Int) = _
  rw [BitVec.toNat_and, h1, h2, IntKind.wrap_u32]
  omega
theorem or_add (x b i : Nat) (h : b < 2 ^ i) : x * 2 ^ i ||| b = x * 2 ^ i + b := by
  rw [← Nat.shiftLeft_eq]; exact (Nat.shiftLeft_add_eq_or_of_lt h x).symm
theorem or_one (x0 x1 : Nat) (h0 : x0 < 256) (h1 : x1 < 256) : bits .or .u32 ((x0 : Int) * 65536) ((x1 : Int) * 256) = ((x0 * 65536 + x1 * 256 : Nat) : Int) := by
  have h := or32 (x0 * 65536) (x1 * 256) (by omega) (by omega)
  rw [show x0 * 65536 = x0 * 2 ^ 16 from rfl, or_add x0 (x1 * 256) 16 (by omega)] at h
  exact (by simpa using h)
theorem or_two (x0 x1 x2 : Nat) (h0 : x0 < 256) (h1 : x1 < 256) (h2 : x2 < 256) : bits .or .u32 ((x0 * 65536 + x1 * 256 : Nat) : Int) (x2 : Int) = ((x0 * 65536 + x1 * 256 + x2 : Nat) : Int) := by
  have e : (x0 * 256 + x1) * 2 ^ 8 = x0 * 65536 + x1 * 256 := by omega
  have h := or32 ((x0 * 256 + x1) * 2 ^ 8) x2 (by omega) (by omega)
  rw [or_add (x0 * 256 + x1) x2 8 (by omega), e] at h
  exact h
theorem and_63 (a : Nat) (h : a < 4294967296) : bits .and .u32 (a : Int) 63 = ((a % 64 : Nat) : Int) := by
  have e := and32 a 63 h (by omega)
  rw [show (63 : Nat) = 2 ^ 6 - 1 from rfl, Nat.and_two_pow_sub_one_eq_mod] at e
  exact e
theorem letN_lt (n : Nat) : letN n < 128 := by
  unfold letN
  repeat' split
  all_goals omega
theorem letterI (x : Int) (w : World) (h0 : 0 ≤ x) (h : x < 256) :
    Calls Tryd.prog 18 #[.int .u8 x] w fun e w' => e = .returned (.int .u8 (letN x.toNat)) ∧ w' = w := by
  obtain ⟨n, rfl⟩ := Int.eq_ofNat_of_zero_le h0
  exact letter_calls n w (by omega)
def chunk (a b c : Nat) (m : Nat) : List UInt8 :=
  [(letN ((a * 65536 + b * 256 + c) / 262144)).toUInt8, (letN ((a * 65536 + b * 256 + c) / 4096 % 64)).toUInt8, if 1 < m then (letN ((a * 65536 + b * 256 + c) / 64 % 64)).toUInt8 else 61, if 2 < m then (letN ((a * 65536 + b * 256 + c) % 64)).toUInt8 else 61]
/-- Bytes as letters. -/
def putB : List UInt8 → List UInt8
  | [] => []
  | [a] => chunk a.toNat 0 0 1
  | [a, b] => chunk a.toNat b.toNat 0 2
  | a :: b :: c :: t => chunk a.toNat b.toNat c.toNat 3 ++ putB t
theorem putB_step (l : List UInt8) (k : Nat) (h : k < l.length) : putB (l.drop k) = chunk ((l.drop k).getD 0 0).toNat ((l.drop k).getD 1 0).toNat ((l.drop k).getD 2 0).toNat (Nat.min (l.length - k) 3) ++ putB (l.drop (k + 3)) := by
  have hl : (l.drop k).length = l.length - k := List.length_drop
  rw [show l.drop (k + 3) = (l.drop k).drop 3 by rw [List.drop_drop], ← hl]
  match hd : l.drop k with
  | [] => rw [hd] at hl; simp at hl; omega
  | [a] => simp [putB, Nat.min_def]
  | [a, b] => simp [putB, Nat.min_def]
  | a :: b :: c :: t =>
    have : Nat.min (a :: b :: c :: t).length 3 = 3 := Nat.min_eq_right (by simp)
    rw [this]; simp [putB]
abbrev bcells (l : List UInt8) : List Value := Lib.byteCells l
theorem Builder_str (B b : Nat) (l : List UInt8) (w : World) (h : IsB B b (bcells l) w) (hB : B ≤ w.heap.size) :
    Calls Tryd.prog 20 #[.pointer (some ⟨b, 0, none⟩)] w fun e w' => e = .returned (.string ⟨l.toArray⟩) ∧ Below B w w' := Tryd.Builder_String_any B b l w h hB
theorem u8_let (n : Nat) : ((letN n).toUInt8).toNat = letN n := by
  show (UInt8.ofNat (letN n)).toNat = _
  rw [UInt8.toNat_ofNat']; exact Nat.mod_eq_of_lt (by have := letN_lt n; omega)
theorem chunk1 {x0 x1 x2 v : Nat} (hv : v = x0 * 65536 + x1 * 256 + x2) : bcells (chunk x0 x1 x2 1) = [.int .u8 (letN (v / 262144)), .int .u8 (letN (v / 4096 % 64)), .int .u8 61, .int .u8 61] := by
  subst hv
  show [Value.int .u8 _, Value.int .u8 _, Value.int .u8 _, Value.int .u8 _] = _
  rw [u8_let, u8_let]; rfl
theorem chunk2 {x0 x1 x2 v : Nat} (hv : v = x0 * 65536 + x1 * 256 + x2) : bcells (chunk x0 x1 x2 2) = [.int .u8 (letN (v / 262144)), .int .u8 (letN (v / 4096 % 64)), .int .u8 (letN (v / 64 % 64)), .int .u8 61] := by
  subst hv
  show [Value.int .u8 _, Value.int .u8 _, Value.int .u8 ((if 1 < 2 then _ else _ : UInt8).toNat), Value.int .u8 _] = _
  rw [if_pos (by omega), u8_let, u8_let, u8_let]; rfl
theorem chunk3 {x0 x1 x2 v : Nat} (hv : v = x0 * 65536 + x1 * 256 + x2) : bcells (chunk x0 x1 x2 3) = [.int .u8 (letN (v / 262144)), .int .u8 (letN (v / 4096 % 64)), .int .u8 (letN (v / 64 % 64)), .int .u8 (letN (v % 64))] := by
  subst hv
  show [Value.int .u8 _, Value.int .u8 _, Value.int .u8 ((if 1 < 3 then _ else _ : UInt8).toNat), Value.int .u8 ((if 2 < 3 then _ else _ : UInt8).toNat)] = _
  rw [if_pos (by omega), if_pos (by omega), u8_let, u8_let, u8_let, u8_let]
theorem chunk_len (a b c m : Nat) : (chunk a b c m).length = 4 := rfl
theorem bcells_app (a b : List UInt8) : bcells (a ++ b) = bcells a ++ bcells b := List.map_append
theorem bcells_len (a : List UInt8) : (bcells a).length = a.length := List.length_map _
set_option maxRecDepth 100000 in
set_option maxHeartbeats 4000000 in
theorem Put_calls (A : Option Addr) (l : List UInt8) (c : Nat) (w : World) (hl : l.length ≤ 1000) (hc : l.length ≤ c) (hcm : c ≤ maxLen) (hA : Bys w A l) :
    Calls Tryd.prog 12 #[.slice A l.length c] w fun e w' => e = .returned (.string ⟨(putB l).toArray⟩) ∧ Below w.heap.size w w' := by
  have HA := Lib.hid hA
  clear hA
  unfold maxLen at hcm
  go_enter Tryd.func12, Tryd.ntmps12
  go_wp2
  go_loopg [4] (l.length / 3 + 1) (fun gh v4 wx => ∃ (k : Nat) (acc : List UInt8), v4 = .int .i64 k ∧ k + 3 * gh = 3 * (l.length / 3 + 1) ∧ Hid (acc ++ putB (l.drop k) = putB l ∧ acc.length ≤ 4 * k) ∧ Hid (IsB w.heap.size w.heap.size (bcells acc) wx ∧ Below w.heap.size w wx))
  case atStart => exact ⟨0, [], rfl, by omega, Lib.hid ⟨rfl, Nat.le_refl _⟩, Lib.hid ⟨Lib.fresh_isBuilder _ _ w, below_alloc1 w _⟩⟩
  case round =>
    obtain ⟨k, acc, rfl, hk, hacc, hx⟩ := hrel
    by_cases hlt : k < l.length
    · obtain ⟨b, off, rfl, -⟩ := HA.out k hlt
      have k0 : (0 : Int) ≤ (k : Int) := Int.natCast_nonneg _
      have k1 : (k : Int) ≤ (l.length : Int) := by omega
      have k2 : (k : Int) ≤ (c : Int) := by omega
      have k3 : (c = k) = False := eq_false (by omega)
      go_upto_region 6 with (fail)
      go_region_held3 (fun wx => Hid (Below wr.heap.size wr wx))
        (first
          | assumption
          | exact Lib.hid (below_drew1 (below_al (Below.refl _ _) _)))
        (first
          | (refine step_copy (by rfl) _ _ _ _ (by rfl) (.slice (some ⟨_, 0, none⟩) 3 3) (.slice (some ⟨b, off + k, none⟩) (l.length - k) (c - k)) (by rfl) (by rfl) (copy_three (B := wr.heap.size) (Blk.drew1 (Blk.new' _ _ _ rfl)) (Nat.le_refl _) _ b off l k _ _ (bys_below (bys_below HA.out hx.out.2) (below_drew1 (below_al (Below.refl _ _) _))) hlt rfl) ?_
             intro v2 w2 hF
             obtain ⟨rfl, hblk, hbel⟩ := hF
             have HB2 : Hid (Below wr.heap.size wr w2) := Lib.hid (Below.trans (below_drew1 (below_al (Below.refl _ _) _)) hbel)
             have HBK := Lib.hid hblk
             clear hblk hbel)
          | fail)
      have hst := putB_step l k hlt
      obtain ⟨m, hm⟩ : ∃ m, m = Nat.min (l.length - k) 3 := ⟨_, rfl⟩
      have hm1 : 1 ≤ m ∧ m ≤ 3 := by rw [hm]; exact ⟨Nat.le_min.2 ⟨by omega, by omega⟩, Nat.min_le_right _ _⟩
      rw [← hm] at hst ⊢
      have x0l : ((l.drop k).getD 0 0).toNat < 256 := UInt8.toNat_lt _
      have x1l : ((l.drop k).getD 1 0).toNat < 256 := UInt8.toNat_lt _
      have x2l : ((l.drop k).getD 2 0).toNat < 256 := UInt8.toNat_lt _
      generalize ((l.drop k).getD 0 0).toNat = x0 at *
      generalize ((l.drop k).getD 1 0).toNat = x1 at *
      generalize ((l.drop k).getD 2 0).toNat = x2 at *
      have HST := Lib.hid hst
      clear hst hm
      have t0 : w2.cell? ⟨wr.heap.size, 0, none⟩ = some (.int .u8 x0) := (HBK.out.cell 0).trans rfl
      have t1 : w2.cell? ⟨wr.heap.size, 1, none⟩ = some (.int .u8 x1) := (HBK.out.cell 1).trans rfl
      have t2 : w2.cell? ⟨wr.heap.size, 2, none⟩ = some (.int .u8 x2) := (HBK.out.cell 2).trans rfl
      have o1 := or_one x0 x1 x0l x1l
      have o2 := or_two x0 x1 x2 x0l x1l x2l
      obtain ⟨v, hv⟩ : ∃ v, v = x0 * 65536 + x1 * 256 + x2 := ⟨_, rfl⟩
      have hvl : v < 16777216 := by omega
      rw [← hv] at o2
      generalize x0 * 65536 + x1 * 256 = v01 at o1 o2
      have HV := Lib.hid hv
      clear hv
      have n1 : bits .and .u32 ((v : Int) / 4096) 63 = (v : Int) / 4096 % 64 := by have h := and_63 (v / 4096) (by omega); simpa using h
      have n2 : bits .and .u32 ((v : Int) / 64) 63 = (v : Int) / 64 % 64 := by have h := and_63 (v / 64) (by omega); simpa using h
      have n3 : bits .and .u32 (v : Int) 63 = (v : Int) % 64 := by have h := and_63 v (by omega); simpa using h
      go_upto_region 8 with (fail)
      clear t0 t1 t2 o1 o2 x0l x1l x2l
      obtain rfl | rfl | rfl : m = 1 ∨ m = 2 ∨ m = 3 := by omega
      · go_upto_region 13 with (first | (go_at_call 18; refine (letterI _ _ (by omega) (by omega)).mono ?_; rintro e w' ⟨rfl, hw⟩; rw [hw]; clear hw w'))
        have hwr := Write_calls w.heap.size w.heap.size w2.heap.size (bcells acc) [.int .u8 (letN (v / 262144)), .int .u8 (letN (v / 4096 % 64)), .int .u8 61, .int .u8 61] wr _ 48 hx.out.1 (below_al HB2.out _) HB2.out.size (Blk.new' w2 _ _ rfl) (by intro u hu; simp only [List.mem_cons, List.not_mem_nil, or_false] at hu; rcases hu with rfl | rfl | rfl | rfl <;> rfl) (by rw [bcells_len]; have := hacc.out.2; show acc.length + 4 ≤ _; omega) hx.out.2.size
        have hwr2 : Calls Tryd.prog 19 #[.pointer (some ⟨w.heap.size, 0, none⟩), .slice (some ⟨w2.heap.size, 0, none⟩) 4 4] (w2.alloc (.cells #[.int .u8 (letN (v / 262144)), .int .u8 (letN (v / 4096 % 64)), .int .u8 61, .int .u8 61] 48 (0, 0))) fun e w' => e = .returned (.tuple #[.int .i64 4, .nilIface]) ∧ IsB w.heap.size w.heap.size (bcells (acc ++ chunk x0 x1 x2 1)) w' ∧ Below w.heap.size (w2.alloc (.cells #[.int .u8 (letN (v / 262144)), .int .u8 (letN (v / 4096 % 64)), .int .u8 61, .int .u8 61] 48 (0, 0))) w' := by rw [bcells_app, chunk1 HV.out]; exact hwr
        clear hwr
        go_wp2_with (go_at_call 19; refine hwr2.mono ?_; rintro e w3 ⟨rfl, hib, hb3⟩)
        go_roundg (l.length / 3 + 1 - (k / 3 + 1))
        case measure => omega
        case rel => exact ⟨k + 3, acc ++ chunk x0 x1 x2 1, by go_num, by omega, Lib.hid ⟨by rw [List.append_assoc, ← HST.out]; exact hacc.out.1, by rw [List.length_append, chunk_len]; have := hacc.out.2; omega⟩, Lib.hid ⟨hib, (hx.out.2.trans ((below_al HB2.out _).mono hx.out.2.size)).trans hb3⟩⟩
      · go_upto_region 13 with (first | (go_at_call 18; refine (letterI _ _ (by omega) (by omega)).mono ?_; rintro e w' ⟨rfl, hw⟩; rw [hw]; clear hw w'))
        have hwr := Write_calls w.heap.size w.heap.size w2.heap.size (bcells acc) [.int .u8 (letN (v / 262144)), .int .u8 (letN (v / 4096 % 64)), .int .u8 (letN (v / 64 % 64)), .int .u8 61] wr _ 48 hx.out.1 (below_al HB2.out _) HB2.out.size (Blk.new' w2 _ _ rfl) (by intro u hu; simp only [List.mem_cons, List.not_mem_nil, or_false] at hu; rcases hu with rfl | rfl | rfl | rfl <;> rfl) (by rw [bcells_len]; have := hacc.out.2; show acc.length + 4 ≤ _; omega) hx.out.2.size
        have hwr2 : Calls Tryd.prog 19 #[.pointer (some ⟨w.heap.size, 0, none⟩), .slice (some ⟨w2.heap.size, 0, none⟩) 4 4] (w2.alloc (.cells #[.int .u8 (letN (v / 262144)), .int .u8 (letN (v / 4096 % 64)), .int .u8 (letN (v / 64 % 64)), .int .u8 61] 48 (0, 0))) fun e w' => e = .returned (.tuple #[.int .i64 4, .nilIface]) ∧ IsB w.heap.size w.heap.size (bcells (acc ++ chunk x0 x1 x2 2)) w' ∧ Below w.heap.size (w2.alloc (.cells #[.int .u8 (letN (v / 262144)), .int .u8 (letN (v / 4096 % 64)), .int .u8 (letN (v / 64 % 64)), .int .u8 61] 48 (0, 0))) w' := by rw [bcells_app, chunk2 HV.out]; exact hwr
        clear hwr
        go_wp2_with (go_at_call 19; refine hwr2.mono ?_; rintro e w3 ⟨rfl, hib, hb3⟩)
        go_roundg (l.length / 3 + 1 - (k / 3 + 1))
        case measure => omega
        case rel => exact ⟨k + 3, acc ++ chunk x0 x1 x2 2, by go_num, by omega, Lib.hid ⟨by rw [List.append_assoc, ← HST.out]; exact hacc.out.1, by rw [List.length_append, chunk_len]; have := hacc.out.2; omega⟩, Lib.hid ⟨hib, (hx.out.2.trans ((below_al HB2.out _).mono hx.out.2.size)).trans hb3⟩⟩
      · go_upto_region 13 with (first | (go_at_call 18; refine (letterI _ _ (by omega) (by omega)).mono ?_; rintro e w' ⟨rfl, hw⟩; rw [hw]; clear hw w'))
        have hwr := Write_calls w.heap.size w.heap.size w2.heap.size (bcells acc) [.int .u8 (letN (v / 262144)), .int .u8 (letN (v / 4096 % 64)), .int .u8 (letN (v / 64 % 64)), .int .u8 (letN (v % 64))] wr _ 48 hx.out.1 (below_al HB2.out _) HB2.out.size (Blk.new' w2 _ _ rfl) (by intro u hu; simp only [List.mem_cons, List.not_mem_nil, or_false] at hu; rcases hu with rfl | rfl | rfl | rfl <;> rfl) (by rw [bcells_len]; have := hacc.out.2; show acc.length + 4 ≤ _; omega) hx.out.2.size
        have hwr2 : Calls Tryd.prog 19 #[.pointer (some ⟨w.heap.size, 0, none⟩), .slice (some ⟨w2.heap.size, 0, none⟩) 4 4] (w2.alloc (.cells #[.int .u8 (letN (v / 262144)), .int .u8 (letN (v / 4096 % 64)), .int .u8 (letN (v / 64 % 64)), .int .u8 (letN (v % 64))] 48 (0, 0))) fun e w' => e = .returned (.tuple #[.int .i64 4, .nilIface]) ∧ IsB w.heap.size w.heap.size (bcells (acc ++ chunk x0 x1 x2 3)) w' ∧ Below w.heap.size (w2.alloc (.cells #[.int .u8 (letN (v / 262144)), .int .u8 (letN (v / 4096 % 64)), .int .u8 (letN (v / 64 % 64)), .int .u8 (letN (v % 64))] 48 (0, 0))) w' := by rw [bcells_app, chunk3 HV.out]; exact hwr
        clear hwr
        go_wp2_with (go_at_call 19; refine hwr2.mono ?_; rintro e w3 ⟨rfl, hib, hb3⟩)
        go_roundg (l.length / 3 + 1 - (k / 3 + 1))
        case measure => omega
        case rel => exact ⟨k + 3, acc ++ chunk x0 x1 x2 3, by go_num, by omega, Lib.hid ⟨by rw [List.append_assoc, ← HST.out]; exact hacc.out.1, by rw [List.length_append, chunk_len]; have := hacc.out.2; omega⟩, Lib.hid ⟨hib, (hx.out.2.trans ((below_al HB2.out _).mono hx.out.2.size)).trans hb3⟩⟩
    · have hz : putB (l.drop k) = [] := by rw [List.drop_eq_nil_of_le (by omega)]; rfl
      have he : acc = putB l := by have h := hacc.out.1; rw [hz, List.append_nil] at h; exact h
      have HX := Lib.hid (Builder_str w.heap.size w.heap.size acc wr hx.out.1 hx.out.2.size)
      rw [he] at HX
      go_wp2_with (go_at_call 20; refine HX.out.mono ?_; rintro e w3 ⟨rfl, hb3⟩)
      go_ret
      exact ⟨rfl, hx.out.2.trans hb3⟩
end Go.Proofs.YtjlkdfgboklmhaaDoor
