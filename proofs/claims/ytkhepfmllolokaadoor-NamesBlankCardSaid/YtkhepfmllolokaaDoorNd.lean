/- strings.SplitSeq at one byte: its iterator gives the pieces one by one, to whatever rounds keep its three variables; conditions: a string of a length below the model's bound. -/
import Derived.Test.YtkhepfmllolokaaDoorNc
import Derived.Test.YtkhepfmllolokaaDoorNp
import Derived.RangeFuncNested
import Derived.RangeFuncBound
import Derived.RangeFuncCalls
import Derived.RangeFuncLeaves
import Derived.Shelf.Abstract
import Derived.Shelf.RegionOpen
import Derived.OwnWalkIn
import Derived.TacticsInMore
import Derived.LoopNIn
import Derived.LoopIn
import Derived.Sort.LoopGhostIn
namespace Go.Proofs.YtkhepfmllolokaaDoor
set_option linter.unusedSimpArgs false
set_option linter.unusedVariables false
open Go.RowKit Go.Shelf
attribute [local go_sem] Oper.semAt_some
theorem splitSeq1_calls (s : ByteArray) (c : UInt8) (w : World) :
    Calls Tryd.prog 33 #[.string s, .string ⟨#[c]⟩, .int .i64 0] w fun e w' => e = .returned (.func (.func 46) #[] #[.pointer (some ⟨w.heap.size + 1, 0, none⟩), .pointer (some ⟨w.heap.size, 0, none⟩), .pointer (some ⟨w.heap.size + 1 + 1, 0, none⟩)]) ∧
      w' = ((w.alloc (.cells #[.string s] 9)).alloc (.cells #[.string ⟨#[c]⟩] 9)).alloc (.cells #[.int .i64 0] 3) := by
  go_enter Tryd.func33, Tryd.ntmps33
  go_wp2
  go_ret
  exact ⟨rfl, rfl⟩
theorem SplitSeq_calls (s : ByteArray) (c : UInt8) (w : World) :
    Calls Tryd.prog 22 #[.string s, .string ⟨#[c]⟩] w fun e w' => e = .returned (.func (.func 46) #[] #[.pointer (some ⟨w.heap.size + 1, 0, none⟩), .pointer (some ⟨w.heap.size, 0, none⟩), .pointer (some ⟨w.heap.size + 1 + 1, 0, none⟩)]) ∧
      w' = ((w.alloc (.cells #[.string s] 9)).alloc (.cells #[.string ⟨#[c]⟩] 9)).alloc (.cells #[.int .i64 0] 3) := by
  go_enter Tryd.func22, Tryd.ntmps22
  go_wp2_with (go_at_call 33; refine (splitSeq1_calls _ _ _).mono ?_; rintro e w' ⟨rfl, rfl⟩)
  go_ret
  exact ⟨rfl, rfl⟩
/-- Three blocks lie as they lay. -/
def Keep3 (a b c : Nat) (W W' : World) : Prop := W'.heap[a]? = W.heap[a]? ∧ W'.heap[b]? = W.heap[b]? ∧ W'.heap[c]? = W.heap[c]?
theorem Keep3.refl (a b c : Nat) (W : World) : Keep3 a b c W W := ⟨rfl, rfl, rfl⟩
theorem Keep3.trans {a b c : Nat} {W W1 W2 : World} (h : Keep3 a b c W W1) (k : Keep3 a b c W1 W2) : Keep3 a b c W W2 := ⟨k.1.trans h.1, k.2.1.trans h.2.1, k.2.2.trans h.2.2⟩
theorem index_split (c : UInt8) (l : By) : (Lib.indexByte l c = -1 ∧ c ∉ l) ∨ ∃ a b, l = a ++ c :: b ∧ c ∉ a ∧ Lib.indexByte l c = (a.length : Int) := by
  induction l with
  | nil => exact .inl ⟨rfl, by simp⟩
  | cons x l ih =>
    by_cases hx : x = c
    · subst hx
      exact .inr ⟨[], l, rfl, by simp, by simp [Lib.indexByte]⟩
    · have hx' : ¬ c = x := fun e => hx e.symm
      rcases ih with ⟨h1, h2⟩ | ⟨a, b, rfl, h2, h3⟩
      · exact .inl ⟨by simp [Lib.indexByte, hx, h1], by simp [hx', h2]⟩
      · refine .inr ⟨x :: a, b, rfl, by simp [hx', h2], ?_⟩
        have hn : ¬ ((a.length : Int) = -1) := by omega
        simp [Lib.indexByte, hx, h3, hn]
theorem bs_take (s : ByteArray) (k : Nat) : bs (s.extract 0 k) = (bs s).take k := by
  simp [bs, ByteArray.data_extract]
theorem bs_drop (s : ByteArray) (k : Nat) : bs (s.extract k s.size) = (bs s).drop k := by
  have : (bs s).length = s.size := bs_length s
  simp only [bs, ByteArray.data_extract, Array.toList_extract, List.extract_eq_take_drop] at this ⊢
  rw [List.take_of_length_le (by rw [List.length_drop, this]; omega)]
theorem Keep3.blk {a b c : Nat} {W W' : World} (h : Keep3 a b c W W') {cs : Array Value} {t : TypeId} : (Blk W a cs t → Blk W' a cs t) ∧ (Blk W b cs t → Blk W' b cs t) ∧ (Blk W c cs t → Blk W' c cs t) :=
  ⟨fun k => h.1.trans k, fun k => h.2.1.trans k, fun k => h.2.2.trans k⟩
set_option maxRecDepth 100000 in
set_option maxHeartbeats 4000000 in
theorem split_in (n : Nat) (hn : 1 ≤ n) (l bs' bp bv : Nat) (h1 : bs' ≠ bp) (h2 : bs' ≠ bv) (s : ByteArray) (c : UInt8) (hs : s.size ≤ 1000000) (J Jx : List ByteArray → World → Prop)
    (hS : ∀ pre W v, J pre W → J pre (W.setCell ⟨bs', 0, none⟩ v))
    (hY : ∀ pre x W, J pre W → x.size ≤ 1000000 → (∃ rest, splitC c (bs s) = bss (pre ++ [x]) ++ rest) → YieldAt Fence.wide (n - 1) Tryd.prog l #[.string x] W fun e W' =>
      (e = .returned (.bool true) ∧ J (pre ++ [x]) W' ∧ Keep3 bs' bp bv W W') ∨ (e = .returned (.bool false) ∧ Jx (pre ++ [x]) W'))
    (W : World) (hb1 : Blk W bs' #[.string s] 9) (hb2 : Blk W bp #[.string ⟨#[c]⟩] 9) (hb3 : Blk W bv #[.int .i64 0] 3) (h0 : J [] W) :
    CallsIn Fence.wide n Tryd.prog 46 #[.func (.yield l) #[] #[], .pointer (some ⟨bp, 0, none⟩), .pointer (some ⟨bs', 0, none⟩), .pointer (some ⟨bv, 0, none⟩)] W fun e W' => (∃ v, e = .returned v) ∧
      ((∃ xs, bss xs = splitC c (bs s) ∧ J xs W') ∨ (∃ pre rest, splitC c (bs s) = bss pre ++ rest ∧ Jx pre W')) := by
  refine callsIn_of_wp Tryd.func46 rfl trivial ?_ rfl
  simp only [Tryd.ntmps46, List.size_toArray, List.length_cons, List.length_nil, Nat.reduceAdd, Nat.reduceSub, Array.replicate_succ, Array.replicate_zero, List.push_toArray, List.append_toArray, List.nil_append, List.cons_append]
  have c1 := hb1.cell 0
  have c2 := hb2.cell 0
  have c3 := hb3.cell 0
  simp only [List.getElem?_toArray, List.getElem?_cons_zero] at c1 c2 c3
  gi_wp2
  gi_loopg [7] s.size (fun g v7 wr => ∃ (pre : List ByteArray) (r : ByteArray), g = r.size ∧ r.size ≤ 1000000 ∧ Hid (splitC c (bs s) = bss pre ++ splitC c (bs r) ∧ J pre wr ∧ Blk wr bs' #[.string r] 9 ∧ Blk wr bp #[.string ⟨#[c]⟩] 9 ∧ Blk wr bv #[.int .i64 0] 3))
  case atStart => exact ⟨[], s, rfl, hs, Lib.hid ⟨rfl, h0, hb1, hb2, hb3⟩⟩
  case round =>
    clear c1 c2 c3 h0 hb1 hb2 hb3
    obtain ⟨pre, r, rfl, hr, H⟩ := hrel
    have c1 : wr.cell? ⟨bs', 0, none⟩ = some (.string r) := H.out.2.2.1.cell 0
    have c2 : wr.cell? ⟨bp, 0, none⟩ = some (.string ⟨#[c]⟩) := H.out.2.2.2.1.cell 0
    have c3 : wr.cell? ⟨bv, 0, none⟩ = some (.int .i64 0) := H.out.2.2.2.2.cell 0
    have hix := fun w => Tryd.strings_Index_one r c w
    rcases index_split c (bs r) with ⟨e1, e2⟩ | ⟨a, b, e1, e2, e3⟩
    · rw [e1] at hix
      have HE := Lib.hid (And.intro e1 e2)
      clear e1 e2
      obtain ⟨fn, tmps, assign, body, hy, hR⟩ := hY pre r wr H.out.2.1 hr ⟨[], by rw [H.out.1, splitC_no HE.out.2]; simp [bss]⟩
      gi_wp2_with (refine ⟨trivial, ?_⟩; gi_at_call 48; refine (callsIn_wide.2 (hix _)).mono ?_; rintro e w' ⟨rfl, rfl⟩)
      refine hR.mono ?_
      rintro e W3 (⟨rfl, hJ3, hk3⟩ | ⟨rfl, hJx3⟩)
      · gi_wp2
        go_end0
        exact ⟨⟨_, rfl⟩, .inl ⟨pre ++ [r], by rw [H.out.1, splitC_no HE.out.2]; simp [bss], hJ3⟩⟩
      · gi_wp2
        go_end0
        exact ⟨⟨_, rfl⟩, .inr ⟨pre ++ [r], [], by rw [H.out.1, splitC_no HE.out.2]; simp [bss], hJx3⟩⟩
    · rw [e3] at hix
      have hal : a.length < r.size := by rw [← bs_length, e1, List.length_append, List.length_cons]; omega
      have HE := Lib.hid (And.intro e1 e2)
      clear e1 e2 e3
      have HP : Hid (splitC c (bs s) = bss (pre ++ [r.extract 0 a.length]) ++ splitC c (bs (r.extract (a.length + 1) r.size))) := Lib.hid (by
        have e5 : (bs r).take a.length = a := by rw [HE.out.1, List.take_left]
        have e6 : (bs r).drop (a.length + 1) = b := by
          rw [HE.out.1, show a ++ c :: b = (a ++ [c]) ++ b by simp, show a.length + 1 = (a ++ [c]).length by simp, List.drop_left]
        rw [H.out.1, HE.out.1, splitC_app, splitC_no HE.out.2]
        simp only [bss, List.map_append, List.map_cons, List.map_nil, bs_take, bs_drop, e5, e6, List.append_assoc])
      obtain ⟨fn, tmps, assign, body, hy, hR⟩ := hY pre (r.extract 0 a.length) wr H.out.2.1 (by rw [← bs_length, bs_take, List.length_take, bs_length]; omega) ⟨_, HP.out⟩
      gi_wp2_with (refine ⟨trivial, ?_⟩; gi_at_call 48; refine (callsIn_wide.2 (hix _)).mono ?_; rintro e w' ⟨rfl, rfl⟩)
      have hz : (r.extract (a.length + 1) r.size).size = r.size - (a.length + 1) := by rw [← bs_length, bs_drop, List.length_drop, bs_length]
      refine hR.mono ?_
      rintro e W3 (⟨rfl, hJ3, hk3⟩ | ⟨rfl, hJx3⟩)
      · have B1 := hk3.blk.1 H.out.2.2.1
        have B2 := hk3.blk.2.1 H.out.2.2.2.1
        have B3 := hk3.blk.2.2 H.out.2.2.2.2
        have d1 : W3.cell? ⟨bs', 0, none⟩ = some (.string r) := B1.cell 0
        have d2 : W3.cell? ⟨bp, 0, none⟩ = some (.string ⟨#[c]⟩) := B2.cell 0
        have d4 : W3.frozen? ⟨bs', 0, none⟩ = false := B1.frozen 0
        have HB := Lib.hid (And.intro hJ3 (And.intro B1 (And.intro B2 B3)))
        have HZ := Lib.hid hz
        clear hJ3 B1 B2 B3 hk3 hz c1 c2 c3
        gi_wp2
        go_roundg (r.size - (a.length + 1))
        case measure => omega
        case rel =>
          refine ⟨pre ++ [r.extract 0 a.length], r.extract (a.length + 1) r.size, HZ.out.symm, by rw [HZ.out]; omega, Lib.hid ⟨HP.out, hS _ _ _ HB.out.1, HB.out.2.1.set 0 _, HB.out.2.2.1.far (Ne.symm h1) 0 _, HB.out.2.2.2.far (Ne.symm h2) 0 _⟩⟩
      · gi_wp2
        refine bodyPost_ret (results_none rfl _ _ _) rfl ?_
        exact ⟨⟨_, rfl⟩, .inr ⟨pre ++ [r.extract 0 a.length], splitC c (bs (r.extract (a.length + 1) r.size)), HP.out, hJx3⟩⟩
end Go.Proofs.YtkhepfmllolokaaDoor
