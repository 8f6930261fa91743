/- Rows of bytes of the call's own; bytes as digits, by the program and by the document; conditions: strings of lengths that a world can hold. -/
import Derived.Test.YtkodepckfdpaiaaDoorGb
import Derived.Test.YtkodepckfdpaiaaDoorGg
import Derived.Test.YtkodepckfdpaiaaDoorSa
import Derived.BigQuiet
import Derived.Deep.RegionLaw
namespace Go.Proofs.YtkodepckfdpaiaaDoor
set_option linter.unusedSimpArgs false
set_option linter.unusedVariables false
open Go.RowKit
theorem mx {n : Nat} (h : n ≤ 100000) : n ≤ maxLen := by unfold maxLen; omega
theorem info_byte : (Tryd.prog.info? 5).map (fun i => (i.zero, i.size, i.bytes)) = some (some (.int .u8 0), 1, 1) := by kernel_rfl
/-- A row of bytes of the call's own. -/
def OwnB (w : World) (base : Nat) (v : Value) (l : List UInt8) : Prop := w.ownsRow base 5 1 v l.length (bcells l)
theorem OwnB.nil (w : World) (base : Nat) : OwnB w base (.slice none 0 0) [] := World.ownsRow_nil _ _ _ _
theorem OwnB.drew1 {w : World} {base : Nat} {v : Value} {l : List UInt8} (h : OwnB w base v l) : OwnB w.drew base v l := h
theorem OwnB.drewN {w : World} {base : Nat} {v : Value} {l : List UInt8} (h : OwnB w base v l) (n : Nat) : OwnB (w.drewN n) base v l := h
theorem OwnB.al {w : World} {base : Nat} {v : Value} {l : List UInt8} (h : OwnB w base v l) (o : Obj) : OwnB (w.alloc o) base v l := owns_al h o
theorem OwnB.form {w : World} {base : Nat} {v : Value} {l : List UInt8} (h : OwnB w base v l) : ∃ A c, v = .slice A l.length c ∧ l.length ≤ c ∧ c ≤ maxLen ∧ Bys w A l := by
  rcases h.2 with ⟨rfl, h0⟩ | ⟨g, cap, cur, rfl, hb, hg, hnc, hcm, hcs, htake⟩
  · refine ⟨none, 0, by rw [h0], by omega, Nat.zero_le _, fun i hi => by omega⟩
  · refine ⟨some ⟨g, 0, none⟩, cap, rfl, hnc, hcm, fun i hi => ⟨g, 0, rfl, ?_⟩⟩
    rw [Nat.zero_add]
    refine (World.ownsRow.cellAt (w := w) (g := g) h i (by omega)).trans ?_
    unfold bcells
    rw [List.getElem?_map, List.getElem?_eq_getElem hi]; rfl
structure AppB (base : Nat) (w : World) (ys : List UInt8) (v' : Value) (w' : World) : Prop where
  own : OwnB w' base v' ys
  be : Below base w w'
theorem OwnB.app {w : World} {base : Nat} {v : Value} {l : List UInt8} (h : OwnB w base v l) (ty : TypeId) (A : Option Addr) (k : List UInt8) (n c : Nat) (hn2 : n = k.length) (hk : Bys w A k) (hn : l.length + k.length ≤ 10000000) (hbase : base ≤ w.heap.size) :
    ∃ v' w', (Builtin.append_ #[49, 49] ty #[v, .slice A n c]).run Tryd.prog w = .ok v' w' ∧ AppB base w (l ++ k) v' w' := by
  subst hn2
  obtain ⟨i0, hi0, hz0, hz1, hz2⟩ := info_parts info_byte
  obtain ⟨v', w', hr, ho, hb, hg⟩ := run_app (P := Tryd.prog) w base 49 ty 5 i0 _ 1 1 Tryd.underlying49 hi0 hz0 hz1 hz2 rfl (by omega) v l.length _ h A k.length c (bcells k) (by simp [bcells])
    (fun j u hj => by
      unfold bcells at hj
      rw [List.getElem?_map, Option.map_eq_some_iff] at hj
      obtain ⟨s, hs, rfl⟩ := hj
      obtain ⟨hjl, rfl⟩ := List.getElem?_eq_some_iff.1 hs
      obtain ⟨b, off, e, hc⟩ := hk j hjl
      exact ⟨_, e, by rw [Addr.add_lit]; exact hc⟩)
    (fun u hu => by obtain ⟨s, _, rfl⟩ := List.mem_map.1 hu; rfl) (by unfold maxLen; omega) (by omega) hbase
  refine ⟨v', w', hr, ?_, hb⟩
  unfold OwnB
  have e : bcells (l ++ k) = bcells l ++ bcells k := List.map_append
  rw [List.length_append, e]
  exact ho
theorem OwnB.new1 (w : World) (c : UInt8) {g base : Nat} (hg : g = w.heap.size) (hb : base ≤ w.heap.size) : OwnB (w.alloc (.cells #[.int .u8 c.toNat] 5 (0, 0))) base (.slice (some ⟨g, 0, none⟩) 1 1) [c] := by
  subst hg; exact World.ownsRow_lit w #[.int .u8 c.toNat] 1 hb (by decide) rfl
theorem hexB_take (s : ByteArray) (k : Nat) (h : k < s.size) : hexB ((bs s).take (k + 1)) = hexB ((bs s).take k) ++ hexC s[k] := by
  unfold hexB
  rw [List.take_succ_eq_append_getElem (by rw [bs_length]; exact h), List.flatMap_append, List.flatMap_cons, List.flatMap_nil, List.append_nil]
  rfl
theorem hexB_len (l : List UInt8) : (hexB l).length = 1 + l.length * 2 := by
  unfold hexB
  induction l with
  | nil => rfl
  | cons c l ih =>
    rw [List.flatMap_cons, List.length_cons, List.length_append]
    simp only [List.length_cons] at ih ⊢
    have : (hexC c).length = 2 := rfl
    omega
theorem hex_at : ∀ n : Fin 16, (#[48, 49, 50, 51, 52, 53, 54, 55, 56, 57, 97, 98, 99, 100, 101, 102] : Array UInt8)[n.val]?.getD 0 = hexD.getD n.val 0 := by decide +kernel
theorem hex_index (i : Int) (n : Nat) (hi : i = n) (h : n < 16) (w : World) : (Instr.index 9 (.string ⟨#[48, 49, 50, 51, 52, 53, 54, 55, 56, 57, 97, 98, 99, 100, 101, 102]⟩) (.int .u8 i)).run Tryd.prog w = .ok (.int .u8 (hexD.getD n 0).toNat) w := by
  subst hi
  rw [run_index_string (P := Tryd.prog) w 9 ⟨#[48, 49, 50, 51, 52, 53, 54, 55, 56, 57, 97, 98, 99, 100, 101, 102]⟩ .u8 (n : Int) Tryd.underlying9]
  have hs : (⟨#[48, 49, 50, 51, 52, 53, 54, 55, 56, 57, 97, 98, 99, 100, 101, 102]⟩ : ByteArray).size = 16 := rfl
  rw [dif_pos ⟨by omega, by rw [hs]; omega⟩]
  have e := hex_at ⟨n, h⟩
  rw [← e]
  have e2 : ((⟨#[48, 49, 50, 51, 52, 53, 54, 55, 56, 57, 97, 98, 99, 100, 101, 102]⟩ : ByteArray)[((n : Int)).toNat]'(by rw [hs]; omega)) = (#[48, 49, 50, 51, 52, 53, 54, 55, 56, 57, 97, 98, 99, 100, 101, 102] : Array UInt8)[n]?.getD 0 := by
    rw [Array.getElem?_eq_getElem (show n < (#[48, 49, 50, 51, 52, 53, 54, 55, 56, 57, 97, 98, 99, 100, 101, 102] : Array UInt8).size from h)]
    rfl
  rw [e2]
theorem bits_and15 : ∀ n : Fin 256, bits BinOp.and IntKind.u8 ((n.val : Nat) : Int) 15 = ((n.val % 16 : Nat) : Int) := by decide +kernel
theorem hexC_def (c : UInt8) : hexC c = [hexD.getD (c.toNat / 16) 0, hexD.getD (c.toNat % 16) 0] := rfl
set_option maxRecDepth 100000 in
set_option maxHeartbeats 1000000 in
theorem hex_calls (s : ByteArray) (w : World) (hs : s.size ≤ 100000) :
    Calls Tryd.prog 31 #[.string s] w fun e w' => e = .returned (.string (mk (hexB (bs s)))) ∧ Below w.heap.size w w' := by
  go_enter Tryd.func31, Tryd.ntmps31
  go_wp2
  go_loopg [3, 8] s.size (fun gh v3 v8 wx => ∃ k : Nat, v8 = .int .i64 k ∧ k + gh = s.size ∧ Hid (OwnB wx w.heap.size v3 (hexB ((bs s).take k)) ∧ Below w.heap.size w wx))
  case atStart => exact ⟨0, rfl, by omega, Lib.hid ⟨OwnB.new1 w 120 rfl (Nat.le_refl _), below_alloc1 _ _⟩⟩
  case round =>
    obtain ⟨k, rfl, hk, HX⟩ := hrel
    by_cases hlt : k < s.size
    · have hc := s[k].toNat_lt
      have hi1 := fun w => hex_index ((s[k].toNat : Int) / 16) (s[k].toNat / 16) (by omega) (by omega) w
      have hi2 := fun w => hex_index (bits BinOp.and IntKind.u8 (s[k].toNat : Int) 15) (s[k].toNat % 16) (bits_and15 ⟨s[k].toNat, hc⟩) (by omega) w
      have HE := Lib.hid (hexB_take s k hlt)
      have HC := Lib.hid (hexC_def s[k])
      have HLN := Lib.hid (hexB_len ((bs s).take k))
      go_upto_region 5 with (fail)
      go_region_law (first
        | (refine step_app (by rfl) _ _ _ (by rfl) u3 (.slice (some ⟨wr.heap.size, 0, none⟩) 2 2) (by rfl) (by rfl) (OwnB.app (HX.out.1.drew1.al _) _ (some ⟨wr.heap.size, 0, none⟩) [hexD.getD (s[k].toNat / 16) 0, hexD.getD (s[k].toNat % 16) 0] 2 2 rfl (bys_blk (Blk.new' wr.drew _ _ rfl) _ rfl) ?h2 ?h3) ?_
           case h2 => have := HLN.out; rw [List.length_take, bs_length] at this; simp only [List.length_cons, List.length_nil]; omega
           case h3 => have := HX.out.2.size; simp; omega
           intro v2 w8 hF8
           have HF := Lib.hid hF8
           clear hF8))
      all_goals
        go_wp2
        go_roundg (s.size - (k + 1))
        case measure => omega
        case rel => exact ⟨k + 1, by go_num, by omega, Lib.hid ⟨by rw [HE.out, HC.out]; exact HF.out.own, (below_al (below_drew1 HX.out.2) _).trans HF.out.be⟩⟩
    · have he : (bs s).take k = bs s := List.take_of_length_le (by rw [bs_length]; omega)
      obtain ⟨A, c, hv, h1, h2, h3⟩ := HX.out.1.form
      rw [he] at hv h1 h3
      subst hv
      have hcs := conv_str c h3
      have HB := Lib.hid HX.out.2
      clear HX h3 he h1
      go_wp2
      go_ret
      exact ⟨rfl, HB.out⟩
end Go.Proofs.YtkodepckfdpaiaaDoor
