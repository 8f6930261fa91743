/- What the chapter's example fixes holds: the walk; condition: the library's bound lies where it is laid. -/
import Derived.Test.YtknfoolcbfmpaaaDoorHn
namespace Go.Proofs.YtknfoolcbfmpaaaDoor
set_option linter.unusedSimpArgs false
set_option linter.unusedVariables false
open Go.RowKit
set_option maxRecDepth 100000 in
theorem ex_cells (w : World) : Bys (w.alloc (.cells #[.int .u8 71, .int .u8 69, .int .u8 84, .int .u8 32, .int .u8 47, .int .u8 32, .int .u8 72, .int .u8 84, .int .u8 84, .int .u8 80, .int .u8 47, .int .u8 49, .int .u8 46, .int .u8 49, .int .u8 13, .int .u8 10, .int .u8 72, .int .u8 111, .int .u8 115, .int .u8 116, .int .u8 58, .int .u8 32, .int .u8 97, .int .u8 13, .int .u8 10, .int .u8 13, .int .u8 10, .int .u8 109, .int .u8 111, .int .u8 114, .int .u8 101] 5 (31, 32))) (some ⟨w.heap.size, 0, none⟩) exB := fun i hi => by
  refine ⟨w.heap.size, 0, rfl, ?_⟩
  rw [Nat.zero_add]
  refine (World.cell?_alloc_mark w _ _ _ i).trans ?_
  have h : #[.int .u8 71, .int .u8 69, .int .u8 84, .int .u8 32, .int .u8 47, .int .u8 32, .int .u8 72, .int .u8 84, .int .u8 84, .int .u8 80, .int .u8 47, .int .u8 49, .int .u8 46, .int .u8 49, .int .u8 13, .int .u8 10, .int .u8 72, .int .u8 111, .int .u8 115, .int .u8 116, .int .u8 58, .int .u8 32, .int .u8 97, .int .u8 13, .int .u8 10, .int .u8 13, .int .u8 10, .int .u8 109, .int .u8 111, .int .u8 114, .int .u8 101] = (bcells exB).toArray := rfl
  rw [h, List.getElem?_toArray]
  unfold bcells
  rw [List.getElem?_map, List.getElem?_eq_getElem hi]; rfl
set_option maxRecDepth 100000 in
theorem ex_str {w : World} {A : Option Addr} (c : Nat) (h : Bys w A exT) : (convert 28 9 (.slice A 27 c)).run Tryd.prog w = .ok (.string ⟨#[71, 69, 84, 32, 47, 32, 72, 84, 84, 80, 47, 49, 46, 49, 13, 10, 72, 111, 115, 116, 58, 32, 97, 13, 10, 13, 10]⟩) w := conv_str c h
set_option maxRecDepth 100000 in
set_option maxHeartbeats 4000000 in
theorem awake_calls (w : World) (hm : MaxL w) : Calls Tryd.prog 11 #[] w fun e w' => e = .returned (.bool true) ∧ Below w.heap.size w w' := by
  have s1 : (⟨#[71, 69, 84]⟩ : ByteArray).toList = [71, 69, 84] := by rw [toList_bs]
  have s2 : (⟨#[47]⟩ : ByteArray).toList = [47] := by rw [toList_bs]
  have s3 : (⟨#[72, 84, 84, 80, 47, 49, 46, 49]⟩ : ByteArray).toList = [72, 84, 84, 80, 47, 49, 46, 49] := by rw [toList_bs]
  have s4 : (⟨#[71, 69, 84, 32, 47, 32, 72, 84, 84, 80, 47, 49, 46, 49, 13, 10, 72, 111, 115, 116, 58, 32, 97, 13, 10, 13, 10]⟩ : ByteArray).toList = [71, 69, 84, 32, 47, 32, 72, 84, 84, 80, 47, 49, 46, 49, 13, 10, 72, 111, 115, 116, 58, 32, 97, 13, 10, 13, 10] := by rw [toList_bs]
  have HB0 := Lib.hid (below_alloc1 w (.cells #[.int .u8 71, .int .u8 69, .int .u8 84, .int .u8 32, .int .u8 47, .int .u8 32, .int .u8 72, .int .u8 84, .int .u8 84, .int .u8 80, .int .u8 47, .int .u8 49, .int .u8 46, .int .u8 49, .int .u8 13, .int .u8 10, .int .u8 72, .int .u8 111, .int .u8 115, .int .u8 116, .int .u8 58, .int .u8 32, .int .u8 97, .int .u8 13, .int .u8 10, .int .u8 13, .int .u8 10, .int .u8 109, .int .u8 111, .int .u8 114, .int .u8 101] 5 (31, 32)))
  have hcc : (convert 28 28 (.slice (some ⟨w.heap.size, 0, none⟩) 31 31)).run Tryd.prog (w.alloc (.cells #[.int .u8 71, .int .u8 69, .int .u8 84, .int .u8 32, .int .u8 47, .int .u8 32, .int .u8 72, .int .u8 84, .int .u8 84, .int .u8 80, .int .u8 47, .int .u8 49, .int .u8 46, .int .u8 49, .int .u8 13, .int .u8 10, .int .u8 72, .int .u8 111, .int .u8 115, .int .u8 116, .int .u8 58, .int .u8 32, .int .u8 97, .int .u8 13, .int .u8 10, .int .u8 13, .int .u8 10, .int .u8 109, .int .u8 111, .int .u8 114, .int .u8 101] 5)) = .ok (.slice (some ⟨w.heap.size, 0, none⟩) 31 31) (w.alloc (.cells #[.int .u8 71, .int .u8 69, .int .u8 84, .int .u8 32, .int .u8 47, .int .u8 32, .int .u8 72, .int .u8 84, .int .u8 84, .int .u8 80, .int .u8 47, .int .u8 49, .int .u8 46, .int .u8 49, .int .u8 13, .int .u8 10, .int .u8 72, .int .u8 111, .int .u8 115, .int .u8 116, .int .u8 58, .int .u8 32, .int .u8 97, .int .u8 13, .int .u8 10, .int .u8 13, .int .u8 10, .int .u8 109, .int .u8 111, .int .u8 114, .int .u8 101] 5 (31, 32))) := conv_const w #[.int .u8 71, .int .u8 69, .int .u8 84, .int .u8 32, .int .u8 47, .int .u8 32, .int .u8 72, .int .u8 84, .int .u8 84, .int .u8 80, .int .u8 47, .int .u8 49, .int .u8 46, .int .u8 49, .int .u8 13, .int .u8 10, .int .u8 72, .int .u8 111, .int .u8 115, .int .u8 116, .int .u8 58, .int .u8 32, .int .u8 97, .int .u8 13, .int .u8 10, .int .u8 13, .int .u8 10, .int .u8 109, .int .u8 111, .int .u8 114, .int .u8 101] 31 31
  have hrd := aw_read w.heap.size (w.alloc (.cells #[.int .u8 71, .int .u8 69, .int .u8 84, .int .u8 32, .int .u8 47, .int .u8 32, .int .u8 72, .int .u8 84, .int .u8 84, .int .u8 80, .int .u8 47, .int .u8 49, .int .u8 46, .int .u8 49, .int .u8 13, .int .u8 10, .int .u8 72, .int .u8 111, .int .u8 115, .int .u8 116, .int .u8 58, .int .u8 32, .int .u8 97, .int .u8 13, .int .u8 10, .int .u8 13, .int .u8 10, .int .u8 109, .int .u8 111, .int .u8 114, .int .u8 101] 5 (31, 32))) (hm.below HB0.out) (ex_cells w)
  have hsz : (w.alloc (.cells #[.int .u8 71, .int .u8 69, .int .u8 84, .int .u8 32, .int .u8 47, .int .u8 32, .int .u8 72, .int .u8 84, .int .u8 84, .int .u8 80, .int .u8 47, .int .u8 49, .int .u8 46, .int .u8 49, .int .u8 13, .int .u8 10, .int .u8 72, .int .u8 111, .int .u8 115, .int .u8 116, .int .u8 58, .int .u8 32, .int .u8 97, .int .u8 13, .int .u8 10, .int .u8 13, .int .u8 10, .int .u8 109, .int .u8 111, .int .u8 114, .int .u8 101] 5 (31, 32))).heap.size = w.heap.size + 1 := by simp
  have he3 := fun w => eq3 ⟨#[71, 69, 84]⟩ ⟨#[47]⟩ ⟨#[72, 84, 84, 80, 47, 49, 46, 49]⟩ ⟨#[71, 69, 84]⟩ ⟨#[47]⟩ ⟨#[72, 84, 84, 80, 47, 49, 46, 49]⟩ w
  rw [show eq3B ⟨#[71, 69, 84]⟩ ⟨#[47]⟩ ⟨#[72, 84, 84, 80, 47, 49, 46, 49]⟩ ⟨#[71, 69, 84]⟩ ⟨#[47]⟩ ⟨#[72, 84, 84, 80, 47, 49, 46, 49]⟩ = true by decide] at he3
  clear hm
  go_enter Tryd.func11, Tryd.ntmps11
  go_upto_region 2 with (go_at_call 16; refine hrd.mono ?_; rintro e w1 ⟨A, k, rfl, HK, hb⟩; have HB1 := Lib.hid (bt HB0.out hb); clear hb)
  clear hrd hcc hsz
  obtain ⟨W1, hW1⟩ : ∃ W1, W1 = w1.alloc (.cells #[.string ⟨#[71, 69, 84]⟩, .string ⟨#[47]⟩, .string ⟨#[72, 84, 84, 80, 47, 49, 46, 49]⟩, .slice A 1 k] 25 (0, 0)) := ⟨_, rfl⟩
  have HK1 : Hid ((exH A k).Ok W1) := Lib.hid (by rw [hW1]; exact HK.out.below (below_alloc1 w1 _))
  have HT1 : Hid ((exH A k).At W1 w1.heap.size) := Lib.hid (by rw [hW1]; exact (exH A k).box w1 25)
  have HB2 : Hid (Below w.heap.size w W1) := Lib.hid (by rw [hW1]; exact below_al HB1.out _)
  have f0 : W1.cell? ⟨w1.heap.size, 0, none⟩ = some (.string ⟨#[71, 69, 84]⟩) := HT1.out.f0
  have f1 : W1.cell? ⟨w1.heap.size, 1, none⟩ = some (.string ⟨#[47]⟩) := HT1.out.f1
  have f2 : W1.cell? ⟨w1.heap.size, 2, none⟩ = some (.string ⟨#[72, 84, 84, 80, 47, 49, 46, 49]⟩) := HT1.out.f2
  have f3 : W1.cell? ⟨w1.heap.size, 3, none⟩ = some (.slice A 1 k) := HT1.out.f3
  rw [← hW1]
  clear hW1 HK HB1
  generalize w1.heap.size = N at HT1 f0 f1 f2 f3 ⊢
  go_wp2_with (first
    | (go_at_call 13; refine (aw_show A k W1 HK1.out).mono ?_; rintro e w2 ⟨A2, c2, rfl, HS, hb⟩; have HB3 := Lib.hid (bt HB2.out hb); have HK2 := Lib.hid (HK1.out.below hb); have HT2 := Lib.hid (HT1.out.below hb); have HBS := Lib.hid hb
       have f0 : w2.cell? ⟨N, 0, none⟩ = some (.string ⟨#[71, 69, 84]⟩) := HT2.out.f0
       have f1 : w2.cell? ⟨N, 1, none⟩ = some (.string ⟨#[47]⟩) := HT2.out.f1
       have f2 : w2.cell? ⟨N, 2, none⟩ = some (.string ⟨#[72, 84, 84, 80, 47, 49, 46, 49]⟩) := HT2.out.f2
       have f3 : w2.cell? ⟨N, 3, none⟩ = some (.slice A 1 k) := HT2.out.f3
       clear hb)
    | (go_at_call 21; refine (aw_get A k w2 HK2.out).mono ?_; rintro e w3 ⟨A3, c3, rfl, HG, hb⟩; have HB4 := Lib.hid (bt HB3.out hb); have HK3 := Lib.hid (HK2.out.below hb); have HT3 := Lib.hid (HT2.out.below hb); have hcv := ex_str c2 (bys_below HS.out hb)
       have f0 : w3.cell? ⟨N, 0, none⟩ = some (.string ⟨#[71, 69, 84]⟩) := HT3.out.f0
       have f1 : w3.cell? ⟨N, 1, none⟩ = some (.string ⟨#[47]⟩) := HT3.out.f1
       have f2 : w3.cell? ⟨N, 2, none⟩ = some (.string ⟨#[72, 84, 84, 80, 47, 49, 46, 49]⟩) := HT3.out.f2
       have f3 : w3.cell? ⟨N, 3, none⟩ = some (.slice A 1 k) := HT3.out.f3
       have g0 : ∀ o, (w3.alloc o).cell? ⟨N, 0, none⟩ = some (.string ⟨#[71, 69, 84]⟩) := fun o => (HT3.out.below (below_alloc1 w3 o)).f0
       have g1 : ∀ o, (w3.alloc o).cell? ⟨N, 1, none⟩ = some (.string ⟨#[47]⟩) := fun o => (HT3.out.below (below_alloc1 w3 o)).f1
       have g2 : ∀ o, (w3.alloc o).cell? ⟨N, 2, none⟩ = some (.string ⟨#[72, 84, 84, 80, 47, 49, 46, 49]⟩) := fun o => (HT3.out.below (below_alloc1 w3 o)).f2
       have g3 : ∀ o, (w3.alloc o).cell? ⟨N, 3, none⟩ = some (.slice A 1 k) := fun o => (HT3.out.below (below_alloc1 w3 o)).f3
       clear hb)
    | (go_at_call 20; refine (aw_row A3 _ c3 1 _ (HG.out.alloc _) (strs_lit w3 [⟨#[97]⟩] _ rfl)).mono ?_; rintro e w4 ⟨rfl, m4, rfl⟩)
    | (go_at_call 23; refine (aw_tok _).mono ?_; rintro e w5 ⟨rfl, rfl⟩)
    | (go_at_call 25; refine (aw_same _).mono ?_; rintro e w6 ⟨rfl, m6, rfl⟩)
    | (go_at_call 15; refine (aw_check A k _ (HK3.out.below (below_drewN (below_alloc1 _ _) _))).mono ?_; rintro e w7 ⟨rfl, hb⟩; have HB7 := Lib.hid (bt (below_drewN (below_al HB4.out _) _) hb); clear hb))
  go_ret
  exact ⟨rfl, HB7.out⟩
end Go.Proofs.YtknfoolcbfmpaaaDoor
