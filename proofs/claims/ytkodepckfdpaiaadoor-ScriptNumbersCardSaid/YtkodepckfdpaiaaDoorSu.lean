/- Two deeds' texts: the law; conditions: the deeds are within the types; the world holds what the library's numbers lean on. -/
import Derived.Test.YtkodepckfdpaiaaDoorSt
namespace Go.Proofs.YtkodepckfdpaiaaDoor
set_option linter.unusedSimpArgs false
set_option linter.unusedVariables false
open Go.RowKit
theorem dd_ext {a b : Dd} (h0 : a.k.toList = b.k.toList) (h1 : a.i = b.i) (h2 : a.s = b.s) (h3 : a.n = b.n) (h4 : a.o = b.o) (h5 : a.d.toList = b.d.toList) : a = b := by
  rw [toList_bs, toList_bs] at h0 h5
  have e0 := bs_inj h0
  have e5 := bs_inj h5
  cases a; cases b
  simp only at *
  subst e0 h1 h2 h3 h4 e5
  rfl
theorem show_one (a : Dd) : ∃ T c, showV [a] = .tuple #[.string T, .int .i64 c] ∧ ((c = 0 ∧ checkD a.dp = true ∧ T = mk (textD a.dp)) ∨ c = 201) := by
  rcases h : checkD a.dp with _ | _
  · exact ⟨_, _, showV_no (by unfold allOk; simp [h]), .inr rfl⟩
  · refine ⟨_, _, showV_yes (by unfold allOk; simp [h]), .inl ⟨rfl, rfl, ?_⟩⟩
    have e : allT (dps [a]) = textD a.dp ++ [] := rfl
    rw [e, List.append_nil]
set_option maxRecDepth 100000 in
set_option maxHeartbeats 800000 in
theorem Apart_calls (a b : Dd) (w : World) (ha : a.In) (hb : b.In) (he : Env w) :
    Calls Tryd.prog 7 #[a.val, b.val] w fun e w' => e = .returned (.bool true) ∧ Below w.heap.size w w' := by
  have HEN := Lib.hid he
  have hin2 : ∀ d ∈ [a, b], d.In := fun d hd => by
    have : d = a ∨ d = b := by simpa using hd
    rcases this with rfl | rfl
    · exact ha
    · exact hb
  clear he
  obtain ⟨W1, hW1⟩ : ∃ W1, W1 = (w.alloc (.cells a.cells 27 (0, 0))).alloc (.cells b.cells 27 (0, 0)) := ⟨_, rfl⟩
  have HB1 : Hid (Below w.heap.size w W1) := Lib.hid (hW1 ▸ below_al (below_alloc1 w _) _)
  have HA1 : Hid (a.At W1 w.heap.size) := Lib.hid (hW1 ▸ (a.box (Blk.new' w _ 27 rfl)).below (below_alloc1 _ _))
  have HA2 : Hid (b.At W1 (w.heap.size + 1)) := Lib.hid (hW1 ▸ b.box (Blk.new' _ _ 27 (by simp)))
  have haw := fun w' (h : Env w') => awake_calls w' h
  go_enter Tryd.func7, Tryd.ntmps7
  go_upto_region 1 with (fail)
  rw [← hW1]
  clear hW1
  obtain ⟨f0, f1, f2, f3, f4, f5⟩ := HA1.out
  obtain ⟨g0, g1, g2, g3, g4, g5⟩ := HA2.out
  have HIN := Lib.hid hin2
  clear hin2 ha hb
  go_wp2_with (first
    | (go_at_call 9; refine (haw _ (HEN.out.below HB1.out)).mono ?_; rintro e w2 ⟨rfl, hb⟩; have HB2 := Lib.hid (bt HB1.out hb); have HA3 := Lib.hid (HA1.out.below hb); have HA4 := Lib.hid (HA2.out.below hb); clear f0 f1 f2 f3 f4 f5 g0 g1 g2 g3 g4 g5 hb; obtain ⟨f0, f1, f2, f3, f4, f5⟩ := HA3.out; obtain ⟨g0, g1, g2, g3, g4, g5⟩ := HA4.out)
    | (go_at_call 10; refine (Few_calls (some ⟨w2.heap.size, 0, none⟩) 2 [a, b] _ (by simp) (dds_two _ a b (Blk.new' w2 _ _ rfl))).mono ?_; rintro e w3 ⟨⟨q, rfl⟩, hb⟩; have HB3 := Lib.hid (bt (below_al HB2.out _) hb); have HA5 := Lib.hid ((HA3.out.below (below_alloc1 _ _)).below hb); have HA6 := Lib.hid ((HA4.out.below (below_alloc1 _ _)).below hb); clear f0 f1 f2 f3 f4 f5 g0 g1 g2 g3 g4 g5 hb; obtain ⟨f0, f1, f2, f3, f4, f5⟩ := HA5.out; obtain ⟨g0, g1, g2, g3, g4, g5⟩ := HA6.out; rcases q with _ | _))
  · go_wp2_with (go_at_call 9; refine (haw _ (HEN.out.below HB3.out)).mono ?_; rintro e w4 ⟨rfl, hb⟩; have HB4 := Lib.hid (bt HB3.out hb); clear hb)
    go_ret
    exact ⟨rfl, HB4.out⟩
  · obtain ⟨Ta, ca, hsa, hca⟩ := show_one a
    obtain ⟨Tb, cb, hsb, hcb⟩ := show_one b
    have hs1 : Calls Tryd.prog 13 #[.slice (some ⟨w3.heap.size, 0, none⟩) 1 1] (w3.alloc (.cells a.cells 27 (0, 0))) fun e w' => e = .returned (.tuple #[.string Ta, .int .i64 ca]) ∧ Below (w3.alloc (.cells a.cells 27 (0, 0))).heap.size (w3.alloc (.cells a.cells 27 (0, 0))) w' := by
      rw [← hsa]
      exact Show_calls (some ⟨w3.heap.size, 0, none⟩) 1 [a] _ (by simp) (dds_one _ a (Blk.new' w3 _ _ rfl)) (fun d hd => HIN.out d (by rw [List.mem_singleton.1 hd]; simp)) (HEN.out.below (below_al HB3.out _))
    have hs2 := fun (w4 : World) (h : Below w.heap.size w w4) => Show_calls (some ⟨w4.heap.size, 0, none⟩) 1 [b] (w4.alloc (.cells b.cells 27 (0, 0))) (by simp) (dds_one _ b (Blk.new' w4 _ _ rfl)) (fun d hd => HIN.out d (by rw [List.mem_singleton.1 hd]; simp)) (HEN.out.below (below_al h _))
    rw [hsb] at hs2
    have HCA := Lib.hid hca
    have HCB := Lib.hid hcb
    clear hsa hsb hca hcb
    go_upto_region 4 with (go_at_call 13; refine hs1.mono ?_; rintro e w4 ⟨rfl, hb⟩; have HB4 := Lib.hid (bt (below_al HB3.out _) hb); have HA7 := Lib.hid ((HA5.out.below (below_alloc1 _ _)).below hb); have HA8 := Lib.hid ((HA6.out.below (below_alloc1 _ _)).below hb); clear f0 f1 f2 f3 f4 f5 g0 g1 g2 g3 g4 g5 hb hs1; obtain ⟨f0, f1, f2, f3, f4, f5⟩ := HA7.out; obtain ⟨g0, g1, g2, g3, g4, g5⟩ := HA8.out)
    go_upto_region 5 with (go_at_call 13; refine (hs2 _ HB4.out).mono ?_; rintro e w5 ⟨rfl, hb⟩; have HB5 := Lib.hid (bt (below_al HB4.out _) hb); have HA9 := Lib.hid ((HA7.out.below (below_alloc1 _ _)).below hb); have HAX := Lib.hid ((HA8.out.below (below_alloc1 _ _)).below hb); clear f0 f1 f2 f3 f4 f5 g0 g1 g2 g3 g4 g5 hb hs2; obtain ⟨f0, f1, f2, f3, f4, f5⟩ := HA9.out; obtain ⟨g0, g1, g2, g3, g4, g5⟩ := HAX.out)
    rcases HCA.out with ⟨rfl, hka, rfl⟩ | rfl
    rotate_left
    · go_wp2
      go_ret
      exact ⟨rfl, HB5.out⟩
    rcases HCB.out with ⟨rfl, hkb, rfl⟩ | rfl
    rotate_left
    · go_wp2
      go_ret
      exact ⟨rfl, HB5.out⟩
    have HQ : Hid (decide (mk (textD a.dp) = mk (textD b.dp)) = decide (a = b)) := Lib.hid (decide_eq_decide.2 ⟨fun h => dp_inj (text_inj hka hkb (by rw [← bs_mk (textD a.dp), h, bs_mk])), fun h => by rw [h]⟩)
    have hst : ((mk (textD a.dp)).toList == (mk (textD b.dp)).toList) = decide (a = b) := (str_beq _ _).trans HQ.out
    generalize mk (textD a.dp) = Ta at *
    generalize mk (textD b.dp) = Tb at *
    go_wp2
    all_goals
      go_ret
      refine ⟨ret_bool ?_, HB5.out⟩
      first
        | (have hn : ¬ a = b := by
             intro h
             first
               | exact ‹¬a.k.toList = b.k.toList› (by rw [h])
               | exact ‹¬a.i = b.i› (by rw [h])
               | exact ‹¬a.s = b.s› (by rw [h])
               | exact ‹¬a.n = b.n› (by rw [h])
               | exact ‹¬a.o = b.o› (by rw [h])
               | exact ‹¬a.d.toList = b.d.toList› (by rw [h])
           rw [decide_eq_false hn]; rfl)
        | (have hp : a = b := dd_ext ‹a.k.toList = b.k.toList› ‹a.i = b.i› ‹a.s = b.s› ‹a.n = b.n› ‹a.o = b.o› ‹a.d.toList = b.d.toList›
           exact decide_eq_true hp)
end Go.Proofs.YtkodepckfdpaiaaDoor
