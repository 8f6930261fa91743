/- Read, by the program; conditions: a string of a length that a world can hold; the world holds what the library's numbers lean on. -/
import Derived.Test.YtkodepckfdpaiaaDoorSp
namespace Go.Proofs.YtkodepckfdpaiaaDoor
set_option linter.unusedSimpArgs false
set_option linter.unusedVariables false
open Go.RowKit
theorem Cut_calls (s : ByteArray) (w : World) (hs : s.size ≤ 100000) (he : Env w) : Calls Tryd.prog 27 #[.string s, .string ⟨#[10]⟩] w fun e w' => e = .returned (.tuple #[.string (mk (Lib.cut (bs s) [10]).1), .string (mk (Lib.cut (bs s) [10]).2.1), .bool (Lib.cut (bs s) [10]).2.2]) ∧ Below w.heap.size w w' := by
  obtain ⟨m, hm⟩ := he.mx
  refine (Tryd.strings_Cut s ⟨#[10]⟩ m w (by omega) hm).mono ?_
  rintro e w' ⟨rfl, n, rfl⟩
  exact ⟨rfl, below_drewN1 _ _⟩
set_option maxRecDepth 100000 in
set_option maxHeartbeats 800000 in
theorem Read_calls (s : ByteArray) (w : World) (hs : s.size ≤ 100000) (he : Env w) :
    Calls Tryd.prog 15 #[.string s] w (RP w (bs s)) := by
  have HEN := Lib.hid he
  clear he
  go_enter Tryd.func15, Tryd.ntmps15
  go_upto_region 3 with (fail)
  go_loopg [0, 5, 6] s.size (fun gh v0 v5 v6 wx => ∃ (r : ByteArray) (ds : List Dd), v0 = .string r ∧ v6 = .int .i64 ((ds.length : Int) + 1) ∧ r.size ≤ gh ∧ gh ≤ s.size ∧ Hid (RS w (bs s) gh v5 ds r wx))
  case atStart => exact ⟨s, [], rfl, rfl, Nat.le_refl _, Nat.le_refl _, Lib.hid ⟨Below.refl _ _, OwnD.nil _ _, (fun d hd => by cases hd), by rw [← bs_length]; exact ri_start (bs s), by rw [bs_length]; exact Nat.le_of_eq (Nat.zero_add _)⟩⟩
  case round =>
    obtain ⟨r, ds, rfl, rfl, hr, hgs, HX⟩ := hrel
    by_cases hne : r = ⟨#[]⟩
    · subst hne
      obtain ⟨A, c, rfl, h1, h2, h3⟩ := HX.out.ow.form
      go_wp2
      go_ret3
      exact ⟨HX.out.be, .inl ⟨_, ds, rfl, ri_end HX.out.ri, HX.out.ow, HX.out.sm, by have := HX.out.ln; omega⟩⟩
    · have hrb : bs r ≠ [] := fun h => hne (bs_inj (h.trans rfl))
      have hq : r.toList.isEmpty = false := by rw [isEmpty_iff]; exact List.isEmpty_eq_false_iff.2 hrb
      have hr0 : 0 < r.size := by rw [← bs_length]; exact List.length_pos_iff.2 hrb
      obtain ⟨f, rfl⟩ : ∃ f, gk = f + 1 := ⟨gk - 1, by omega⟩
      have hrz : r.size ≤ 100000 := by omega
      have HRI := Lib.hid HX.out.ri
      have HLN := Lib.hid HX.out.ln
      have HSM := Lib.hid HX.out.sm
      have HRB := Lib.hid hrb
      have hcu := fun w' (h : Env w') => Cut_calls r w' hrz h
      have hcl : (mk (Lib.cut (bs r) [10]).1).size ≤ 100000 := by
        have := cut_fst (bs r) [10]
        rw [bs_length] at this
        rw [mk_size]
        omega
      have hpa := fun w' (h : Env w') => parse_calls (mk (Lib.cut (bs r) [10]).1) w' hcl h
      have HOK : Hid (∀ d : Dd, d.dp = parseB (Lib.cut (bs r) [10]).1 → okL (bs r) = (checkD d.dp && Lib.hasPrefix (bs r) (textD d.dp))) := Lib.hid fun d h => by unfold okL; rw [h]; rfl
      have HST : Hid (okL (bs r) = true → ∀ d : Dd, d.dp = parseB (Lib.cut (bs r) [10]).1 → RI (bs s) f (ds ++ [d]) (Lib.cut (bs r) [10]).2.1 ∧ (Lib.cut (bs r) [10]).2.1.length < r.size) := Lib.hid fun h d hd => ⟨ri_step HRI.out HRB.out h hd, by rw [← bs_length]; exact cut_snd h⟩
      have HBD : Hid (okL (bs r) = false → readD (bs s) = .error (ds.length + 1)) := Lib.hid fun h => ri_bad HRI.out HRB.out h
      have HPX : Hid (∀ d : Dd, PD (mk (Lib.cut (bs r) [10]).1) d → d.dp = parseB (Lib.cut (bs r) [10]).1) := Lib.hid fun d h => by have := h.dp; rw [bs_mk] at this; exact this
      generalize (Lib.cut (bs r) [10]) = C at *
      obtain ⟨a, b, q⟩ := C
      clear hcl hrb hne HRI HRB
      go_upto_region 6 with (go_at_call 27; refine (hcu _ (HEN.out.below HX.out.be)).mono ?_; rintro e w1 ⟨rfl, hb⟩; have HX1 := Lib.hid (HX.out.below hb); clear hb)
      clear hcu HX
      go_upto_region 7 with (go_at_call 28; refine (hpa _ (HEN.out.below HX1.out.be)).mono ?_; rintro e w2 ⟨⟨d, rfl, hpd⟩, hb⟩; have HPD := Lib.hid hpd; have HX2 := Lib.hid (HX1.out.below hb); clear hb hpd)
      clear hpa HX1
      obtain ⟨W3, hW3⟩ : ∃ W3, W3 = w2.alloc (.cells d.cells 27 (0, 0)) := ⟨_, rfl⟩
      obtain ⟨M, hM⟩ : ∃ M, M = w2.heap.size := ⟨_, rfl⟩
      have HX3 : Hid (RS w (bs s) (f + 1) u5 ds r W3) := Lib.hid (hW3 ▸ HX2.out.below (below_alloc1 _ _))
      have HAT : Hid (d.At W3 M) := Lib.hid (d.box (hW3 ▸ Blk.new' w2 _ 27 hM))
      rw [← hW3, ← hM]
      clear hW3 hM HX2
      obtain ⟨f0, f1, f2, f3, f4, f5⟩ := HAT.out
      have HDP := Lib.hid (HPX.out d HPD.out)
      have HO1 := Lib.hid (HOK.out d HDP.out)
      have hck := fun w' => Check_calls d w' HPD.out.inn
      have HSN : Hid (readD (bs s) = .error (ds.length + 1) → ∀ w', Below w.heap.size w w' → RP w (bs s) (.returned (.tuple #[.slice none 0 0, .int .i64 ((ds.length : Int) + 1), .int .i64 200])) w') := Lib.hid fun h w' hb => ⟨hb, .inr ⟨ds.length + 1, rfl, h, by omega, by have := HLN.out; omega⟩⟩
      have htx := fun w' (h : checkD d.dp = true) (h2 : Env w') => text_calls d w' h h2
      have hhp : ∀ w', Calls Tryd.prog 29 #[.string r, .string (mk (textD d.dp))] w' fun e w'' => e = .returned (.bool (Lib.hasPrefix (bs r) (textD d.dp))) ∧ w'' = w' := fun w' => by
        have h := Tryd.strings_HasPrefix r (mk (textD d.dp)) w'
        rw [show (mk (textD d.dp)).data.toList = textD d.dp from bs_mk _] at h
        exact h
      generalize Lib.hasPrefix (bs r) (textD d.dp) = hp at HO1 hhp
      generalize mk (textD d.dp) = T at htx hhp
      clear HOK HPX
      rcases hc : checkD d.dp with _ | _
      · have HNO := Lib.hid (HBD.out (by rw [HO1.out, hc]; rfl))
        go_wp2_with (go_at_call 11; refine (hck _).mono ?_; rintro e w4 ⟨rfl, hb⟩; rw [hc]; have HX4 := Lib.hid (HX3.out.below hb); clear hb)
        go_ret3
        exact HSN.out HNO.out _ HX4.out.be
      · rcases hp with _ | _
        · have HNO := Lib.hid (HBD.out (by rw [HO1.out, hc]; rfl))
          go_wp2_with (first
            | (go_at_call 11; refine (hck _).mono ?_; rintro e w4 ⟨rfl, hb⟩; rw [hc]; have HX4 := Lib.hid (HX3.out.below hb); have HAT4 := Lib.hid (HAT.out.below hb); clear f0 f1 f2 f3 f4 f5; obtain ⟨f0, f1, f2, f3, f4, f5⟩ := HAT4.out; clear hb)
            | (go_at_call 24; refine (htx _ hc (HEN.out.below HX4.out.be)).mono ?_; rintro e w5 ⟨rfl, hb⟩; have HX5 := Lib.hid (HX4.out.below hb); clear hb)
            | (go_at_call 29; refine (hhp _).mono ?_; rintro e w6 ⟨rfl, rfl⟩))
          go_ret3
          exact HSN.out HNO.out _ HX5.out.be
        · obtain ⟨hs1, hs2⟩ := HST.out (by rw [HO1.out, hc]; rfl) d HDP.out
          have HS1 := Lib.hid hs1
          have HDI : Hid (Small d) := Lib.hid ⟨HPD.out.inn, HPD.out.zd⟩
          clear hs1 HST HBD HSN HO1
          go_wp2_with (first
            | (go_at_call 11; refine (hck _).mono ?_; rintro e w4 ⟨rfl, hb⟩; rw [hc]; have HX4 := Lib.hid (HX3.out.below hb); have HAT4 := Lib.hid (HAT.out.below hb); clear f0 f1 f2 f3 f4 f5; obtain ⟨f0, f1, f2, f3, f4, f5⟩ := HAT4.out; clear hb)
            | (go_at_call 24; refine (htx _ hc (HEN.out.below HX4.out.be)).mono ?_; rintro e w5 ⟨rfl, hb⟩; have HX5 := Lib.hid (HX4.out.below hb); have HAT5 := Lib.hid (HAT4.out.below hb); clear f0 f1 f2 f3 f4 f5; obtain ⟨f0, f1, f2, f3, f4, f5⟩ := HAT5.out; clear hb)
            | (go_at_call 29; refine (hhp _).mono ?_; rintro e w6 ⟨rfl, rfl⟩)
            | (at_builtin
               refine wpList_app rfl _ _ _ rfl u5 (.slice (some ⟨w6.heap.size, 0, none⟩) 1 1) (by rfl) (by rfl) (OwnD.app1 (d := d) (HX5.out.ow.al (.cells d.cells 27)) _ w6.heap.size (Blk.new' _ _ _ rfl) ?h1 ?h3) ?_
               case h1 => have := HLN.out; rw [bs_length] at this; omega
               case h3 => have := HX5.out.be.size; simp; omega
               intro v2 w8 hF
               have HF := Lib.hid hF
               clear hF))
          have hlw : wrap64 ((ds.length : Int) + 1 + 1) = ((ds ++ [d]).length : Int) + 1 := by
            have := HLN.out
            rw [bs_length] at this
            rw [List.length_append, List.length_singleton]
            unfold wrap64
            omega
          rw [hlw]
          go_roundg f
          case measure => omega
          case rel => exact ⟨mk b, ds ++ [d], rfl, rfl, by rw [mk_size]; omega, by omega, Lib.hid ⟨HX5.out.be.trans ((below_alloc1 _ _).mono HX5.out.be.size |>.trans HF.out.be), HF.out.own, fun x hx => by
            rcases List.mem_append.1 hx with hx | hx
            · exact HSM.out x hx
            · rw [List.mem_singleton.1 hx]; exact HDI.out, by rw [bs_mk]; exact HS1.out, by
            have := HLN.out
            rw [List.length_append, List.length_singleton, mk_size]
            omega⟩⟩
end Go.Proofs.YtkodepckfdpaiaaDoor
