/- Bytes of digits, by the program: those, or a panic; conditions: strings of lengths that a world can hold. -/
import Derived.Test.YtkodepckfdpaiaaDoorSd
namespace Go.Proofs.YtkodepckfdpaiaaDoor
set_option linter.unusedSimpArgs false
set_option linter.unusedVariables false
open Go.RowKit
/-- How bytes ends. -/
def bytesP (o : Option By) (n : Nat) (e : Ending) : Prop := match o with
  | some l => e = .returned (.string (mk l)) ∧ l.length ≤ n
  | none => e = .panicked wrongP
/-- What bytes leaves. -/
def YP (w : World) (s : ByteArray) (e : Ending) (w' : World) : Prop := Below w.heap.size w w' ∧ bytesP (bytesB (bs s)) s.size e
theorem YP.no {w w' : World} {s : ByteArray} (h : bytesB (bs s) = none) (hb : Below w.heap.size w w') : YP w s (.panicked wrongP) w' := ⟨hb, by rw [h]; exact rfl⟩
theorem YP.yes {w w' : World} {s : ByteArray} {l : By} (h : bytesB (bs s) = some l) (hl : l.length ≤ s.size) (hb : Below w.heap.size w w') : YP w s (.returned (.string (mk l))) w' := ⟨hb, by rw [h]; exact ⟨rfl, hl⟩⟩
theorem pairs_two (a b : UInt8) (r : By) : pairsB (a :: b :: r) = match digB a, digB b with
    | some x, some y => (pairsB r).map ((x * 16 + y) :: ·)
    | _, _ => none := by cases h1 : digB a <;> cases h2 : digB b <;> simp [pairsB, h1, h2]
theorem drop_two (s : ByteArray) (i : Nat) (h : i + 1 < s.size) : (bs s).drop i = s[i] :: s[i + 1] :: (bs s).drop (i + 2) := by
  rw [List.drop_eq_getElem_cons (by rw [bs_length]; omega), List.drop_eq_getElem_cons (by rw [bs_length]; omega)]
  rfl
theorem pairs_odd (l : By) : l.length % 2 = 1 → pairsB l = none := by
  induction l using pairsB.induct with
  | case1 => intro h; simp at h
  | case2 => intro _; rfl
  | case3 a b r x y h1 h2 ih =>
    intro h
    rw [pairs_two, h1, h2]
    simp only [List.length_cons] at h
    rw [ih (by omega)]; rfl
  | case4 a b r h1 =>
    intro _
    rw [pairs_two]
    split
    · rename_i x y hx hy; exact (h1 _ _ hx hy).elim
    · rfl
theorem bs_first (s : ByteArray) (h : 0 < s.size) : bs s = s[0] :: (bs s).drop 1 := by
  have h0 := bs_get? s 0 h
  cases hb : bs s with
  | nil => rw [hb] at h0; simp at h0
  | cons x l => rw [hb] at h0; simp at h0; simp [h0]
theorem digB_lt {c x : UInt8} (h : digB c = some x) : x.toNat < 16 := by
  unfold digB at h
  split at h
  · cases h
  · have hi := idx_hex ⟨c.toNat, c.toNat_lt⟩
    rw [show UInt8.ofNat (⟨c.toNat, c.toNat_lt⟩ : Fin 256).val = c by simp] at hi
    rw [← Option.some.inj h]
    simp
    omega
theorem index_succ (s : ByteArray) (i : Nat) (h : i + 1 < s.size) (w : World) : (Instr.index 9 (.string s) (.int .i64 ((i : Int) + 1))).run Tryd.prog w = .ok (.int .u8 s[i + 1].toNat) w := by
  rw [run_index_string (P := Tryd.prog) w 9 s .i64 ((i : Int) + 1) Tryd.underlying9, dif_pos ⟨by omega, by omega⟩]
  have e : ((i : Int) + 1).toNat = i + 1 := by omega
  simp only [e]
theorem fakeK {P : Program} {fn : Func} {R : Ending → World → Prop} {ps : List PanicEntry} {a : Act} {w : World} {K : Act → World → Prop} (d : Option Tmp) (v : Value) (hG : bodyPost P fn R (Exit.panic ps) a w) (h : Hid False → K (a.put d v) w) : bodyPost P fn R (Exit.panic ps) a w := hG
theorem step_false {P : Program} {w : World} {ops : Array Oper} {o : Oper} {a : Act} {K : Act → World → Prop} {Q : Exit → Act → World → Prop} {E : Prop} (hF : Hid False) (v : Value) (h : K (a.put o.dst v) w) :
    if Region.wanted o (yielded ops a.tmps) = true then Oper.wp P o a w K Q else E := hF.out.elim
theorem or_shift : ∀ (x y : Fin 16), bits BinOp.or IntKind.u8 (IntKind.u8.wrap (((x.val : Nat) : Int) * 16)) ((y.val : Nat) : Int) = ((x.val * 16 + y.val : Nat) : Int) := by decide +kernel
set_option maxRecDepth 100000 in
set_option maxHeartbeats 1000000 in
theorem bytes_calls (s : ByteArray) (w : World) (hs : s.size ≤ 100000) :
    Calls Tryd.prog 44 #[.string s] w (YP w s) := by
  have hmy := fun w => must_yes w
  have hmn := fun w => must_no w
  by_cases hodd : s.size % 2 = 1
  · by_cases hx : s[0]'(by omega) = 120
    · have hd1 : ((s.size : Int) % 2 == 1) = true := beq_iff_eq.2 (by omega)
      have hd2 : (((s[0]'(by omega)).toNat : Int) == 120) = true := by rw [hx]; rfl
      have h0 : 0 < s.size := by omega
      have HB0 : Hid (bytesB (bs s) = pairsB ((bs s).drop 1)) := Lib.hid (by
        have := bs_first s h0
        unfold bytesB
        rw [this, hx]; rfl)
      clear hx
      go_enter Tryd.func44, Tryd.ntmps44
      go_wp2_with (go_at_call 42; refine (hmy _).mono ?_; rintro e w' ⟨rfl, hw'⟩; obtain rfl := hw'.symm)
      go_loopg [3, 4] (s.size - 1) (fun gh v3 v4 wx => ∃ (i : Nat) (done : By), v4 = .int .i64 i ∧ i + gh = s.size ∧ i % 2 = 1 ∧ Hid (done.length * 2 + 1 = i) ∧ Hid (OwnB wx w.heap.size v3 done ∧ Below w.heap.size w wx) ∧ Hid (pairsB ((bs s).drop 1) = (pairsB ((bs s).drop i)).map (done ++ ·)))
      case atStart => exact ⟨1, [], rfl, by omega, rfl, Lib.hid rfl, Lib.hid ⟨OwnB.nil _ _, Below.refl _ _⟩, Lib.hid (by cases pairsB ((bs s).drop 1) <;> rfl)⟩
      case round =>
        obtain ⟨i, done, rfl, hi, hi2, HDL, HX, HP⟩ := hrel
        by_cases hlt : i < s.size
        · have hlt1 : i + 1 < s.size := by omega
          have HD2 := Lib.hid (drop_two s i hlt1)
          have hix := fun w => index_succ s i hlt1 w
          have hwr : IntKind.i64.wrap ((i : Int) + 1) = (i : Int) + 1 := by rw [IntKind.wrap_i64]; omega
          have HDN : Hid (done.length ≤ 100000) := Lib.hid (by have := HDL.out; omega)
          have hlen : done.length ≤ 100000 := HDN.out
          cases h1 : digB s[i] with
          | some x =>
            have hg1 := fun w => digit_yes s[i] x w h1
            cases h2 : digB s[i + 1] with
            | some y =>
              have hg2 := fun w => digit_yes s[i + 1] y w h2
              have hx16 := digB_lt h1
              have hy16 := digB_lt h2
              have hor := or_shift ⟨x.toNat, hx16⟩ ⟨y.toNat, hy16⟩
              simp only at hor
              obtain ⟨z, hz⟩ : ∃ z, z = x * 16 + y := ⟨_, rfl⟩
              have hzn : z.toNat = x.toNat * 16 + y.toNat := by rw [hz, UInt8.toNat_add, UInt8.toNat_mul]; show (x.toNat * 16 % 256 + y.toNat) % 256 = _; omega
              rw [← hzn] at hor
              have HP2 : Hid (pairsB ((bs s).drop 1) = (pairsB ((bs s).drop (i + 2))).map ((done ++ [z]) ++ ·)) := Lib.hid (by
                rw [HP.out, HD2.out, pairs_two, h1, h2]
                simp only [Option.map_map, ← hz]
                congr 1
                funext r
                simp)
              clear h1 h2 HD2 HP hz hzn
              go_upto_region 6 with (fail)
              go_region_law (first
                | (go_simp; go_at_call 53; first | ((with_reducible refine (hg1 _).mono ?_); rintro e w' ⟨rfl, rfl⟩) | ((with_reducible refine (hg2 _).mono ?_); rintro e w' ⟨rfl, rfl⟩))
                | (refine step_app (by rfl) _ _ _ (by rfl) u3 (.slice (some ⟨wr.heap.size, 0, none⟩) 1 1) (by rfl) (by rfl) (OwnB.app (HX.out.1.drew1.al _) _ (some ⟨wr.heap.size, 0, none⟩) [z] 1 1 rfl (bys_blk (Blk.new' wr.drew _ _ rfl) _ rfl) ?h2 ?h3) ?_
                   case h2 => simp only [List.length_cons, List.length_nil]; omega
                   case h3 => have := HX.out.2.size; simp; omega
                   intro v2 w8 hF8
                   have HF := Lib.hid hF8
                   clear hF8))
              all_goals
                go_wp2
                go_roundg (s.size - (i + 2))
                case measure => omega
                case rel => exact ⟨i + 2, done ++ [z], by go_num, by omega, by omega, Lib.hid (by rw [List.length_append]; have := HDL.out; simp only [List.length_cons, List.length_nil]; omega), Lib.hid ⟨HF.out.own, (below_al (below_drew1 HX.out.2) _).trans HF.out.be⟩, HP2⟩
            | none =>
              have hg2 := fun w => digit_no s[i + 1] w h2
              have HN : Hid (bytesB (bs s) = none) := Lib.hid (by rw [HB0.out, HP.out, HD2.out, pairs_two, h1, h2]; rfl)
              clear h1 h2 HD2 HP HB0
              go_upto_region 6 with (fail)
              go_region_law (first
                | (go_simp; go_at_call 53; (with_reducible refine (hg1 _).mono ?_); rintro e w' ⟨rfl, rfl⟩)
                | (go_simp; go_at_call 53; (with_reducible refine (hg2 _).mono ?_); rintro e w' ⟨rfl, rfl⟩; refine fakeK (K := ‹Act → World → Prop›) (some 31) (.int .u8 0) ⟨rfl, YP.no HN.out (below_drew1 HX.out.2)⟩ ?_; intro HF)
                | (refine step_false HF (.slice none 0 0) ?_))
              all_goals exact HF.out.elim
          | none =>
            have hg1 := fun w => digit_no s[i] w h1
            have HN : Hid (bytesB (bs s) = none) := Lib.hid (by rw [HB0.out, HP.out, HD2.out, pairs_two, h1]; rfl)
            cases h2 : digB s[i + 1] with
            | some y =>
              have hg2 := fun w => digit_yes s[i + 1] y w h2
              clear h1 h2 HD2 HP HB0
              go_upto_region 6 with (fail)
              go_region_law (first
                | (go_simp; go_at_call 53; (with_reducible refine (hg2 _).mono ?_); rintro e w' ⟨rfl, rfl⟩)
                | (go_simp; go_at_call 53; (with_reducible refine (hg1 _).mono ?_); rintro e w' ⟨rfl, rfl⟩; refine fakeK (K := ‹Act → World → Prop›) (some 25) (.int .u8 0) ⟨rfl, YP.no HN.out (below_drew1 HX.out.2)⟩ ?_; intro HF)
                | (refine step_false HF (.slice none 0 0) ?_))
              all_goals exact HF.out.elim
            | none =>
              have hg2 := fun w => digit_no s[i + 1] w h2
              clear h1 h2 HD2 HP HB0
              go_upto_region 6 with (fail)
              go_region_law (first
                | (go_simp; go_at_call 53; (with_reducible refine (hg1 _).mono ?_); rintro e w' ⟨rfl, rfl⟩; refine fakeK (K := ‹Act → World → Prop›) (some 25) (.int .u8 0) ⟨rfl, YP.no HN.out (below_drew1 HX.out.2)⟩ ?_; intro HF)
                | (refine step_false HF (.int .u8 0) ?_))
              all_goals exact HF.out.elim
        · have HE : Hid (bytesB (bs s) = some done) := Lib.hid (by
            rw [HB0.out, HP.out, List.drop_of_length_le (by rw [bs_length]; omega)]
            show some (done ++ []) = _
            rw [List.append_nil])
          obtain ⟨A, c, hv, h1, h2, h3⟩ := HX.out.1.form
          subst hv
          have hcs := conv_str c h3
          have HB := Lib.hid HX.out.2
          have HLE : Hid (done.length ≤ s.size) := Lib.hid (by have := HDL.out; omega)
          clear HX h3 h1 HP HDL
          go_wp2
          go_ret
          exact YP.yes HE.out HLE.out HB.out
    · have hd1 : ((s.size : Int) % 2 == 1) = true := beq_iff_eq.2 (by omega)
      have hd2 : (((s[0]'(by omega)).toNat : Int) == 120) = false := beq_eq_false_iff_ne.2 fun e => hx (UInt8.toNat_inj.1 (by show _ = 120; omega))
      have h0 : 0 < s.size := by omega
      have HN : Hid (bytesB (bs s) = none) := Lib.hid (by
        have := bs_get? s 0 h0
        unfold bytesB
        split
        · rename_i r heq
          rw [heq] at this
          exact absurd (Option.some.inj this).symm hx
        · rfl)
      clear hx
      go_enter Tryd.func44, Tryd.ntmps44
      go_wp2_with (go_at_call 42; refine (hmn _).mono ?_; rintro e w' ⟨rfl, rfl⟩)
      exact ⟨rfl, YP.no HN.out (Below.refl _ _)⟩
  · have hd1 : ((s.size : Int) % 2 == 1) = false := beq_eq_false_iff_ne.2 (by omega)
    have HN : Hid (bytesB (bs s) = none) := Lib.hid (by
      unfold bytesB
      split
      · rename_i r heq
        have := bs_length s
        rw [heq, List.length_cons] at this
        exact pairs_odd r (by omega)
      · rfl)
    go_enter Tryd.func44, Tryd.ntmps44
    go_wp2_with (go_at_call 42; refine (hmn _).mono ?_; rintro e w' ⟨rfl, rfl⟩)
    exact ⟨rfl, YP.no HN.out (Below.refl _ _)⟩
end Go.Proofs.YtkodepckfdpaiaaDoor
