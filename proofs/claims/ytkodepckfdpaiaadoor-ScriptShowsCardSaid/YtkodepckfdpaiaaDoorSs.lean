/- Whether the package is awake, by the program; condition: the world holds what the library's numbers lean on. -/
import Derived.Test.YtkodepckfdpaiaaDoorSr
namespace Go.Proofs.YtkodepckfdpaiaaDoor
set_option linter.unusedSimpArgs false
set_option linter.unusedVariables false
open Go.RowKit
theorem itoa0 : Lib.itoa 0 = [48] := by
  have := itoa_nat 0
  rw [show ((0 : Nat) : Int) = 0 from rfl] at this
  rw [this, Lib.decDigits, dif_pos (by decide)]; rfl
theorem itoa1 : Lib.itoa 1 = [49] := by
  have := itoa_nat 1
  rw [show ((1 : Nat) : Int) = 1 from rfl] at this
  rw [this, Lib.decDigits, dif_pos (by decide)]; rfl
theorem itoa2 : Lib.itoa 2 = [50] := by
  have := itoa_nat 2
  rw [show ((2 : Nat) : Int) = 2 from rfl] at this
  rw [this, Lib.decDigits, dif_pos (by decide)]; rfl
@[reducible] def awT : ByteArray := ⟨#[102, 101, 101, 100, 32, 48, 32, 49, 32, 120, 56, 49, 48, 48, 10, 97, 99, 99, 101, 112, 116, 10]⟩
@[reducible] def aw1 : Dd := ⟨⟨#[102, 101, 101, 100]⟩, 0, 1, 0, false, ⟨#[129, 0]⟩⟩
@[reducible] def aw2 : Dd := ⟨⟨#[97, 99, 99, 101, 112, 116]⟩, 0, 0, 0, false, ⟨#[]⟩⟩
theorem aw_text : allT (dps [aw1, aw2]) = bs awT := by
  have h1 : textD aw1.dp = [102, 101, 101, 100, 32, 48, 32, 49, 32, 120, 56, 49, 48, 48, 10] := by
    have e : textD aw1.dp = kFeed ++ ((32 :: Lib.itoa 0) ++ ((32 :: Lib.itoa 1) ++ ((32 :: hexB [129, 0]) ++ []))) ++ [10] := rfl
    rw [e, itoa0, itoa1]; rfl
  have h2 : textD aw2.dp = [97, 99, 99, 101, 112, 116, 10] := rfl
  have e : allT (dps [aw1, aw2]) = textD aw1.dp ++ (textD aw2.dp ++ []) := rfl
  rw [e, h1, h2]; rfl
theorem aw_ok : ∀ d ∈ dps [aw1, aw2], checkD d = true := by
  intro d hd
  have : d = aw1.dp ∨ d = aw2.dp := by simpa [dps] using hd
  rcases this with rfl | rfl <;> decide
theorem aw_read : readD (bs awT) = .ok (dps [aw1, aw2]) := by
  rw [← aw_text]
  exact readD_all _ aw_ok
theorem dp_inj {a b : Dd} (h : a.dp = b.dp) : a = b := by
  cases a; cases b
  simp only [Dd.dp, Dp.mk.injEq] at h
  obtain ⟨h1, rfl, rfl, rfl, rfl, h6⟩ := h
  rw [bs_inj h1, bs_inj h6]
theorem dps_inj {a b : List Dd} (h : dps a = dps b) : a = b := List.map_inj_right (fun _ _ h => dp_inj h) |>.1 h
theorem aw_show : showV [aw1, aw2] = .tuple #[.string awT, .int .i64 0] := by
  have : allOk [aw1, aw2] = true := by decide
  rw [showV_yes this, aw_text, mk_bs]
theorem aw_tell : mk (tellB 0 2 (bs ⟨#[97]⟩)) = ⟨#[50, 32, 120, 54, 49, 10]⟩ := by
  have e : tellB 0 2 (bs ⟨#[97]⟩) = Lib.itoa 2 ++ (32 :: hexB [97]) ++ [10] := rfl
  rw [e, itoa2]; rfl
theorem awake_calls (w : World) (he : Env w) :
    Calls Tryd.prog 9 #[] w fun e w' => e = .returned (.bool true) ∧ Below w.heap.size w w' := by
  have HEN := Lib.hid he
  clear he
  have hrd := fun w' (h : Env w') => Read_calls awT w' (by decide) h
  have hRP : ∀ {w' e w''}, RP w' (bs awT) e w'' → ∃ A c, e = .returned (.tuple #[.slice A 2 c, .int .i64 0, .int .i64 0]) ∧ Dds w'' A [aw1, aw2] ∧ Below w'.heap.size w' w'' := fun {w' e w''} h => by
    obtain ⟨hb, ⟨v, ds, rfl, hr, ho, _⟩ | ⟨n, _, hr, _⟩⟩ := h
    · rw [aw_read] at hr
      have hd : [aw1, aw2] = ds := dps_inj (Except.ok.inj hr)
      subst hd
      obtain ⟨A, c, rfl, _, _, hD⟩ := ho.form
      exact ⟨A, c, rfl, hD, hb⟩
    · rw [aw_read] at hr; cases hr
  have hin : ∀ d ∈ [aw1, aw2], d.In := fun d hd => by
    have : d = aw1 ∨ d = aw2 := by simpa using hd
    rcases this with rfl | rfl <;> exact ⟨by decide, by decide, by decide, by decide⟩
  have hsh := fun A c w' (hA : Dds w' A [aw1, aw2]) (h : Env w') => Show_calls A c [aw1, aw2] w' (by decide) hA hin h
  rw [aw_show] at hsh
  have hck := fun w' => Check_calls aw1 w' (hin aw1 (by simp))
  rw [show checkD aw1.dp = true by decide] at hck
  have htl := fun w' (h : Env w') => Tell_calls 0 2 ⟨#[97]⟩ w' (by decide) (by decide) (by decide) (by decide) (by decide) h
  rw [aw_tell] at htl
  go_enter Tryd.func9, Tryd.ntmps9
  go_upto_region 3 with (go_at_call 15; refine (hrd _ HEN.out).mono ?_; intro e w1 hrp; obtain ⟨A, c, rfl, hD, hb⟩ := hRP hrp; have HD1 := Lib.hid hD; have HB1 := Lib.hid hb; clear hrp hD hb)
  go_upto_region 4 with (go_at_call 13; refine (hsh A c _ HD1.out (HEN.out.below HB1.out)).mono ?_; rintro e w2 ⟨rfl, hb⟩; have HD2 := Lib.hid (HD1.out.below hb); have HB2 := Lib.hid (bt HB1.out hb); clear hb)
  obtain ⟨b, off, rfl, h0, h1, h2, h3, h4, h5⟩ := HD2.out 0 (by decide)
  have c0 : w2.cell? ⟨b, off, none⟩ = some (.string ⟨#[102, 101, 101, 100]⟩) := h0
  have c1 : w2.cell? ⟨b, off + 1, none⟩ = some (.int .i64 0) := h1
  have c2 : w2.cell? ⟨b, off + 2, none⟩ = some (.int .i64 1) := h2
  have c3 : w2.cell? ⟨b, off + 3, none⟩ = some (.int .i64 0) := h3
  have c4 : w2.cell? ⟨b, off + 4, none⟩ = some (.bool false) := h4
  have c5 : w2.cell? ⟨b, off + 5, none⟩ = some (.string ⟨#[129, 0]⟩) := h5
  clear h0 h1 h2 h3 h4 h5
  go_wp2_with (first
    | (go_at_call 11; refine (hck _).mono ?_; rintro e w3 ⟨rfl, hb⟩; have HB3 := Lib.hid (bt HB2.out hb); clear hb)
    | (go_at_call 17; refine (htl _ (HEN.out.below HB3.out)).mono ?_; rintro e w4 ⟨rfl, hb⟩; have HB4 := Lib.hid (bt HB3.out hb); clear hb))
  go_ret
  exact ⟨rfl, HB4.out⟩
end Go.Proofs.YtkodepckfdpaiaaDoor
