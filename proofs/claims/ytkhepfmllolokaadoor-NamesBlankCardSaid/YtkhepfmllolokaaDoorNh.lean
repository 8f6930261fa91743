/- pendentiveref06.List: the document's tokens of a list, byte by byte; conditions: at most 900000 bytes. -/
import Derived.Test.YtkhepfmllolokaaDoorNg
import Derived.Test.YtkhepfmllolokaaDoorTr
namespace Go.Proofs.YtkhepfmllolokaaDoor
set_option linter.unusedSimpArgs false
set_option linter.unusedVariables false
open Go.RowKit
def restB (s : By) (i : Nat) (out : List By) (t : By) (b : Bool) : Option (List By) := if i ≤ s.length then refGo (s.drop i) out t b else some out
theorem rest_le {s : By} {i : Nat} (h : i ≤ s.length) (out : List By) (t : By) (b : Bool) : restB s i out t b = refGo (s.drop i) out t b := by rw [restB, if_pos h]
theorem rest_gt {s : By} {i : Nat} (h : ¬ i ≤ s.length) (out : List By) (t : By) (b : Bool) : restB s i out t b = some out := by rw [restB, if_neg h]
theorem rest_end (s : By) (out : List By) (t : By) (b : Bool) : restB s s.length out t b = restB s (s.length + 1) (if t = [] then out else out ++ [t]) [] false := by
  rw [rest_le (Nat.le_refl _), List.drop_length, refGo, rest_gt (by omega)]
theorem rest_at {s : By} {i : Nat} (h : i < s.length) (out : List By) (t : By) (b : Bool) : restB s i out t b = if s[i] = 44 then restB s (i + 1) (if t = [] then out else out ++ [t]) [] false
    else if s[i] = 32 ∨ s[i] = 9 then restB s (i + 1) out t (!t.isEmpty) else if b = true ∨ tokC s[i] = false then none else restB s (i + 1) out (t ++ [s[i]]) b := by
  have h1 : i + 1 ≤ s.length := h
  simp only [rest_le h1]
  rw [rest_le (by omega), List.drop_eq_getElem_cons h, refGo]
theorem u8_eq (c d : UInt8) : (((c.toNat : Int) == (d.toNat : Int)) : Bool) = decide (c = d) := by
  rw [Bool.eq_iff_iff, beq_iff_eq, decide_eq_true_eq]
  exact ⟨fun h => UInt8.toNat_inj.1 (by omega), fun h => by rw [h]⟩
theorem bs_one (s : ByteArray) (i : Nat) (h : i < s.size) : bs (s.extract i (i + 1)) = [s[i]] := by
  have h1 := bs_get? s i h
  have h2 : (bs s).length = s.size := bs_length s
  simp only [bs, ByteArray.data_extract, Array.toList_extract, List.extract_eq_take_drop] at h1 ⊢
  rw [show i + 1 - i = 1 by omega, List.take_one, List.head?_drop, h1]; rfl
theorem slice_one (s : ByteArray) (i : Nat) (h : i < s.size) (w : World) : (Instr.slice 9 (.string s) (some (.int .i64 (i : Int))) (some (.int .i64 ((i : Int) + 1))) none).run Tryd.prog w = .ok (.string (s.extract i (i + 1))) w := by
  have e := run_slice_string (P := Tryd.prog) w 9 s .i64 .i64 (i : Int) ((i : Int) + 1) Tryd.underlying9 (by omega) (by omega) (by omega)
  rw [e, Int.toNat_natCast, show ((i : Int) + 1).toNat = i + 1 by omega]
theorem tokB_one (c : UInt8) : tokB [c] = tokC c := by simp [tokB]
theorem App1.below {W w' : World} {base : Nat} {v v' : Value} {ys : List ByteArray} {t : ByteArray} (h : App1 base W v ys t v' w') (ho : OwnS W base v ys) (hb : base ≤ W.heap.size) : Below base W w' :=
  below_grown h.grown hb fun g e => by
    rcases ho.blk with e' | ⟨g', cur, e', _, hg⟩
    · rw [e'] at e; cases e
    · rw [e'] at e; cases e; exact hg
theorem app_below {w wr w2 : World} {v v2 : Value} {ys : List ByteArray} {t : ByteArray} {o : Obj} (hx : OwnS wr w.heap.size v ys ∧ Below w.heap.size w wr) (hF : App1 w.heap.size (wr.alloc o) v ys t v2 w2) : OwnS w2 w.heap.size v2 (ys ++ [t]) ∧ Below w.heap.size w w2 := by
  have hb := Nat.le_trans hx.2.size (below_alloc1 wr o).size
  exact ⟨hF.own, (hx.2.trans ((below_alloc1 wr o).mono hx.2.size)).trans (hF.below (hx.1.al o) hb)⟩
theorem str_no {t : ByteArray} (h : bs t = []) : t.toList.isEmpty = true := by rw [ByteArray.toList_eq]; exact List.isEmpty_iff.2 h
theorem str_yes {t : ByteArray} (h : bs t ≠ []) : t.toList.isEmpty = false := by rw [ByteArray.toList_eq]; exact (List.isEmpty_eq_false_iff).2 h
theorem u8_is {c d : UInt8} (h : c = d) : (((c.toNat : Int) == (d.toNat : Int)) : Bool) = true := by rw [u8_eq]; exact decide_eq_true h
theorem u8_isnt {c d : UInt8} (h : c ≠ d) : (((c.toNat : Int) == (d.toNat : Int)) : Bool) = false := by rw [u8_eq]; exact decide_eq_false h
/-- What List by the document leaves. -/
def RP (w : World) (s : ByteArray) (e : Ending) (w' : World) : Prop := Below w.heap.size w w' ∧
  ((∃ r A' c', listB [bs s] = some (bss r) ∧ e = .returned (.tuple #[.slice A' r.length c', .bool true]) ∧ r.length ≤ s.size + 1 ∧ r.length ≤ c' ∧ c' ≤ maxLen ∧ Strs w' A' r) ∨ (listB [bs s] = none ∧ e = .returned (.tuple #[.slice none 0 0, .bool false])))
set_option maxRecDepth 100000 in
set_option maxHeartbeats 8000000 in
theorem refList_calls (s : ByteArray) (w : World) (hs : s.size ≤ 900000) :
    Calls Tryd.prog 25 #[.string s] w (RP w s) := by
  go_enter Tryd.func25, Tryd.ntmps25
  go_wp2
  go_loopg [4, 5, 6, 7] (s.size + 1) (fun gh v4 v5 v6 v7 wx => ∃ (i : Nat) (out : List ByteArray) (tk : ByteArray) (bk : Bool), v7 = .int .i64 i ∧ v5 = .string tk ∧ v6 = .bool bk ∧ i + gh = s.size + 1 ∧ out.length ≤ i ∧ tk.size ≤ i ∧
    Hid (listB [bs s] = restB (bs s) i (bss out) (bs tk) bk) ∧ Hid (OwnS wx w.heap.size v4 out ∧ Below w.heap.size w wx))
  case atStart => exact ⟨0, [], ⟨#[]⟩, false, rfl, rfl, rfl, by omega, Nat.le_refl _, Nat.le_refl _, Lib.hid (by rw [restB, if_pos (Nat.zero_le _), List.drop_zero]; exact (refGo_all _).symm), Lib.hid ⟨OwnS.new' w rfl (Nat.le_refl _), below_alloc1 w _⟩⟩
  case round =>
    obtain ⟨i, out, tk, bk, rfl, rfl, rfl, hi, hol, htl, hg, hx⟩ := hrel
    by_cases hlt : i < s.size
    · have hle : ((i : Int) == (s.size : Int)) = false := by rw [beq_eq_false_iff_ne]; omega
      have HG := Lib.hid (hg.out.trans (rest_at (by rw [bs_length]; exact hlt) _ _ _))
      have e0 : (bs s)[i]'(by rw [bs_length]; exact hlt) = s[i] := rfl
      rw [e0] at HG
      clear hg e0
      by_cases h44 : s[i] = 44
      · have hc : ((s[i].toNat : Int) == 44) = true := by rw [show (44 : Int) = (((44 : UInt8).toNat : Nat) : Int) from rfl, u8_eq]; exact decide_eq_true h44
        rw [if_pos h44] at HG
        clear h44
        by_cases ht : bs tk = []
        · rw [if_pos ht] at HG
          have he := str_no ht
          clear ht
          go_wp2
          go_roundg (s.size + 1 - (i + 1))
          case measure => omega
          case rel => exact ⟨i + 1, out, ⟨#[]⟩, false, by go_num, rfl, rfl, by omega, by omega, Nat.zero_le _, HG, hx⟩
        · rw [if_neg ht] at HG
          have he := str_yes ht
          clear ht
          go_wp2_with (at_builtin
                       refine wpList_app rfl _ _ _ rfl u4 (.slice (some ⟨wr.heap.size, 0, none⟩) 1 1) (by rfl) (by rfl) (OwnS.app1 (hx.out.1.al _) _ wr.heap.size tk (Blk.new' _ _ _ rfl) ?h2 ?h3) ?_
                       case h2 => omega
                       case h3 => exact (Nat.le_trans hx.out.2.size (below_alloc1 _ _).size)
                       intro v2 w2 hF
                       have HF := Lib.hid hF
                       clear hF)
          go_roundg (s.size + 1 - (i + 1))
          case measure => omega
          case rel => exact ⟨i + 1, out ++ [tk], ⟨#[]⟩, false, by go_num, rfl, rfl, by omega, by rw [List.length_append]; simp; omega, Nat.zero_le _, Lib.hid (by rw [HG.out]; simp [bss]), Lib.hid (app_below hx.out HF.out)⟩
      · have hc : ((s[i].toNat : Int) == 44) = false := u8_isnt (d := 44) h44
        rw [if_neg h44] at HG
        clear h44
        by_cases hb : s[i] = 32 ∨ s[i] = 9
        · rw [if_pos hb] at HG
          by_cases ht : bs tk = []
          · have he := str_no ht
            rw [ht] at HG
            have HT := Lib.hid ht
            clear ht
            by_cases h32 : s[i] = 32
            · have hd : ((s[i].toNat : Int) == 32) = true := u8_is (d := 32) h32
              clear hb h32
              go_wp2
              go_roundg (s.size + 1 - (i + 1))
              case measure => omega
              case rel => exact ⟨i + 1, out, tk, false, by go_num, rfl, rfl, by omega, by omega, by omega, Lib.hid (by rw [HG.out, HT.out]; rfl), hx⟩
            · have hd : ((s[i].toNat : Int) == 32) = false := u8_isnt (d := 32) h32
              have hd9 : ((s[i].toNat : Int) == 9) = true := u8_is (d := 9) (hb.resolve_left h32)
              clear hb h32
              go_wp2
              go_roundg (s.size + 1 - (i + 1))
              case measure => omega
              case rel => exact ⟨i + 1, out, tk, false, by go_num, rfl, rfl, by omega, by omega, by omega, Lib.hid (by rw [HG.out, HT.out]; rfl), hx⟩
          · have he := str_yes ht
            have h2 : (!(bs tk).isEmpty) = true := by rw [← toList_bs, he]; rfl
            rw [h2] at HG
            clear ht h2
            by_cases h32 : s[i] = 32
            · have hd : ((s[i].toNat : Int) == 32) = true := u8_is (d := 32) h32
              clear hb h32
              go_wp2
              go_roundg (s.size + 1 - (i + 1))
              case measure => omega
              case rel => exact ⟨i + 1, out, tk, true, by go_num, rfl, rfl, by omega, by omega, by omega, HG, hx⟩
            · have hd : ((s[i].toNat : Int) == 32) = false := u8_isnt (d := 32) h32
              have hd9 : ((s[i].toNat : Int) == 9) = true := u8_is (d := 9) (hb.resolve_left h32)
              clear hb h32
              go_wp2
              go_roundg (s.size + 1 - (i + 1))
              case measure => omega
              case rel => exact ⟨i + 1, out, tk, true, by go_num, rfl, rfl, by omega, by omega, by omega, HG, hx⟩
        · rw [if_neg hb] at HG
          have hd : ((s[i].toNat : Int) == 32) = false := u8_isnt (d := 32) fun e => hb (.inl e)
          have hd9 : ((s[i].toNat : Int) == 9) = false := u8_isnt (d := 9) fun e => hb (.inr e)
          clear hb
          have htk := fun w => reftoken_calls (s.extract i (i + 1)) w (by rw [← bs_length, bs_one s i hlt]; show 1 ≤ maxLen; unfold maxLen; omega)
          rw [bs_one s i hlt, tokB_one] at htk
          have hsl := fun w => slice_one s i hlt w
          cases bk with
          | true =>
            rw [if_pos (.inl rfl)] at HG
            clear htk hsl
            go_wp2
            go_ret2
            exact ⟨hx.out.2, .inr ⟨HG.out, rfl⟩⟩
          | false =>
            cases hk : tokC s[i] with
            | false =>
              rw [if_pos (.inr hk)] at HG
              rw [hk] at htk
              clear hk
              go_wp2_with (go_at_call 42; refine (htk _).mono ?_; rintro e w' ⟨rfl, rfl⟩)
              go_ret2
              exact ⟨hx.out.2, .inr ⟨HG.out, rfl⟩⟩
            | true =>
              rw [if_neg (by rw [hk]; simp)] at HG
              rw [hk] at htk
              have hz : (tk ++ s.extract i (i + 1)).size ≤ i + 1 := by
                rw [← bs_length, bs_app, List.length_append, bs_one s i hlt, bs_length]
                show tk.size + 1 ≤ i + 1; omega
              have HZ := Lib.hid hz
              clear hk hz
              go_wp2_with (go_at_call 42; refine (htk _).mono ?_; rintro e w' ⟨rfl, rfl⟩)
              go_roundg (s.size + 1 - (i + 1))
              case measure => omega
              case rel => exact ⟨i + 1, out, _, false, by go_num, rfl, rfl, by omega, by omega, HZ.out, Lib.hid (by rw [HG.out, bs_app, bs_one s i hlt]), hx⟩
    · by_cases hend : i = s.size
      · subst hend
        have HG : Hid (listB [bs s] = restB (bs s) ((bs s).length + 1) (if bs tk = [] then bss out else bss out ++ [bs tk]) [] false) := Lib.hid (hg.out.trans (by rw [← bs_length]; exact rest_end _ _ _ _))
        clear hg
        by_cases ht : bs tk = []
        · rw [if_pos ht] at HG
          have he := str_no ht
          clear ht
          go_wp2
          go_roundg 0
          case measure => omega
          case rel => exact ⟨s.size + 1, out, ⟨#[]⟩, false, by go_num, rfl, rfl, by omega, by omega, Nat.zero_le _, Lib.hid (by rw [HG.out, bs_length]), hx⟩
        · rw [if_neg ht] at HG
          have he := str_yes ht
          clear ht
          go_wp2_with (at_builtin
                       refine wpList_app rfl _ _ _ rfl u4 (.slice (some ⟨wr.heap.size, 0, none⟩) 1 1) (by rfl) (by rfl) (OwnS.app1 (hx.out.1.al _) _ wr.heap.size tk (Blk.new' _ _ _ rfl) ?h2 ?h3) ?_
                       case h2 => omega
                       case h3 => exact (Nat.le_trans hx.out.2.size (below_alloc1 _ _).size)
                       intro v2 w2 hF
                       have HF := Lib.hid hF
                       clear hF)
          go_roundg 0
          case measure => omega
          case rel => exact ⟨s.size + 1, out ++ [tk], ⟨#[]⟩, false, by go_num, rfl, rfl, by omega, by rw [List.length_append]; simp; omega, Nat.zero_le _, Lib.hid (by rw [HG.out, bs_length]; simp [bss]), Lib.hid (app_below hx.out HF.out)⟩
      · have hi2 : i = s.size + 1 := by omega
        have hg2 := hg.out
        rw [rest_gt (by rw [bs_length]; omega)] at hg2
        obtain ⟨A', c', hv, h1, h2, h3⟩ := hx.out.1.form
        have HG := Lib.hid (And.intro hg2 (And.intro h1 (And.intro h2 (And.intro h3 hx.out.2))))
        clear hg hg2 h1 h2 h3 hend
        subst hi2
        subst hv
        go_wp2
        go_ret2
        exact ⟨HG.out.2.2.2.2, .inl ⟨out, A', c', HG.out.1, rfl, hol, HG.out.2.1, HG.out.2.2.1, HG.out.2.2.2.1⟩⟩
end Go.Proofs.YtkhepfmllolokaaDoor
