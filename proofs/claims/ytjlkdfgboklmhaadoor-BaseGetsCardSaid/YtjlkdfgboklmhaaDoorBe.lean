/- base.Get and base.Has: the bytes of letters; conditions: at most 1000 letters. -/
import Derived.Test.YtjlkdfgboklmhaaDoorBd
import Derived.Lib.OthersKept
import Derived.Laws.RangeString
import Derived.Laws.RangeAny
import Derived.Lib.DecodeN
namespace Go.Proofs.YtjlkdfgboklmhaaDoor
set_option linter.unusedSimpArgs false
set_option linter.unusedVariables false
open Go.RowKit
abbrev St := Nat × Nat × List UInt8
def gfold (l : List UInt8) (st : St) : St := l.foldl (fun st b => gstep (valN b.toNat).toNat st) st
def okL (l : List UInt8) : Bool := l.all fun b => valB b.toNat
/-- The bytes of letters, or none. -/
def getB (s : List UInt8) : Option (List UInt8) :=
  if s.length % 4 = 0 then
    if okL (Lib.trimRightB s 61) then
      if (gfold (Lib.trimRightB s 61) (0, 0, [])).1 = 0 ∧ sizeN (gfold (Lib.trimRightB s 61) (0, 0, [])).2.2.length = s.length then some (gfold (Lib.trimRightB s 61) (0, 0, [])).2.2 else none
    else none
  else none
def codeG (o : Option (List UInt8)) : Int := match o with | some _ => 0 | none => 20
/-- A state that Get may be in behind k letters. -/
def StOk (k : Nat) (st : St) : Prop := (st.2.1 = 0 ∨ st.2.1 = 2 ∨ st.2.1 = 4 ∨ st.2.1 = 6) ∧ st.1 < 2 ^ st.2.1 ∧ st.2.2.length ≤ k
theorem StOk.step {k : Nat} {st : St} (h : StOk k st) {x : Nat} (hx : x < 64) : StOk (k + 1) (gstep x st) := by
  obtain ⟨v, n, out⟩ := st
  obtain ⟨h1, h2, h3⟩ := h
  simp only at h1 h2 h3
  unfold gstep
  rcases h1 with rfl | rfl | rfl | rfl
  · rw [if_pos (show (0 : Nat) < 2 by omega)]
    exact ⟨.inr (.inr (.inr rfl)), by show v * 64 + x < 2 ^ 6; omega, Nat.le_succ_of_le h3⟩
  · rw [if_neg (show ¬ (2 : Nat) < 2 by omega)]
    exact ⟨.inl rfl, Nat.mod_lt _ (Nat.two_pow_pos _), by show (out ++ [_]).length ≤ k + 1; rw [List.length_append]; exact Nat.succ_le_succ h3⟩
  · rw [if_neg (show ¬ (4 : Nat) < 2 by omega)]
    exact ⟨.inr (.inl rfl), Nat.mod_lt _ (Nat.two_pow_pos _), by show (out ++ [_]).length ≤ k + 1; rw [List.length_append]; exact Nat.succ_le_succ h3⟩
  · rw [if_neg (show ¬ (6 : Nat) < 2 by omega)]
    exact ⟨.inr (.inr (.inl rfl)), Nat.mod_lt _ (Nat.two_pow_pos _), by show (out ++ [_]).length ≤ k + 1; rw [List.length_append]; exact Nat.succ_le_succ h3⟩
theorem decode_le (s : ByteArray) (i : Nat) : (Utf8.decode s i).1 ≤ 2147483647 := by
  rw [Lib.decode_at]
  have h0 : (s.get! i).toNat < 256 := UInt8.toNat_lt _
  unfold Lib.decodeN
  repeat' split
  all_goals simp only
  all_goals omega
theorem valB_high {c : Nat} (h : 128 ≤ c) : valB c = false := by
  unfold valB
  simp only [Bool.or_eq_false_iff, decide_eq_false_iff_not]
  omega
theorem GS.iter {B bv bn bo v n it : Nat} {out : List UInt8} {w : World} (h : GS B bv bn bo v n out w) {s : ByteArray} {p : Nat} (hi : w.heap[it]? = some (Obj.stringIter s p)) (p' : Nat) : GS B bv bn bo v n out (w.iterAt it s p') := by
  have key : ∀ (M : Nat) (cs : Array Value) (t : TypeId), w.heap[M]? = some (.cells cs t (0, 0)) → (w.iterAt it s p').heap[M]? = some (.cells cs t (0, 0)) := fun M cs t hM => by
    have hne : M ≠ it := fun e => by subst e; rw [hi] at hM; cases hM
    rw [Lib.iterAt_other w it M s p' hne]; exact hM
  obtain ⟨a, b, vs, c, d⟩ := h
  refine ⟨key _ _ _ a, key _ _ _ b, vs, key _ _ _ c, d.1, ?_⟩
  rcases d.2 with d2 | ⟨g, cap, cur, e1, e2, e3, e4⟩
  · exact .inl d2
  · exact .inr ⟨g, cap, cur, e1, e2, key _ _ _ e3, e4⟩
theorem gfold_take (l : List UInt8) (k : Nat) (h : k < l.length) (st : St) : gfold (l.take (k + 1)) st = gstep (valN l[k].toNat).toNat (gfold (l.take k) st) := by
  unfold gfold
  rw [List.take_succ_eq_append_getElem h, List.foldl_append]; rfl
theorem own_form {w : World} {B : Nat} {vs : Value} {out : List UInt8} (h : w.ownsRow B 5 1 vs out.length (bcells out)) : ∃ A c, vs = .slice A out.length c ∧ out.length ≤ c ∧ c ≤ maxLen ∧ Bys w A out := by
  rcases h.2 with ⟨rfl, h0⟩ | ⟨g, cap, cur, rfl, hb, hg, hnc, hcm, hcs, htake⟩
  · exact ⟨none, 0, by rw [h0], by omega, Nat.zero_le _, fun i hi => by omega⟩
  · refine ⟨some ⟨g, 0, none⟩, cap, rfl, hnc, hcm, fun i hi => ⟨g, 0, rfl, ?_⟩⟩
    rw [Nat.zero_add]
    refine (World.ownsRow.cellAt (w := w) (g := g) h i (by omega)).trans ?_
    show (out.map _)[i]? = _
    rw [List.getElem?_map, List.getElem?_eq_getElem hi]; rfl
theorem get_start (w : World) (s : ByteArray) : GS w.heap.size (w.heap.size + 1) (w.heap.size + 1 + 1) w.heap.size 0 0 [] ((((w.alloc (.cells #[.slice none 0 0] 24)).alloc (.cells #[.int .u32 0] 45)).alloc (.cells #[.int .i64 0] 3)).iter s 0) ∧
    ((((w.alloc (.cells #[.slice none 0 0] 24)).alloc (.cells #[.int .u32 0] 45)).alloc (.cells #[.int .i64 0] 3)).iter s 0).heap[w.heap.size + 1 + 1 + 1]? = some (Obj.stringIter s 0) ∧
    Below w.heap.size w ((((w.alloc (.cells #[.slice none 0 0] 24)).alloc (.cells #[.int .u32 0] 45)).alloc (.cells #[.int .i64 0] 3)).iter s 0) := by
  have h3 : GS w.heap.size (w.heap.size + 1) (w.heap.size + 1 + 1) w.heap.size 0 0 [] (((w.alloc (.cells #[.slice none 0 0] 24)).alloc (.cells #[.int .u32 0] 45)).alloc (.cells #[.int .i64 0] 3)) :=
    ⟨(Blk.new' _ _ _ (by simp)).alloc _, Blk.new' _ _ _ (by simp), .slice none 0 0, ((Blk.new' w _ _ rfl).alloc _).alloc _, World.ownsRow_nil _ _ _ _⟩
  have hb3 : Below w.heap.size w (((w.alloc (.cells #[.slice none 0 0] 24)).alloc (.cells #[.int .u32 0] 45)).alloc (.cells #[.int .i64 0] 3)) := below_al (below_al (below_alloc1 w _) _) _
  have hsz : (((w.alloc (.cells #[.slice none 0 0] 24)).alloc (.cells #[.int .u32 0] 45)).alloc (.cells #[.int .i64 0] 3)).heap.size = w.heap.size + 1 + 1 + 1 := by simp
  generalize ((w.alloc (.cells #[.slice none 0 0] 24)).alloc (.cells #[.int .u32 0] 45)).alloc (.cells #[.int .i64 0] 3) = W at h3 hb3 hsz ⊢
  have hi := World.iter_heap W s 0
  rw [hsz] at hi
  exact ⟨h3.al _, hi, below_al hb3 _⟩
set_option maxRecDepth 100000 in
set_option maxHeartbeats 4000000 in
theorem Get_calls (s : ByteArray) (w : World) (hs : s.size ≤ 1000) :
    Calls Tryd.prog 13 #[.string s] w fun e w' => ∃ (A : Option Addr) (c : Nat), e = .returned (.tuple #[.slice A ((getB (bs s)).getD []).length c, .int .i64 (codeG (getB (bs s)))]) ∧
      Bys w' A ((getB (bs s)).getD []) ∧ ((getB (bs s)).getD []).length ≤ c ∧ c ≤ maxLen ∧ Below w.heap.size w w' := by
  by_cases h4 : s.size % 4 = 0
  · have hd4 : ((s.size : Int) % 4 != 0) = false := by simp; omega
    have ht := Tryd.strings_TrimRight_one s 61 (by decide) w (by omega)
    have HG : Hid (getB (bs s) = _) := Lib.hid (by rw [getB, bs_length, if_pos h4])
    obtain ⟨bd, hbd⟩ : ∃ bd : ByteArray, bd = ⟨(Lib.trimRightB s.data.toList 61).toArray⟩ := ⟨_, rfl⟩
    rw [← hbd] at ht
    have hbs : bs bd = Lib.trimRightB (bs s) 61 := by rw [hbd]
    rw [← hbs] at HG
    have hbl : bd.size ≤ 1000 := by
      rw [← bs_length, hbs, Lib.trimRightB, List.length_reverse]
      exact Nat.le_trans (List.dropWhile_sublist _).length_le (by rw [List.length_reverse, bs_length]; exact hs)
    clear hbd hbs h4
    go_enter Tryd.func13, Tryd.ntmps13
    go_wp2_with (go_at_call 21; refine ht.mono ?_; rintro e w' ⟨rfl, hw⟩; rw [hw]; clear hw w')
    clear ht
    go_loopg [10] bd.size (fun gh v10 wx => ∃ k : Nat, k + gh = bd.size ∧ Hid (okL ((bs bd).take k) = true ∧ StOk k (gfold ((bs bd).take k) (0, 0, []))) ∧
      Hid (GS w.heap.size (w.heap.size + 1) (w.heap.size + 1 + 1) w.heap.size (gfold ((bs bd).take k) (0, 0, [])).1 (gfold ((bs bd).take k) (0, 0, [])).2.1 (gfold ((bs bd).take k) (0, 0, [])).2.2 wx ∧ wx.heap[w.heap.size + 1 + 1 + 1]? = some (Obj.stringIter bd k) ∧ Below w.heap.size w wx))
    case atStart => exact ⟨0, by omega, Lib.hid ⟨rfl, .inl rfl, Nat.one_pos, Nat.le_refl _⟩, Lib.hid (get_start w bd)⟩
    case round =>
      obtain ⟨k, hk, hok, hx⟩ := hrel
      by_cases hlt : k < bd.size
      · have hnx : ∀ ty, (Instr.next (.pointer (some ⟨w.heap.size + 1 + 1 + 1, 0, none⟩)) true ty).run Tryd.prog wr = _ := fun ty => Lib.run_next_any_at wr (w.heap.size + 1 + 1 + 1) bd k ty hx.out.2.1 hlt
        have hci : (Utf8.decode bd k).1 ≤ 2147483647 := decode_le bd k
        have HDC : Hid (valB (Utf8.decode bd k).1 = valB bd[k].toNat ∧ (valB bd[k].toNat = true → (Utf8.decode bd k) = (bd[k].toNat, 1))) := by
          by_cases ha : bd[k].toNat < 128
          · have e := decode_ascii bd k hlt ha
            exact Lib.hid ⟨by rw [e], fun _ => e⟩
          · have e := (decode_high bd k hlt (by omega)).1
            have e1 := valB_high e
            have e2 := valB_high (c := bd[k].toNat) (by omega)
            exact Lib.hid ⟨by rw [e1, e2], fun h => by rw [e2] at h; cases h⟩
        obtain ⟨cN, hcN⟩ : ∃ cN, cN = (Utf8.decode bd k).1 := ⟨_, rfl⟩
        obtain ⟨wd, hwd⟩ : ∃ wd, wd = (Utf8.decode bd k).2 := ⟨_, rfl⟩
        rw [← hcN] at hci HDC
        rw [← hcN, ← hwd] at hnx
        have HCN := Lib.hid (And.intro hcN hwd)
        clear hcN hwd
        have HG1 : Hid (GS w.heap.size (w.heap.size + 1) (w.heap.size + 1 + 1) w.heap.size (gfold ((bs bd).take k) (0, 0, [])).1 (gfold ((bs bd).take k) (0, 0, [])).2.1 (gfold ((bs bd).take k) (0, 0, [])).2.2 (wr.iterAt (w.heap.size + 1 + 1 + 1) bd (k + wd)) ∧
            (wr.iterAt (w.heap.size + 1 + 1 + 1) bd (k + wd)).heap[w.heap.size + 1 + 1 + 1]? = some (Obj.stringIter bd (k + wd)) ∧ Below w.heap.size w (wr.iterAt (w.heap.size + 1 + 1 + 1) bd (k + wd))) :=
          Lib.hid ⟨hx.out.1.iter hx.out.2.1 _, Lib.iterAt_heap wr _ bd k _ hx.out.2.1, Lib.below_iterAt hx.out.2.2 (by omega) bd _⟩
        generalize wr.iterAt (w.heap.size + 1 + 1 + 1) bd (k + wd) = W1 at hnx HG1
        obtain ⟨x, hx1, hx2, htk⟩ := take_calls cN w.heap.size (w.heap.size + 1) (w.heap.size + 1 + 1) w.heap.size _ _ _ W1 (by omega) (by omega) HG1.out.1 ⟨by omega, by omega, by omega, HG1.out.2.2.size⟩ ⟨by omega, by omega, by omega⟩ hok.out.2.1 hok.out.2.2.1 (Nat.le_trans hok.out.2.2.2 (by omega))
        have HXX := Lib.hid (And.intro hx1 hx2)
        clear hx1 hx2
        generalize hvb : valB cN = vb at htk HDC
        have HTK := Lib.hid htk
        clear htk
        have HVB := Lib.hid hvb
        clear hvb
        cases vb
        · go_wp2_with (go_at_call 22; refine HTK.out.mono ?_; rintro e w2 ⟨rfl, hg2, hb2⟩)
          go_ret2
          have hno : okL (bs bd) = false := all_not bd k hlt HDC.out.1.symm
          have HN : getB (bs s) = none := by rw [HG.out, hno]; rfl
          refine ⟨none, 0, ?_, ?_⟩
          · rw [HN]; rfl
          · rw [HN]; exact ⟨fun i hi => absurd hi (Nat.not_lt_zero _), Nat.le_refl _, Nat.zero_le _, HG1.out.2.2.trans hb2.bel⟩
        · go_wp2_with (go_at_call 22; refine HTK.out.mono ?_; rintro e w2 ⟨rfl, hg2, hb2⟩)
          go_roundg (bd.size - (k + 1))
          case measure => omega
          case rel =>
            have hvt : valB bd[k].toNat = true := HDC.out.1.symm
            have hde := HDC.out.2 hvt
            have hc1 : cN = bd[k].toNat := by rw [HCN.out.1, hde]
            have hw1 : wd = 1 := by rw [HCN.out.2, hde]
            have hxe : (valN bd[k].toNat).toNat = x := by rw [← hc1, HXX.out.1]; rfl
            have hgt : gfold ((bs bd).take (k + 1)) (0, 0, []) = gstep x (gfold ((bs bd).take k) (0, 0, [])) := by
              rw [gfold_take (bs bd) k (by rw [bs_length]; exact hlt)]
              rw [show (bs bd)[k]'(by rw [bs_length]; exact hlt) = bd[k] from rfl, hxe]
            refine ⟨k + 1, by omega, Lib.hid ⟨?_, ?_⟩, Lib.hid ⟨?_, ?_, HG1.out.2.2.trans hb2.bel⟩⟩
            · show ((bs bd).take (k + 1)).all _ = true
              rw [take_all bd k hlt, hvt, Bool.and_true]; exact hok.out.1
            · rw [hgt]; exact hok.out.2.step HXX.out.2
            · rw [hgt]; exact hg2
            · have hit := hb2.it _ _ _ HG1.out.2.1
              rw [hw1] at hit; exact hit
      · have hnx : ∀ ty, (Instr.next (.pointer (some ⟨w.heap.size + 1 + 1 + 1, 0, none⟩)) true ty).run Tryd.prog wr = _ := fun ty => Lib.run_next_end_at wr (w.heap.size + 1 + 1 + 1) bd k ty hx.out.2.1 hlt
        have hke : (bs bd).take k = bs bd := List.take_of_length_le (by rw [bs_length]; omega)
        have hok2 := hok.out
        have hx2 := hx.out
        rw [hke] at hok2 hx2
        have HOK := Lib.hid hok2.1
        rw [HOK.out] at HG
        have hol := hok2.2.2.2
        generalize hst : gfold (bs bd) (0, 0, []) = st at HG hok2 hx2 hol
        obtain ⟨v, n, out⟩ := st
        simp only at HG hx2 hol
        have HGS := Lib.hid hx2
        clear hok hx hok2 hst
        have c0 : wr.cell? ⟨w.heap.size + 1, 0, none⟩ = some (.int .u32 v) := (HGS.out.1.hv.cell 0).trans rfl
        obtain ⟨vs, hbo, hown⟩ := HGS.out.1.ho
        obtain ⟨A, cc, rfl, hq1, hq2, hby⟩ := own_form hown
        have c2 : wr.cell? ⟨w.heap.size, 0, none⟩ = some (.slice A out.length cc) := (hbo.cell 0).trans rfl
        have HQ := Lib.hid (And.intro hq1 (And.intro hq2 hby))
        clear hbo hown hq1 hq2 hby hx2
        have hsz := Size_calls out.length wr (by omega) (by omega)
        by_cases hv0 : v = 0
        · have hd5 : ((v : Int) != 0) = false := by rw [hv0]; rfl
          by_cases hse : sizeN out.length = s.size
          · have hd6 : ((s.size : Int) != sizeN out.length) = false := by rw [hse]; simp
            have HN : Hid (getB (bs s) = some out) := Lib.hid (by rw [HG.out, if_pos trivial, if_pos ⟨hv0, hse⟩])
            clear HG hv0 hse
            go_wp2_with (go_at_call 15; refine hsz.mono ?_; rintro e w' ⟨rfl, hw⟩; rw [hw]; clear hw w')
            go_ret2
            refine ⟨A, cc, ?_, ?_⟩
            · rw [HN.out]; rfl
            · rw [HN.out]; exact ⟨HQ.out.2.2, HQ.out.1, HQ.out.2.1, HGS.out.2.2⟩
          · have hd6 : ((s.size : Int) != sizeN out.length) = true := by rw [bne_iff_ne]; exact fun e => hse e.symm
            have HN : Hid (getB (bs s) = none) := Lib.hid (by rw [HG.out, if_pos trivial, if_neg (fun h => hse h.2)])
            clear HG hv0 hse
            go_wp2_with (go_at_call 15; refine hsz.mono ?_; rintro e w' ⟨rfl, hw⟩; rw [hw]; clear hw w')
            go_ret2
            refine ⟨none, 0, ?_, ?_⟩
            · rw [HN.out]; rfl
            · rw [HN.out]; exact ⟨fun i hi => absurd hi (Nat.not_lt_zero _), Nat.le_refl _, Nat.zero_le _, HGS.out.2.2⟩
        · have hd5 : ((v : Int) != 0) = true := by rw [bne_iff_ne]; omega
          have HN : Hid (getB (bs s) = none) := Lib.hid (by rw [HG.out, if_pos trivial, if_neg (fun h => hv0 h.1)])
          clear HG hv0
          go_wp2
          go_ret2
          refine ⟨none, 0, ?_, ?_⟩
          · rw [HN.out]; rfl
          · rw [HN.out]; exact ⟨fun i hi => absurd hi (Nat.not_lt_zero _), Nat.le_refl _, Nat.zero_le _, HGS.out.2.2⟩
  · have hd4 : ((s.size : Int) % 4 != 0) = true := by simp; omega
    have HG : Hid (getB (bs s) = none) := Lib.hid (by rw [getB, bs_length, if_neg h4])
    go_enter Tryd.func13, Tryd.ntmps13
    go_wp2
    go_ret2
    refine ⟨none, 0, ?_, ?_⟩
    · rw [HG.out]; rfl
    · rw [HG.out]; exact ⟨fun i hi => absurd hi (Nat.not_lt_zero _), Nat.le_refl _, Nat.zero_le _, Below.refl _ _⟩
end Go.Proofs.YtjlkdfgboklmhaaDoor
