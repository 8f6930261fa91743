/- The document's Read: a field's line is none; conditions: the library's bound lies where it is laid; the text is not too great. -/
import Derived.BigRegion
import Derived.Deep.RegionLaw
import Derived.Test.YtknfoolcbfmpaaaDoorIk
namespace Go.Proofs.YtknfoolcbfmpaaaDoor
set_option linter.unusedSimpArgs false
set_option linter.unusedVariables false
open Go.RowKit
theorem slice_to (s : ByteArray) (i : Nat) (h : i ≤ s.size) (w : World) : (Instr.slice 9 (.string s) none (some (.int .i64 (i : Int))) none).run Tryd.prog w = .ok (.string (s.extract 0 i)) w := by
  have e := run_slice_string_h (P := Tryd.prog) w 9 s Tryd.underlying9 .i64 (i : Int) (by omega) (by omega)
  rw [e, Int.toNat_natCast]
theorem slice_ab (s : ByteArray) (i j : Nat) (h : i + 1 + j ≤ s.size) (w : World) : (Instr.slice 9 (.string s) (some (.int .i64 ((i : Int) + 1))) (some (.int .i64 ((i : Int) + 1 + (j : Int)))) none).run Tryd.prog w = .ok (.string (s.extract (i + 1) (i + 1 + j))) w := by
  have e := run_slice_string (P := Tryd.prog) w 9 s .i64 .i64 ((i : Int) + 1) ((i : Int) + 1 + (j : Int)) Tryd.underlying9 (by omega) (by omega) (by omega)
  rw [e, show ((i : Int) + 1).toNat = i + 1 by omega, show ((i : Int) + 1 + (j : Int)).toNat = i + 1 + j by omega]
theorem slice_ac (s : ByteArray) (i j : Nat) (h : i + 1 + j + 1 ≤ s.size) (w : World) : (Instr.slice 9 (.string s) (some (.int .i64 ((i : Int) + 1 + (j : Int) + 1))) none none).run Tryd.prog w = .ok (.string (s.extract (i + 1 + j + 1) s.size)) w := by
  have e := run_slice_string_l (P := Tryd.prog) w 9 s Tryd.underlying9 .i64 ((i : Int) + 1 + (j : Int) + 1) (by omega) (by omega)
  rw [e, show ((i : Int) + 1 + (j : Int) + 1).toNat = i + 1 + j + 1 by omega]
theorem Rem.lt {s : List UInt8} {n f : Nat} {l : List UInt8} {R : List (List UInt8)} (h : Rem s n f (l :: R)) : f < n + 2 := by
  rcases h with ⟨_, h⟩ | ⟨h, _⟩
  · cases h
  · omega
theorem Rem.nil {s : List UInt8} {n f : Nat} (h : Rem s n f []) : f = n + 2 := by
  rcases h with ⟨h, _⟩ | ⟨_, h⟩
  · exact h
  · exfalso
    unfold Lib.split at h
    generalize Lib.count ((s.take n).drop f) crlf = k at h
    cases k with
    | zero => cases h
    | succ k =>
      unfold Lib.splitK at h
      split at h <;> cases h
theorem refFld_some {l : List UInt8} {p : List UInt8 × List UInt8} (h : refFld l = some p) : atB l 58 < l.length ∧ p = (l.take (atB l 58), trimW (l.drop (atB l 58 + 1))) := by
  unfold refFld at h
  split at h
  · cases h
  · have := atB_le l 58
    exact ⟨by omega, (Option.some.inj h).symm⟩
theorem refFld_none {l : List UInt8} (h : refFld l = none) : atB l 58 = l.length := by
  unfold refFld at h
  split at h
  · assumption
  · cases h
theorem refFirst_some {l x y z : List UInt8} (h : refFirst l = some (x, y, z)) : atB l 32 < l.length ∧ atB l 32 + 1 + atB (l.drop (atB l 32 + 1)) 32 < l.length ∧ l.take (atB l 32) = x ∧ (l.drop (atB l 32 + 1)).take (atB (l.drop (atB l 32 + 1)) 32) = y ∧ l.drop (atB l 32 + 1 + atB (l.drop (atB l 32 + 1)) 32 + 1) = z := by
  unfold refFirst at h
  split at h
  · cases h
  · split at h
    · cases h
    · have h1 := atB_le l 32
      have h2 := atB_le (l.drop (atB l 32 + 1)) 32
      rw [List.length_drop] at h2
      have h3 := Option.some.inj h
      exact ⟨by omega, by omega, congrArg (·.1) h3, congrArg (·.2.1) h3, congrArg (·.2.2) h3⟩
/-- Behind the store of a first line. -/
theorem LS.first {w wx : World} {M1 H : Nat} {ls : List ByteArray} {a b c : ByteArray} {v : Value} {fs : List Fd} (h : LS w M1 H ls a b c v fs wx) (x y z : ByteArray) :
    LS w M1 H ls x y z v fs (((wx.setCell ⟨H, 0, none⟩ (.string x)).setCell ⟨H, 1, none⟩ (.string y)).setCell ⟨H, 2, none⟩ (.string z)).drew := by
  have hlt := h.lt
  have hlm := h.lm
  exact ⟨below_drew1 (below_set (below_set (below_set h.be (by omega) 0 _) (by omega) 1 _) (by omega) 2 _), ((h.rb.far (by omega) 0 _).far (by omega) 1 _).far (by omega) 2 _, ((h.hb.set 0 _).set 1 _).set 2 _, ((h.ow.set (Nat.lt_succ_self H) 0 _).set (Nat.lt_succ_self H) 1 _).set (Nat.lt_succ_self H) 2 _, ((h.mx.setCell (by omega) _).setCell (by omega) _).setCell (by omega) _, ((h.st.setCell (by omega) _).setCell (by omega) _).setCell (by omega) _, hlt, hlm⟩
/-- How far the document's Read has come. -/
structure ST (l0 : List UInt8) (ls : List (List UInt8)) (x y z : List UInt8) (q : Bool) (R : List (List UInt8)) (a b c : ByteArray) (fs : List Fd) : Prop where
  st : (q = true ∧ R = l0 :: ls ∧ fs = []) ∨ (q = false ∧ bs a = x ∧ bs b = y ∧ bs c = z ∧ R = ls.drop fs.length ∧ fs.length ≤ ls.length ∧ fs.map Fd.pd = (ls.take fs.length).filterMap refFld ∧ (ls.take fs.length).all (fun l => (refFld l).isSome) = true)
  sz : a.size ≤ 100000 ∧ b.size ≤ 100000 ∧ c.size ≤ 100000
  fz : ∀ f ∈ fs, f.nm.size ≤ 100000 ∧ f.vl.size ≤ 100000
theorem ST.start {l0 : List UInt8} {ls : List (List UInt8)} {x y z : List UInt8} : ST l0 ls x y z true (l0 :: ls) ⟨#[]⟩ ⟨#[]⟩ ⟨#[]⟩ [] := ⟨.inl ⟨rfl, rfl, rfl⟩, ⟨by decide, by decide, by decide⟩, fun f hf => by cases hf⟩
theorem ST.tru {l0 : List UInt8} {ls R : List (List UInt8)} {x y z : List UInt8} {a b c : ByteArray} {fs : List Fd} (h : ST l0 ls x y z true R a b c fs) : R = l0 :: ls ∧ fs = [] := by
  rcases h.st with ⟨_, h1, h2⟩ | ⟨h, _⟩
  · exact ⟨h1, h2⟩
  · cases h
theorem ST.fal {l0 : List UInt8} {ls R : List (List UInt8)} {x y z : List UInt8} {a b c : ByteArray} {fs : List Fd} (h : ST l0 ls x y z false R a b c fs) : bs a = x ∧ bs b = y ∧ bs c = z ∧ R = ls.drop fs.length ∧ fs.length ≤ ls.length ∧ fs.map Fd.pd = (ls.take fs.length).filterMap refFld ∧ (ls.take fs.length).all (fun l => (refFld l).isSome) = true := by
  rcases h.st with ⟨h, _⟩ | ⟨_, h⟩
  · cases h
  · exact h
theorem ST.first {l0 : List UInt8} {ls : List (List UInt8)} {x y z : List UInt8} {a b c : ByteArray} (h1 : bs a = x) (h2 : bs b = y) (h3 : bs c = z) (z1 : a.size ≤ 100000) (z2 : b.size ≤ 100000) (z3 : c.size ≤ 100000) : ST l0 ls x y z false ls a b c [] :=
  ⟨.inr ⟨rfl, h1, h2, h3, rfl, Nat.zero_le _, rfl, rfl⟩, ⟨z1, z2, z3⟩, fun f hf => by cases hf⟩
theorem ST.mem {l0 l : List UInt8} {ls R : List (List UInt8)} {x y z : List UInt8} {a b c : ByteArray} {fs : List Fd} (h : ST l0 ls x y z false (l :: R) a b c fs) : l ∈ ls := by
  have h4 := h.fal.2.2.2.1
  exact List.mem_of_mem_drop (h4 ▸ List.mem_cons_self)
theorem ST.push {l0 l : List UInt8} {ls R : List (List UInt8)} {x y z : List UInt8} {a b c : ByteArray} {fs : List Fd} {f : Fd} (h : ST l0 ls x y z false (l :: R) a b c fs) (hf : refFld l = some f.pd) (z1 : f.nm.size ≤ 100000) (z2 : f.vl.size ≤ 100000) : ST l0 ls x y z false R a b c (fs ++ [f]) := by
  obtain ⟨h1, h2, h3, h4, h5, h6, h7⟩ := h.fal
  have hlt : fs.length < ls.length := by
    rcases Nat.lt_or_ge fs.length ls.length with h8 | h8
    · exact h8
    · rw [List.drop_of_length_le h8] at h4; cases h4
  rw [List.drop_eq_getElem_cons hlt] at h4
  obtain ⟨e1, e2⟩ := List.cons.inj h4
  have ht : ls.take (fs ++ [f]).length = ls.take fs.length ++ [l] := by
    rw [List.length_append, List.length_cons, List.length_nil, Nat.zero_add, List.take_succ_eq_append_getElem hlt, e1]
  refine ⟨.inr ⟨rfl, h1, h2, h3, ?_, ?_, ?_, ?_⟩, h.sz, fun g hg => ?_⟩
  · rw [List.length_append]; exact e2
  · rw [List.length_append]; exact hlt
  · rw [ht, List.filterMap_append, List.map_append, h6]
    simp [hf]
  · rw [ht, List.all_append, h7]
    simp [hf]
  · rcases List.mem_append.1 hg with hg | hg
    · exact h.fz g hg
    · rw [List.mem_singleton.1 hg]; exact ⟨z1, z2⟩
theorem ST.all {l0 : List UInt8} {ls : List (List UInt8)} {x y z : List UInt8} {a b c : ByteArray} {fs : List Fd} (h : ST l0 ls x y z false [] a b c fs) : bs a = x ∧ bs b = y ∧ bs c = z ∧ fs.length = ls.length ∧ fs.map Fd.pd = ls.filterMap refFld ∧ ls.all (fun l => (refFld l).isSome) = true := by
  obtain ⟨h1, h2, h3, h4, h5, h6, h7⟩ := h.fal
  have hl : ls.length ≤ fs.length := List.drop_eq_nil_iff.1 h4.symm
  rw [List.take_of_length_le hl] at h6 h7
  exact ⟨h1, h2, h3, by omega, h6, h7⟩
theorem splitK_len (sep : List UInt8) (hs : 1 ≤ sep.length) : ∀ (k : Nat) (s : List UInt8), (Lib.splitK sep 0 k s).length ≤ s.length + 1
  | 0, s => by simp [Lib.splitK]
  | k + 1, s => by
    unfold Lib.splitK
    split
    · simp
    · rename_i hi
      have hge := Lib.index_ge s sep
      have hne : Lib.index s sep ≠ -1 := fun e => hi (beq_iff_eq.2 e)
      have hr := Lib.index_room s sep (by omega)
      have := splitK_len sep hs k (s.drop ((Lib.index s sep).toNat + sep.length))
      rw [List.length_drop] at this
      simp only [List.length_cons]
      omega
theorem split_len (s : List UInt8) : (Lib.split s [13, 10]).length ≤ s.length + 1 := splitK_len [13, 10] (by decide) _ s
set_option maxRecDepth 100000 in
set_option maxHeartbeats 4000000 in
theorem RefRead_field (s : ByteArray) (w : World) (hs : s.size ≤ 100000) (hm : MaxL w) (n : Nat) (hN : Lib.index ((bs s).take 2048) endB = n) (l0 : List UInt8) (ls : List (List UInt8)) (hL : Lib.split ((bs s).take n) [13, 10] = l0 :: ls) (x y z : List UInt8) (hF : refFirst l0 = some (x, y, z)) (hB : ls.all (fun l => (refFld l).isSome) = false) :
    Calls Tryd.prog 19 #[.string s] w (RP w (bs s)) := by
  obtain ⟨W0, hW0⟩ : ∃ W0, W0 = w.alloc (.cells (hCells ⟨#[]⟩ ⟨#[]⟩ ⟨#[]⟩ (.slice none 0 0)) 25 (0, 0)) := ⟨_, rfl⟩
  have HB0 : Hid (Below w.heap.size w W0) := Lib.hid (hW0 ▸ below_alloc1 w _)
  have HR0 : Hid (Blk W0 w.heap.size (hCells ⟨#[]⟩ ⟨#[]⟩ ⟨#[]⟩ (.slice none 0 0)) 25) := Lib.hid (hW0 ▸ Blk.new' w _ _ rfl)
  have HS0 : Hid (W0.heap.size = w.heap.size + 1) := Lib.hid (by rw [hW0]; simp)
  have HM0 : Hid (MaxL W0) := Lib.hid (hm.below HB0.out)
  obtain ⟨ho, hno, hn1, hn2⟩ := end_facts hN
  rw [bs_length] at hn1
  have HO := Lib.hid ho
  have HNO := Lib.hid hno
  have HC := Lib.hid (occ_end_crlf ho)
  have HRS : Hid (Rem (bs s) n 0 (l0 :: ls)) := Lib.hid (hL ▸ rem_start (bs s) n)
  have HQ : Hid (readB (bs s) = refLines (l0 :: ls) n) := Lib.hid (by rw [read_hit _ n hN, hL, lines_ref])
  have HF : Hid (atB l0 32 < l0.length ∧ atB l0 32 + 1 + atB (l0.drop (atB l0 32 + 1)) 32 < l0.length ∧ l0.take (atB l0 32) = x ∧ (l0.drop (atB l0 32 + 1)).take (atB (l0.drop (atB l0 32 + 1)) 32) = y ∧ l0.drop (atB l0 32 + 1 + atB (l0.drop (atB l0 32 + 1)) 32 + 1) = z) := Lib.hid (refFirst_some hF)
  have hll : ls.length ≤ 3000 := by
    have h1 := split_len ((bs s).take n)
    rw [hL, List.length_take] at h1
    simp only [List.length_cons] at h1
    omega
  have HQ2 : Hid (refLines (l0 :: ls) n = ⟨nilP, 0, 52⟩) := Lib.hid (by rw [refl_yes ls n hF, hB]; rfl)
  rw [HQ2.out] at HQ
  have HBB := Lib.hid hB
  clear hF HQ2 hB
  clear hN hL ho hno hm
  unfold RP
  generalize readB (bs s) = RR at HQ ⊢
  go_enter Tryd.func19, Tryd.ntmps19
  go_upto_region 1 with (fail)
  rw [← hW0]
  clear hW0
  go_wp2
  go_loopg [5, 6] (n + 2) (fun gh v5 v6 wx => ∃ (i : Nat) (m : Int), v6 = .int .i64 i ∧ i + gh = n + 2 ∧ v5 = .int .i64 m ∧ ((m = -1 ∧ i ≤ n) ∨ (m = n ∧ i = n + 1)) ∧ W0 = wx)
  case atStart => exact ⟨0, -1, rfl, by omega, rfl, .inl ⟨rfl, by omega⟩, rfl⟩
  case round =>
    obtain ⟨i, m, rfl, hi, rfl, hc, rfl⟩ := hrel
    rcases hc with ⟨rfl, hin⟩ | ⟨rfl, rfl⟩
    · have hd1 : decide ((i : Int) + 4 ≤ (s.size : Int)) = true := decide_eq_true (by omega)
      have hd2 : decide ((i : Int) + 4 ≤ (2048 : Int)) = true := decide_eq_true (by omega)
      have hsl := fun w => slice_4 s i (by omega) w
      have ht := test_4 s i (by omega)
      by_cases he : i = n
      · obtain rfl : n = i := he.symm
        rw [HO.out] at ht
        clear HRS HQ HM0 HS0 HR0
        go_wp2
        go_roundg 1
        case measure => omega
        case rel => exact ⟨n + 1, n, by go_num, by omega, rfl, .inr ⟨rfl, rfl⟩, rfl⟩
      · rw [HNO.out i (by omega)] at ht
        clear HRS HQ HM0 HS0 HR0
        go_wp2
        go_roundg (n + 2 - (i + 1))
        case measure => omega
        case rel => exact ⟨i + 1, -1, by go_num, by omega, rfl, .inl ⟨rfl, by omega⟩, rfl⟩
    · clear hi
      go_upto_region 3 with (fail)
      go_cut [28] (fun v wx => v = .bool false ∧ W0 = wx)
      case first =>
        clear HRS HQ HM0 HS0 HR0
        by_cases h3 : n + 1 + 4 ≤ s.size
        · have hd1 : decide (((n + 1 : Nat) : Int) + 4 ≤ (s.size : Int)) = true := decide_eq_true (by omega)
          by_cases h4 : n + 1 + 4 ≤ 2048
          · have hd2 : decide (((n + 1 : Nat) : Int) + 4 ≤ (2048 : Int)) = true := decide_eq_true (by omega)
            go_wp2
            go_meet
            exact ⟨rfl, rfl⟩
          · have hd2 : decide (((n + 1 : Nat) : Int) + 4 ≤ (2048 : Int)) = false := decide_eq_false (by omega)
            go_wp2
            go_meet
            exact ⟨rfl, rfl⟩
        · have hd1 : decide (((n + 1 : Nat) : Int) + 4 ≤ (s.size : Int)) = false := decide_eq_false (by omega)
          go_wp2
          go_meet
          exact ⟨rfl, rfl⟩
      case rest =>
        obtain ⟨rfl, rfl⟩ := hcut
        go_wp2
        go_loopg [8, 9] (n + 2) (fun gh v8 v9 wx => ∃ (f : Nat) (q : Bool) (R : List (List UInt8)) (a b c : ByteArray) (v : Value) (fs : List Fd), v8 = .bool q ∧ v9 = .int .i64 f ∧ f + gh = n + 2 ∧ Hid (Rem (bs s) n f R) ∧ Hid (LS w 0 W0.heap.size [] a b c v fs wx) ∧ Hid (ST l0 ls x y z q R a b c fs))
        case atStart => exact ⟨0, true, l0 :: ls, _, _, _, _, [], rfl, rfl, by omega, HRS, Lib.hid (refStart HB0.out HR0.out HM0.out HS0.out), Lib.hid ST.start⟩
        case round =>
          obtain ⟨f, q, R, a, b, c, v, fs, rfl, rfl, hf, HRM, HX, HST⟩ := hrel
          clear HR0 HM0 HS0 HB0
          cases q with
          | true =>
            obtain ⟨hR0, hfs0⟩ := HST.out.tru
            subst hR0 hfs0
            have hlt : f < n + 2 := HRM.out.lt
            obtain ⟨line, R', hR, hline, hle, hoc, hnoc, hrem⟩ := rem_step HC.out HRM.out hlt
            obtain ⟨h1, h2⟩ := List.cons.inj hR
            subst h1 h2
            have HJ := Lib.hid hnoc
            have HE := Lib.hid hoc
            have HLI := Lib.hid hline
            have HRM2 := Lib.hid hrem
            clear hnoc hoc hline hrem hR
            go_wp2
            go_loopg [10] l0.length (fun gh v10 wx => ∃ j t : Nat, v10 = .int .i64 t ∧ Hid (t = f + j) ∧ j + gh = l0.length ∧ wr = wx)
            case atStart => exact ⟨0, f, rfl, Lib.hid rfl, by omega, rfl⟩
            case round =>
              obtain ⟨j, t, rfl, HTJ, hj, rfl⟩ := hrel
              have htj := HTJ.out
              have htn : t ≤ n := by omega
              have hsl2 := fun w => slice_2 s t (by omega) w
              have ht2 := test_2 s t (by omega)
              by_cases hlt2 : j < l0.length
              · rw [htj, HJ.out j hlt2, ← htj] at ht2
                have HT1 : Hid (t + 1 = f + (j + 1)) := Lib.hid (by omega)
                clear htj HTJ HX HQ HRM HRM2 HLI HJ HE HST
                go_wp2
                go_roundg (l0.length - (j + 1))
                case measure => omega
                case rel => exact ⟨j + 1, t + 1, by go_num, HT1, by omega, rfl⟩
              · obtain rfl : l0.length = j := by omega
                rw [htj, HE.out, ← htj] at ht2
                have hslL := fun w => slice_nn s f t (by omega) (by omega) w
                have hbl := bs_ext s f t
                rw [show t - f = l0.length by omega, ← HLI.out] at hbl
                generalize s.extract f t = ln at hslL hbl
                have hlz : ln.size = l0.length := by rw [← bs_length, hbl]
                have HLN := Lib.hid hbl
                have hl105 : ln.size ≤ 100000 := by omega
                have HT2 : Hid (f + l0.length + 2 = t + 2) := Lib.hid (by omega)
                have hft : f ≤ t := by omega
                clear HJ HE HLI hbl htj HTJ hle
                have hat : ∀ w, Calls Tryd.prog 40 #[.string ln, .int .u8 32] w fun e w' => e = .returned (.int .i64 (atB l0 32)) ∧ w' = w := fun w => by
                  have := at_calls ln 32 w (mx (by omega))
                  rw [HLN.out] at this
                  exact this
                have HF2 := Lib.hid (HF.out)
                obtain ⟨hF1, hF2, hF3⟩ := HF.out
                have hd : ((atB l0 32 : Int) == (ln.size : Int)) = false := beq_eq_false_iff_ne.2 (by omega)
                have hd2 : (((atB l0 32 : Int) + 1 + (atB (l0.drop (atB l0 32 + 1)) 32 : Int)) == (ln.size : Int)) = false := beq_eq_false_iff_ne.2 (by omega)
                have hslT := fun w => slice_from ln (atB l0 32) (by omega) w
                have hbT : bs (ln.extract (atB l0 32 + 1) ln.size) = l0.drop (atB l0 32 + 1) := by
                  rw [show bs (ln.extract (atB l0 32 + 1) ln.size) = (bs ln).drop (atB l0 32 + 1) from Lib.extract_to_end ln _, HLN.out]
                have hzT : (ln.extract (atB l0 32 + 1) ln.size).size ≤ 100000 := by rw [ByteArray.size_extract]; omega
                generalize ln.extract (atB l0 32 + 1) ln.size = lt at hslT hbT hzT
                have hat2 : ∀ w, Calls Tryd.prog 40 #[.string lt, .int .u8 32] w fun e w' => e = .returned (.int .i64 (atB (l0.drop (atB l0 32 + 1)) 32)) ∧ w' = w := fun w => by
                  have := at_calls lt 32 w (mx (by omega))
                  rw [hbT] at this
                  exact this
                have hsA := fun w => slice_to ln (atB l0 32) (by omega) w
                have hsB := fun w => slice_ab ln (atB l0 32) (atB (l0.drop (atB l0 32 + 1)) 32) (by omega) w
                have hsC := fun w => slice_ac ln (atB l0 32) (atB (l0.drop (atB l0 32 + 1)) 32) (by omega) w
                have HPA : Hid (bs (ln.extract 0 (atB l0 32)) = x ∧ bs (ln.extract (atB l0 32 + 1) (atB l0 32 + 1 + atB (l0.drop (atB l0 32 + 1)) 32)) = y ∧ bs (ln.extract (atB l0 32 + 1 + atB (l0.drop (atB l0 32 + 1)) 32 + 1) ln.size) = z) := Lib.hid (by
                  obtain ⟨e1, e2, e3⟩ := hF3
                  rw [bs_ext, bs_ext, show bs (ln.extract (atB l0 32 + 1 + atB (l0.drop (atB l0 32 + 1)) 32 + 1) ln.size) = (bs ln).drop (atB l0 32 + 1 + atB (l0.drop (atB l0 32 + 1)) 32 + 1) from Lib.extract_to_end ln _, HLN.out, ← e1, ← e2, ← e3]
                  refine ⟨by simp, ?_, rfl⟩
                  congr 1; omega)
                have hz1 : (ln.extract 0 (atB l0 32)).size ≤ 100000 := by rw [ByteArray.size_extract]; omega
                have hz2 : (ln.extract (atB l0 32 + 1) (atB l0 32 + 1 + atB (l0.drop (atB l0 32 + 1)) 32)).size ≤ 100000 := by rw [ByteArray.size_extract]; omega
                have hz3 : (ln.extract (atB l0 32 + 1 + atB (l0.drop (atB l0 32 + 1)) 32 + 1) ln.size).size ≤ 100000 := by rw [ByteArray.size_extract]; omega
                generalize ln.extract 0 (atB l0 32) = pa at hsA HPA hz1
                generalize ln.extract (atB l0 32 + 1) (atB l0 32 + 1 + atB (l0.drop (atB l0 32 + 1)) 32) = pb at hsB HPA hz2
                generalize ln.extract (atB l0 32 + 1 + atB (l0.drop (atB l0 32 + 1)) 32 + 1) ln.size = pc at hsC HPA hz3
                have hbd : atB l0 32 < 100000 ∧ atB (l0.drop (atB l0 32 + 1)) 32 < 100000 := by omega
                clear hbT hF3 HF HF2
                generalize atB (l0.drop (atB l0 32 + 1)) 32 = b2 at hat2 hd2 hbd hF2 hsB hsC
                generalize atB l0 32 = a2 at hat hd hd2 hslT hbd hF1 hF2 hsA hsB hsC
                obtain ⟨hbd1, hbd2⟩ := hbd
                have y0 := (HX.out.hb.cell 0).trans rfl
                have y1 := (HX.out.hb.cell 1).trans rfl
                have y2 := (HX.out.hb.cell 2).trans rfl
                have k0 := HX.out.hb.frozen 0
                have k1 := HX.out.hb.frozen 1
                have k2 := HX.out.hb.frozen 2
                simp only [hCells] at y0 y1 y2
                clear HQ HC HRM HST
                go_upto_region 27 with (go_at_call 40; first | ((with_reducible refine (hat _).mono ?_); rintro e w' ⟨rfl, rfl⟩) | ((with_reducible refine (hat2 _).mono ?_); rintro e w' ⟨rfl, rfl⟩))
                go_region
                go_wp2
                go_roundg (n + 2 - (t + 2))
                case measure => omega
                case rel => exact ⟨t + 2, false, ls, pa, pb, pc, v, [], by go_num, by go_num, by omega, Lib.hid (HT2.out ▸ HRM2.out), Lib.hid (HX.out.first pa pb pc), Lib.hid (ST.first HPA.out.1 HPA.out.2.1 HPA.out.2.2 hz1 hz2 hz3)⟩
          | false =>
            cases R with
            | nil =>
              exact absurd HST.out.all.2.2.2.2.2 (by rw [HBB.out]; simp)
            | cons l R0 =>
              have hlt : f < n + 2 := HRM.out.lt
              have hlm := HST.out.mem
              obtain ⟨line, R', hR, hline, hle, hoc, hnoc, hrem⟩ := rem_step HC.out HRM.out hlt
              obtain ⟨h1, h2⟩ := List.cons.inj hR
              subst h1 h2
              have HJ := Lib.hid hnoc
              have HE := Lib.hid hoc
              have HLI := Lib.hid hline
              have HRM2 := Lib.hid hrem
              clear hnoc hoc hline hrem hR
              go_wp2
              go_loopg [10] l.length (fun gh v10 wx => ∃ j t : Nat, v10 = .int .i64 t ∧ Hid (t = f + j) ∧ j + gh = l.length ∧ wr = wx)
              case atStart => exact ⟨0, f, rfl, Lib.hid rfl, by omega, rfl⟩
              case round =>
                obtain ⟨j, t, rfl, HTJ, hj, rfl⟩ := hrel
                have htj := HTJ.out
                have htn : t ≤ n := by omega
                have hsl2 := fun w => slice_2 s t (by omega) w
                have ht2 := test_2 s t (by omega)
                by_cases hlt2 : j < l.length
                · rw [htj, HJ.out j hlt2, ← htj] at ht2
                  have HT1 : Hid (t + 1 = f + (j + 1)) := Lib.hid (by omega)
                  clear htj HTJ HX HQ HRM HRM2 HLI HJ HE HST
                  go_wp2
                  go_roundg (l.length - (j + 1))
                  case measure => omega
                  case rel => exact ⟨j + 1, t + 1, by go_num, HT1, by omega, rfl⟩
                · obtain rfl : l.length = j := by omega
                  rw [htj, HE.out, ← htj] at ht2
                  have hslL := fun w => slice_nn s f t (by omega) (by omega) w
                  have hbl := bs_ext s f t
                  rw [show t - f = l.length by omega, ← HLI.out] at hbl
                  generalize s.extract f t = ln at hslL hbl
                  have hlz : ln.size = l.length := by rw [← bs_length, hbl]
                  have HLN := Lib.hid hbl
                  have hl105 : ln.size ≤ 100000 := by omega
                  have HT2 : Hid (f + l.length + 2 = t + 2) := Lib.hid (by omega)
                  have hft : f ≤ t := by omega
                  clear HJ HE HLI hbl htj HTJ hle
                  have hat : ∀ w, Calls Tryd.prog 40 #[.string ln, .int .u8 58] w fun e w' => e = .returned (.int .i64 (atB l 58)) ∧ w' = w := fun w => by
                    have := at_calls ln 58 w (mx (by omega))
                    rw [HLN.out] at this
                    exact this
                  cases hr : refFld l with
                  | none =>
                    have hF1 := refFld_none hr
                    have hd : ((atB l 58 : Int) == (ln.size : Int)) = true := beq_iff_eq.2 (by omega)
                    have z0 := (HX.out.rb.cell 0).trans rfl
                    have z1 := (HX.out.rb.cell 1).trans rfl
                    have z2 := (HX.out.rb.cell 2).trans rfl
                    have z3 := (HX.out.rb.cell 3).trans rfl
                    have k0 := HX.out.rb.frozen 0
                    have k1 := HX.out.rb.frozen 1
                    have k2 := HX.out.rb.frozen 2
                    have k3 := HX.out.rb.frozen 3
                    have hbd : atB l 58 ≤ 100000 := by omega
                    clear hr HRM HRM2 HST
                    generalize atB l 58 = a2 at hat hd hF1 hbd
                    go_wp2_with (go_at_call 40; refine (hat _).mono ?_; rintro e w' ⟨rfl, rfl⟩)
                    refine bodyPost_ret (v := .tuple #[nilH.val, .int .i64 0, .int .i64 52]) ?_ rfl ⟨nilH, 0, 52, rfl, HQ.out, nilH_ok _, ?_⟩
                    · rw [results_cell_tmp2 rfl]; go_simp
                    · exact below_set (below_set (below_set (below_set HX.out.be (Nat.le_refl _) 0 _) (Nat.le_refl _) 1 _) (Nat.le_refl _) 2 _) (Nat.le_refl _) 3 _
                  | some p =>
                    obtain ⟨hF1, hF2⟩ := refFld_some hr
                    have hd : ((atB l 58 : Int) == (ln.size : Int)) = false := beq_eq_false_iff_ne.2 (by omega)
                    have hsN := fun w => slice_to ln (atB l 58) (by omega) w
                    have hsV := fun w => slice_from ln (atB l 58) (by omega) w
                    have hbN : bs (ln.extract 0 (atB l 58)) = l.take (atB l 58) := by rw [bs_ext, HLN.out]; simp
                    have hbV : bs (ln.extract (atB l 58 + 1) ln.size) = l.drop (atB l 58 + 1) := by
                      rw [show bs (ln.extract (atB l 58 + 1) ln.size) = (bs ln).drop (atB l 58 + 1) from Lib.extract_to_end ln _, HLN.out]
                    have hzN : (ln.extract 0 (atB l 58)).size ≤ 100000 := by rw [ByteArray.size_extract]; omega
                    have hzV : (ln.extract (atB l 58 + 1) ln.size).size ≤ 100000 := by rw [ByteArray.size_extract]; omega
                    generalize ln.extract 0 (atB l 58) = nm at hsN hbN hzN
                    generalize ln.extract (atB l 58 + 1) ln.size = lv at hsV hbV hzV
                    obtain ⟨vl, hvl⟩ : ∃ vl, vl = mk (trimW (bs lv)) := ⟨_, rfl⟩
                    have hzl : vl.size ≤ 100000 := by rw [hvl, mk_size]; have := trimW_len (bs lv); rw [bs_length] at this; omega
                    have htr : ∀ w, Calls Tryd.prog 41 #[.string lv] w fun e w' => e = .returned (.string vl) ∧ w' = w := fun w => by
                      refine (reftrim_calls lv w (mx hzV)).mono ?_
                      rintro e w' ⟨t, rfl, _, ht, rfl⟩
                      refine ⟨?_, rfl⟩
                      have e : t = vl := bs_inj (by rw [ht.out, hvl, bs_mk]; rfl)
                      rw [e]
                    have HFL : Hid (refFld l = some (Fd.pd ⟨nm, vl⟩)) := Lib.hid (by
                      rw [hr, hF2]
                      unfold Fd.pd
                      simp only [hvl, bs_mk, hbN, hbV])
                    clear hr hF2 hbN hbV hvl
                    have hbd : atB l 58 < 100000 := by omega
                    generalize atB l 58 = a2 at hat hd hsN hsV hbd hF1
                    have hwr : IntKind.i64.wrap ((a2 : Int) + 1) = (a2 : Int) + 1 := by rw [IntKind.wrap_i64]; omega
                    clear hlz
                    have y3 := (HX.out.hb.cell 3).trans rfl
                    have y3' : ∀ o, (wr.alloc o).cell? ⟨W0.heap.size, 3, none⟩ = some v := fun o => ((HX.out.al o).hb.cell 3).trans rfl
                    simp only [hCells] at y3
                    have hfsl : fs.length + 1 ≤ 1000000 := by have := HST.out.fal.2.2.2.2.1; omega
                    clear HQ HC HRM
                    go_upto_region 32 with (go_at_call 40; refine (hat _).mono ?_; rintro e w' ⟨rfl, hw'⟩; obtain rfl := hw'.symm)
                    go_region_law (first
                      | (go_simp; go_at_call 41; refine (htr _).mono ?_; rintro e w' ⟨rfl, rfl⟩)
                      | (refine step_app (by rfl) _ _ _ (by rfl) v (.slice (some ⟨wr.heap.size, 0, none⟩) 1 1) (by rfl) (by rfl) (OwnF.app1 (f := ⟨nm, vl⟩) ((HX.out.below (below_drew1 (Below.refl _ _))).al (.cells #[.string nm, .string vl] 48)).ow _ wr.heap.size (Blk.new' wr.drew _ _ rfl) ?h2 ?h3) ?_
                         case h2 => omega
                         case h3 => have := HX.out.hb.lt; simp; omega
                         intro v2 w8 hF8
                         obtain ⟨A2, c2, hv2, _, _, _⟩ := hF8.own.form
                         subst hv2
                         have HX8 := Lib.hid (((HX.out.below (below_drew1 (Below.refl _ _))).al (.cells #[.string nm, .string vl] 48)).push hF8)
                         have y8 : w8.cell? ⟨W0.heap.size, 3, none⟩ = some v := ((((HX.out.below (below_drew1 (Below.refl _ _))).al (.cells #[.string nm, .string vl] 48)).hb2 hF8).cell 3).trans rfl
                         have k8 := (((HX.out.below (below_drew1 (Below.refl _ _))).al (.cells #[.string nm, .string vl] 48)).hb2 hF8).frozen 3
                         clear hF8))
                    all_goals
                      go_wp2
                      go_roundg (n + 2 - (t + 2))
                      case measure => omega
                      case rel =>
                        have hlen : (fs ++ [(⟨nm, vl⟩ : Fd)]).length = fs.length + 1 := by rw [List.length_append]; rfl
                        rw [hlen] at HX8
                        exact ⟨t + 2, false, R0, a, b, c, _, fs ++ [⟨nm, vl⟩], by go_num, by go_num, by omega, Lib.hid (HT2.out ▸ HRM2.out), HX8, Lib.hid (HST.out.push HFL.out hzN hzl)⟩
end Go.Proofs.YtknfoolcbfmpaaaDoor
