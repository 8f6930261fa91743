/- How great a head is, whether it may be, its values of a name, by the program; conditions: as before. -/
import Derived.Test.YtknfoolcbfmpaaaDoorHb
import Derived.Test.YtknfoolcbfmpaaaDoorGg
namespace Go.Proofs.YtknfoolcbfmpaaaDoor
set_option linter.unusedSimpArgs false
set_option linter.unusedVariables false
open Go.RowKit
def szF (f : Fd) : Nat := f.nm.size + f.vl.size + 4
theorem sum_le (l : List Fd) (hz : ∀ f ∈ l, f.nm.size ≤ 100000 ∧ f.vl.size ≤ 100000) : (l.map szF).sum ≤ l.length * 200004 := by
  induction l with
  | nil => simp
  | cons f l ih =>
    have h1 := hz f List.mem_cons_self
    have h2 := ih fun x hx => hz x (List.mem_cons_of_mem _ hx)
    rw [List.map_cons, List.sum_cons, List.length_cons]
    unfold szF
    unfold szF at h2
    omega
theorem sum_take (l : List Fd) (k : Nat) (h : k < l.length) : ((l.take (k + 1)).map szF).sum = ((l.take k).map szF).sum + szF l[k] := by
  rw [List.take_succ_eq_append_getElem h, List.map_append, List.sum_append]; simp
theorem sizeP_pd (h : Hd) : sizeP h.pd = h.a.size + h.b.size + h.c.size + 6 + (h.fs.map szF).sum := by
  unfold sizeP Hd.pd
  simp only [bs_length, List.map_map]
  congr 2
set_option maxHeartbeats 4000000 in
theorem size_calls (h : Hd) (w : World) (hk : h.Ok w) :
    Calls Tryd.prog 35 #[h.val] w fun e w' => e = .returned (.int .i64 (sizeP h.pd)) ∧ Below w.heap.size w w' := by
  obtain ⟨h1, h2, h3, h4, h5, h6⟩ := hk
  have HP := Lib.hid (sizeP_pd h)
  have HF := Lib.hid h6
  have HZ := Lib.hid h5
  generalize sizeP h.pd = P at HP ⊢
  obtain ⟨ha, hb, hc, A, kc, fs⟩ := h
  simp only at h1 h2 h3 h4 HP HF HZ ⊢
  clear h5 h6
  go_enter Tryd.func35, Tryd.ntmps35
  have HB0 := Lib.hid (below_alloc1 w (.cells #[.string ha, .string hb, .string hc, .slice A fs.length kc] 25))
  go_wp2
  go_loopg [3, 24] fs.length (fun gh v3 v24 wx => ∃ k n : Nat, v24 = .int .i64 k ∧ k + gh = fs.length ∧ v3 = .int .i64 n ∧ n ≤ 300006 + k * 200004 ∧ Hid (n = ha.size + hb.size + hc.size + 6 + ((fs.take k).map szF).sum) ∧ Hid (Below w.heap.size w wx))
  case atStart => exact ⟨0, ha.size + hb.size + hc.size + 6, rfl, by omega, by go_num, by omega, Lib.hid (by simp), HB0⟩
  case round =>
    obtain ⟨k, n, rfl, hk, rfl, hn, HN, HB⟩ := hrel
    by_cases hlt : k < fs.length
    · obtain ⟨b, off, rfl, g0, g1⟩ := (HF.out.below HB.out) k hlt
      have hz := HZ.out _ (List.getElem_mem hlt)
      have HE : Hid (n + szF fs[k] = ha.size + hb.size + hc.size + 6 + ((fs.take (k + 1)).map szF).sum) := Lib.hid (by rw [sum_take fs k hlt, HN.out]; omega)
      have hsz : szF fs[k] = fs[k].nm.size + fs[k].vl.size + 4 := rfl
      rw [hsz] at HE
      obtain ⟨z1, z2⟩ := hz
      clear hsz
      generalize fs[k] = f at g0 g1 z1 z2 HE
      obtain ⟨nm, vl⟩ := f
      simp only at g0 g1 z1 z2 HE
      have hk60 : k ≤ 60 := by omega
      go_wp2
      go_roundg (fs.length - (k + 1))
      case measure => omega
      case rel => exact ⟨k + 1, n + (nm.size + vl.size + 4), by go_num, by omega, by go_num, by omega, HE, Lib.hid (below_al HB.out _)⟩
    · have hnn : n = P := by
        rw [HN.out, HP.out, List.take_of_length_le (by omega)]
      subst hnn
      go_wp2
      go_ret
      exact ⟨rfl, HB.out⟩
/-- A head's copy in memory, cell by cell. -/
structure Hd.At (h : Hd) (W : World) (N : Nat) : Prop where
  f0 : W.cell? ⟨N, 0, none⟩ = some (.string h.a)
  f1 : W.cell? ⟨N, 1, none⟩ = some (.string h.b)
  f2 : W.cell? ⟨N, 2, none⟩ = some (.string h.c)
  f3 : W.cell? ⟨N, 3, none⟩ = some (.slice h.A h.fs.length h.k)
theorem Hd.At.below {h : Hd} {w w1 : World} {N : Nat} (k : h.At w N) (hb : Below w.heap.size w w1) : h.At w1 N := by
  have hc := (bcell hb).1 N
  exact ⟨(hc _ (cell_lt k.f0)).trans k.f0, (hc _ (cell_lt k.f1)).trans k.f1, (hc _ (cell_lt k.f2)).trans k.f2, (hc _ (cell_lt k.f3)).trans k.f3⟩
theorem Hd.box (h : Hd) (w : World) (t : TypeId) : h.At (w.alloc (.cells h.cells t (0, 0))) w.heap.size :=
  ⟨(alloc_cell w h.cells t 0).trans rfl, (alloc_cell w h.cells t 1).trans rfl, (alloc_cell w h.cells t 2).trans rfl, (alloc_cell w h.cells t 3).trans rfl⟩
theorem mx {n : Nat} (h : n ≤ 100000) : n ≤ maxLen := by unfold maxLen; omega
theorem Hd.Ok.mf {h : Hd} {w : World} (k : h.Ok w) : ∀ f ∈ h.fs, f.nm.size ≤ maxLen ∧ f.vl.size ≤ maxLen := fun f hf => ⟨mx (k.fz f hf).1, mx (k.fz f hf).2⟩
theorem any_pd (h : Hd) : h.pd.fs = h.fs.map Fd.pd := rfl
set_option maxRecDepth 100000 in
set_option maxHeartbeats 4000000 in
theorem Check_calls (h : Hd) (w : World) (hk : h.Ok w) :
    Calls Tryd.prog 15 #[h.val] w fun e w' => e = .returned (.int .i64 (checkP h.pd)) ∧ Below w.heap.size w w' := by
  have hk1 := hk.below (below_alloc1 w (.cells h.cells 25 (0, 0)))
  have HAT := Lib.hid (h.box w 25)
  have HB := Lib.hid (below_alloc1 w (.cells h.cells 25 (0, 0)))
  have HK := Lib.hid hk1
  have hwa := fun w => word_calls h.a w (mx hk.la)
  have hwb := fun w => word_calls h.b w (mx hk.lb)
  have hvc := fun w => value_calls h.c w (mx hk.lc)
  have hco := fun (w' : World) (g : Fds w' h.A h.fs) => containsOdd_calls h.A h.fs h.k w' (by have := hk.fl; omega) hk.mf g
  have hsz := fun (w' : World) (g : h.Ok w') => size_calls h w' g
  have hfl := hk.fl
  have HC : Hid (checkP h.pd = if (wordB (bs h.a) && wordB (bs h.b) && valueB (bs h.c) && !(h.fs.map Fd.pd).any oddB) = false then 52 else if 32 < h.fs.length ∨ 2048 < sizeP h.pd then 51 else 0) := Lib.hid (by
    unfold checkP formP
    rw [any_pd, List.length_map]; rfl)
  generalize checkP h.pd = C at HC ⊢
  generalize wordB (bs h.a) = qa at hwa HC
  generalize wordB (bs h.b) = qb at hwb HC
  generalize valueB (bs h.c) = qc at hvc HC
  generalize (h.fs.map Fd.pd).any oddB = qo at hco HC
  generalize sizeP h.pd = P at hsz HC
  obtain ⟨f0, f1, f2, f3⟩ := HAT.out
  clear hk hk1
  obtain ⟨ha, hb, hc, A, kc, fs⟩ := h
  simp only at *
  cases qa with
  | false =>
    obtain rfl : C = 52 := by rw [HC.out]; simp
    go_enter Tryd.func15, Tryd.ntmps15
    go_wp2_with (go_at_call 33; ((with_reducible refine (hwa _).mono ?_); rintro e w1 ⟨rfl, rfl⟩))
    go_ret
    exact ⟨rfl, HB.out⟩
  | true =>
    cases qb with
    | false =>
      obtain rfl : C = 52 := by rw [HC.out]; simp
      go_enter Tryd.func15, Tryd.ntmps15
      go_wp2_with (go_at_call 33; first | ((with_reducible refine (hwa _).mono ?_); rintro e w1 ⟨rfl, rfl⟩) | ((with_reducible refine (hwb _).mono ?_); rintro e w1 ⟨rfl, rfl⟩))
      go_ret
      exact ⟨rfl, HB.out⟩
    | true =>
      cases qc with
      | false =>
        obtain rfl : C = 52 := by rw [HC.out]; simp
        go_enter Tryd.func15, Tryd.ntmps15
        go_wp2_with (first
          | (go_at_call 33; first | ((with_reducible refine (hwa _).mono ?_); rintro e w1 ⟨rfl, rfl⟩) | ((with_reducible refine (hwb _).mono ?_); rintro e w1 ⟨rfl, rfl⟩))
          | (go_at_call 32; refine (hvc _).mono ?_; rintro e w2 ⟨rfl, hb⟩; replace HAT := Lib.hid (HAT.out.below hb); replace HK := Lib.hid (HK.out.below hb); replace HB := Lib.hid (bt HB.out hb); obtain ⟨g0, g1, g2, g3⟩ := HAT.out; clear hb))
        go_ret
        exact ⟨rfl, HB.out⟩
      | true =>
        cases qo with
        | true =>
          obtain rfl : C = 52 := by rw [HC.out]; simp
          go_enter Tryd.func15, Tryd.ntmps15
          go_wp2_with (first
            | (go_at_call 33; first | ((with_reducible refine (hwa _).mono ?_); rintro e w1 ⟨rfl, rfl⟩) | ((with_reducible refine (hwb _).mono ?_); rintro e w1 ⟨rfl, rfl⟩))
            | (go_at_call 32; refine (hvc _).mono ?_; rintro e w2 ⟨rfl, hb⟩; replace HAT := Lib.hid (HAT.out.below hb); replace HK := Lib.hid (HK.out.below hb); replace HB := Lib.hid (bt HB.out hb); obtain ⟨g0, g1, g2, g3⟩ := HAT.out; clear hb)
            | (go_at_call 34; refine (hco _ HK.out.fd).mono ?_; rintro e w3 ⟨rfl, hb⟩; replace HAT := Lib.hid (HAT.out.below hb); replace HK := Lib.hid (HK.out.below hb); replace HB := Lib.hid (bt HB.out hb); obtain ⟨g0, g1, g2, g3⟩ := HAT.out; clear hb))
          go_ret
          exact ⟨rfl, HB.out⟩
        | false =>
          by_cases h32 : 32 < fs.length
          · obtain rfl : C = 51 := by rw [HC.out]; simp [h32]
            have hd : decide ((32 : Int) < (fs.length : Int)) = true := decide_eq_true (by omega)
            clear hsz
            go_enter Tryd.func15, Tryd.ntmps15
            go_wp2_with (first
              | (go_at_call 33; first | ((with_reducible refine (hwa _).mono ?_); rintro e w1 ⟨rfl, rfl⟩) | ((with_reducible refine (hwb _).mono ?_); rintro e w1 ⟨rfl, rfl⟩))
              | (go_at_call 32; refine (hvc _).mono ?_; rintro e w2 ⟨rfl, hb⟩; replace HAT := Lib.hid (HAT.out.below hb); replace HK := Lib.hid (HK.out.below hb); replace HB := Lib.hid (bt HB.out hb); obtain ⟨g0, g1, g2, g3⟩ := HAT.out; clear hb)
              | (go_at_call 34; refine (hco _ HK.out.fd).mono ?_; rintro e w3 ⟨rfl, hb⟩; replace HAT := Lib.hid (HAT.out.below hb); replace HK := Lib.hid (HK.out.below hb); replace HB := Lib.hid (bt HB.out hb); obtain ⟨g0, g1, g2, g3⟩ := HAT.out; clear hb))
            go_ret
            exact ⟨rfl, HB.out⟩
          · have hd : decide ((32 : Int) < (fs.length : Int)) = false := decide_eq_false (by omega)
            by_cases hP : 2048 < P
            · obtain rfl : C = 51 := by rw [HC.out]; simp [hP]
              have hd2 : decide ((2048 : Int) < (P : Int)) = true := decide_eq_true (by omega)
              go_enter Tryd.func15, Tryd.ntmps15
              go_wp2_with (first
                | (go_at_call 33; first | ((with_reducible refine (hwa _).mono ?_); rintro e w1 ⟨rfl, rfl⟩) | ((with_reducible refine (hwb _).mono ?_); rintro e w1 ⟨rfl, rfl⟩))
                | (go_at_call 32; refine (hvc _).mono ?_; rintro e w2 ⟨rfl, hb⟩; replace HAT := Lib.hid (HAT.out.below hb); replace HK := Lib.hid (HK.out.below hb); replace HB := Lib.hid (bt HB.out hb); obtain ⟨g0, g1, g2, g3⟩ := HAT.out; clear hb)
                | (go_at_call 34; refine (hco _ HK.out.fd).mono ?_; rintro e w3 ⟨rfl, hb⟩; replace HAT := Lib.hid (HAT.out.below hb); replace HK := Lib.hid (HK.out.below hb); replace HB := Lib.hid (bt HB.out hb); obtain ⟨g0, g1, g2, g3⟩ := HAT.out; clear hb)
                | (go_at_call 35; refine (hsz _ HK.out).mono ?_; rintro e w4 ⟨rfl, hb⟩; replace HB := Lib.hid (bt HB.out hb); clear hb))
              go_ret
              exact ⟨rfl, HB.out⟩
            · obtain rfl : C = 0 := by rw [HC.out]; simp [hP, h32]
              have hd2 : decide ((2048 : Int) < (P : Int)) = false := decide_eq_false (by omega)
              go_enter Tryd.func15, Tryd.ntmps15
              go_wp2_with (first
                | (go_at_call 33; first | ((with_reducible refine (hwa _).mono ?_); rintro e w1 ⟨rfl, rfl⟩) | ((with_reducible refine (hwb _).mono ?_); rintro e w1 ⟨rfl, rfl⟩))
                | (go_at_call 32; refine (hvc _).mono ?_; rintro e w2 ⟨rfl, hb⟩; replace HAT := Lib.hid (HAT.out.below hb); replace HK := Lib.hid (HK.out.below hb); replace HB := Lib.hid (bt HB.out hb); obtain ⟨g0, g1, g2, g3⟩ := HAT.out; clear hb)
                | (go_at_call 34; refine (hco _ HK.out.fd).mono ?_; rintro e w3 ⟨rfl, hb⟩; replace HAT := Lib.hid (HAT.out.below hb); replace HK := Lib.hid (HK.out.below hb); replace HB := Lib.hid (bt HB.out hb); obtain ⟨g0, g1, g2, g3⟩ := HAT.out; clear hb)
                | (go_at_call 35; refine (hsz _ HK.out).mono ?_; rintro e w4 ⟨rfl, hb⟩; replace HB := Lib.hid (bt HB.out hb); clear hb))
              go_ret
              exact ⟨rfl, HB.out⟩
end Go.Proofs.YtknfoolcbfmpaaaDoor
