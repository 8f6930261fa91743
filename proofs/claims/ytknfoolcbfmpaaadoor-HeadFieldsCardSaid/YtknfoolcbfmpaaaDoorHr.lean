/- The document's Few: whether a head isn't too great; conditions: the fields can be read, strings of lengths that a world can hold. -/
import Derived.Test.YtknfoolcbfmpaaaDoorHd
namespace Go.Proofs.YtknfoolcbfmpaaaDoor
set_option linter.unusedSimpArgs false
set_option linter.unusedVariables false
open Go.RowKit
def smallF (f : Fd) : Bool := decide (f.nm.size ≤ 3000) && decide (f.vl.size ≤ 3000)
def fewB (h : Hd) : Bool := h.fs.all smallF && (decide (h.fs.length ≤ 50) && decide (h.a.size ≤ 3000) && decide (h.b.size ≤ 3000) && decide (h.c.size ≤ 3000))
/-- A head that came in. -/
structure Hd.In (h : Hd) (w : World) : Prop where
  fl : h.fs.length ≤ maxLen
  la : h.a.size ≤ maxLen
  lb : h.b.size ≤ maxLen
  lc : h.c.size ≤ maxLen
  fz : ∀ f ∈ h.fs, f.nm.size ≤ maxLen ∧ f.vl.size ≤ maxLen
  fd : Fds w h.A h.fs
theorem Hd.In.ok {h : Hd} {w : World} (k : h.In w) (hf : fewB h = true) : h.Ok w := by
  unfold fewB at hf
  simp only [Bool.and_eq_true, decide_eq_true_eq] at hf
  obtain ⟨h1, ⟨⟨h2, h3⟩, h4⟩, h5⟩ := hf
  refine ⟨by omega, by omega, by omega, by omega, fun f hf => ?_, k.fd⟩
  have := List.all_eq_true.1 h1 f hf
  unfold smallF at this
  simp only [Bool.and_eq_true, decide_eq_true_eq] at this
  omega
theorem all_takeF (l : List Fd) (k : Nat) (h : k < l.length) : (l.take (k + 1)).all smallF = ((l.take k).all smallF && smallF l[k]) := by
  rw [List.take_succ_eq_append_getElem h, List.all_append, List.all_cons, List.all_nil, Bool.and_true]
set_option maxRecDepth 100000 in
set_option maxHeartbeats 4000000 in
theorem Few_calls (h : Hd) (w : World) (hk : h.In w) :
    Calls Tryd.prog 12 #[h.val] w fun e w' => e = .returned (.bool (fewB h)) ∧ Below w.heap.size w w' := by
  obtain ⟨W1, hW1⟩ : ∃ W1, W1 = w.alloc (.cells h.cells 25 (0, 0)) := ⟨_, rfl⟩
  have HB0 : Hid (Below w.heap.size w W1) := Lib.hid (hW1 ▸ below_alloc1 w _)
  have HAT : Hid (h.At W1 w.heap.size) := Lib.hid (hW1 ▸ h.box w 25)
  have HFD : Hid (Fds W1 h.A h.fs) := Lib.hid (hk.fd.below HB0.out)
  have HZ := Lib.hid hk.fz
  obtain ⟨hl, ha, hb, hc, _, _⟩ := hk
  have HE : Hid (fewB h = (h.fs.all smallF && (decide (h.fs.length ≤ 50) && decide (h.a.size ≤ 3000) && decide (h.b.size ≤ 3000) && decide (h.c.size ≤ 3000)))) := Lib.hid rfl
  have HNO : Hid (∀ k (hk : k < h.fs.length), smallF h.fs[k] = false → fewB h = false) := Lib.hid fun k hk e => by
    have : h.fs.all smallF = false := by
      rw [List.all_eq_false]
      exact ⟨_, List.getElem_mem hk, by rw [e]; simp⟩
    unfold fewB; rw [this]; rfl
  generalize fewB h = r at HE HNO ⊢
  obtain ⟨f0, f1, f2, f3⟩ := HAT.out
  have HW := Lib.hid hW1
  clear hW1
  unfold maxLen at hl ha hb hc
  obtain ⟨sa, sb, sc, A, kc, fs⟩ := h
  simp only at *
  go_enter Tryd.func12, Tryd.ntmps12
  go_wp2
  go_loopg [3] fs.length (fun gh v3 wx => ∃ k : Nat, v3 = .int .i64 k ∧ k + gh = fs.length ∧ Hid ((fs.take k).all smallF = true) ∧ wx = W1)
  case atStart => exact ⟨0, rfl, by omega, Lib.hid rfl, HW.out.symm⟩
  case round =>
    obtain ⟨k, rfl, hk, HQ, rfl⟩ := hrel
    by_cases hlt : k < fs.length
    · obtain ⟨b, off, rfl, g0, g1⟩ := HFD.out k hlt
      have hz := HZ.out _ (List.getElem_mem hlt)
      have HN := Lib.hid (all_takeF fs k hlt)
      have HNK := Lib.hid (HNO.out k hlt)
      try simp only at g0 g1
      generalize fs[k] = f at g0 g1 hz HN HNK
      obtain ⟨nm, vl⟩ := f
      obtain ⟨z1, z2⟩ := hz
      unfold maxLen at z1 z2
      simp only at g0 g1 z1 z2
      by_cases s1 : 3000 < nm.size
      · have d1 : decide ((3000 : Int) < (nm.size : Int)) = true := decide_eq_true (by omega)
        obtain rfl : r = false := HNK.out (by unfold smallF; rw [decide_eq_false (by simp only; omega)]; rfl)
        go_wp2
        go_ret
        exact ⟨rfl, HB0.out⟩
      · have d1 : decide ((3000 : Int) < (nm.size : Int)) = false := decide_eq_false (by omega)
        by_cases s2 : 3000 < vl.size
        · have d2 : decide ((3000 : Int) < (vl.size : Int)) = true := decide_eq_true (by omega)
          obtain rfl : r = false := HNK.out (by unfold smallF; rw [decide_eq_false (p := vl.size ≤ 3000) (by omega), Bool.and_false])
          go_wp2
          go_ret
          exact ⟨rfl, HB0.out⟩
        · have d2 : decide ((3000 : Int) < (vl.size : Int)) = false := decide_eq_false (by omega)
          have HS : Hid (smallF ⟨nm, vl⟩ = true) := Lib.hid (by unfold smallF; rw [decide_eq_true (by simp only; omega), decide_eq_true (by simp only; omega)]; rfl)
          go_wp2
          go_roundg (fs.length - (k + 1))
          case measure => omega
          case rel => exact ⟨k + 1, by go_num, by omega, Lib.hid (by rw [HN.out, HQ.out, HS.out]; rfl), rfl⟩
    · have hE : r = (decide (fs.length ≤ 50) && decide (sa.size ≤ 3000) && decide (sb.size ≤ 3000) && decide (sc.size ≤ 3000)) := by
        have := HQ.out
        rw [List.take_of_length_le (by omega)] at this
        rw [HE.out, this, Bool.true_and]
      have HR := Lib.hid hE
      clear hE HE HNO
      have e0 : decide ((fs.length : Int) ≤ 50) = decide (fs.length ≤ 50) := decide_eq_decide.2 (by omega)
      have e1 : decide ((sa.size : Int) ≤ 3000) = decide (sa.size ≤ 3000) := decide_eq_decide.2 (by omega)
      have e2 : decide ((sb.size : Int) ≤ 3000) = decide (sb.size ≤ 3000) := decide_eq_decide.2 (by omega)
      have e3 : decide ((sc.size : Int) ≤ 3000) = decide (sc.size ≤ 3000) := decide_eq_decide.2 (by omega)
      cases h0 : decide (fs.length ≤ 50)
      · rw [h0] at HR e0
        clear h0
        go_wp2
        go_ret
        exact ⟨ret_bool (by rw [HR.out]; rfl), HB0.out⟩
      · cases h1 : decide (sa.size ≤ 3000)
        · rw [h0, h1] at HR
          rw [h0] at e0
          rw [h1] at e1
          clear h0 h1
          go_wp2
          go_ret
          exact ⟨ret_bool (by rw [HR.out]; rfl), HB0.out⟩
        · cases h2 : decide (sb.size ≤ 3000)
          · rw [h0, h1, h2] at HR
            rw [h0] at e0
            rw [h1] at e1
            rw [h2] at e2
            clear h0 h1 h2
            go_wp2
            go_ret
            exact ⟨ret_bool (by rw [HR.out]; rfl), HB0.out⟩
          · rw [h0, h1, h2] at HR
            rw [h0] at e0
            rw [h1] at e1
            rw [h2] at e2
            clear h0 h1 h2
            go_wp2
            go_ret
            exact ⟨ret_bool (by rw [HR.out]; simp [e3]), HB0.out⟩
end Go.Proofs.YtknfoolcbfmpaaaDoor
