/- The document's Form: whether a head may be, but for its size; conditions: the fields can be read, strings of lengths that a world can hold. -/
import Derived.Test.YtknfoolcbfmpaaaDoorHt
import Derived.Test.YtknfoolcbfmpaaaDoorHr
namespace Go.Proofs.YtknfoolcbfmpaaaDoor
set_option linter.unusedSimpArgs false
set_option linter.unusedVariables false
open Go.RowKit
theorem any_takeF (l : List Fd) (k : Nat) (h : k < l.length) : (l.take (k + 1)).any (fun f => oddB f.pd) = ((l.take k).any (fun f => oddB f.pd) || oddB l[k].pd) := any_take l k h
/-- A head whose fields can be read; many fields. -/
structure Hd.Lo (h : Hd) (w : World) : Prop where
  fl : h.fs.length ≤ 100000
  la : h.a.size ≤ 100000
  lb : h.b.size ≤ 100000
  lc : h.c.size ≤ 100000
  fz : ∀ f ∈ h.fs, f.nm.size ≤ 100000 ∧ f.vl.size ≤ 100000
  fd : Fds w h.A h.fs
theorem Hd.Ok.lo {h : Hd} {w : World} (k : h.Ok w) : h.Lo w := ⟨by have := k.fl; omega, k.la, k.lb, k.lc, k.fz, k.fd⟩
theorem Hd.Lo.mf {h : Hd} {w : World} (k : h.Lo w) : ∀ f ∈ h.fs, f.nm.size ≤ maxLen ∧ f.vl.size ≤ maxLen := fun f hf => ⟨mx (k.fz f hf).1, mx (k.fz f hf).2⟩
theorem Hd.In.below {h : Hd} {w w1 : World} (k : h.In w) (hb : Below w.heap.size w w1) : h.In w1 := ⟨k.fl, k.la, k.lb, k.lc, k.fz, k.fd.below hb⟩
theorem form_no (r q a : Bool) (b : Bool) (hq : q = (r && !a)) : (q && !b) = (r && !(a || b)) := by subst hq; cases r <;> cases a <;> cases b <;> rfl
set_option maxRecDepth 100000 in
set_option maxHeartbeats 4000000 in
theorem Form_calls (h : Hd) (w : World) (hk : h.Lo w) :
    Calls Tryd.prog 30 #[h.val] w fun e w' => e = .returned (.bool (formP h.pd)) ∧ Below w.heap.size w w' := by
  obtain ⟨W1, hW1⟩ : ∃ W1, W1 = w.alloc (.cells h.cells 25 (0, 0)) := ⟨_, rfl⟩
  have HB0 : Hid (Below w.heap.size w W1) := Lib.hid (hW1 ▸ below_alloc1 w _)
  have HAT : Hid (h.At W1 w.heap.size) := Lib.hid (hW1 ▸ h.box w 25)
  have HFD : Hid (Fds W1 h.A h.fs) := Lib.hid (hk.fd.below HB0.out)
  have HZ := Lib.hid hk.mf
  have hl := hk.fl
  have p1 : ∀ w, Calls Tryd.prog 50 #[.string h.a, .int .u8 33] w fun e w' => e = .returned (.bool (within 33 126 (bs h.a))) ∧ w' = w := fun w => plain_calls h.a 33 w (mx hk.la)
  have p2 : ∀ w, Calls Tryd.prog 50 #[.string h.b, .int .u8 33] w fun e w' => e = .returned (.bool (within 33 126 (bs h.b))) ∧ w' = w := fun w => plain_calls h.b 33 w (mx hk.lb)
  have p3 := fun w => refvalue_calls h.c w (mx hk.lc)
  have HF : Hid (formP h.pd = ((((!(bs h.a).isEmpty && within 33 126 (bs h.a)) && (!(bs h.b).isEmpty && within 33 126 (bs h.b))) && valueB (bs h.c)) && !h.fs.any (fun f => oddB f.pd))) := Lib.hid (by
    unfold formP
    rw [any_pd, List.any_map]; rfl)
  have z1 : h.a.toList.isEmpty = (bs h.a).isEmpty := isEmpty_iff h.a
  have z2 : h.b.toList.isEmpty = (bs h.b).isEmpty := isEmpty_iff h.b
  generalize formP h.pd = R at HF ⊢
  generalize within 33 126 (bs h.a) = q1 at p1 HF
  generalize within 33 126 (bs h.b) = q2 at p2 HF
  generalize valueB (bs h.c) = q3 at p3 HF
  generalize (bs h.a).isEmpty = y1 at z1 HF
  generalize (bs h.b).isEmpty = y2 at z2 HF
  obtain ⟨r0, hr0⟩ : ∃ r0, r0 = (((!y1 && q1) && (!y2 && q2)) && q3) := ⟨_, rfl⟩
  rw [← hr0] at HF
  have HR0 := Lib.hid hr0
  clear hr0
  obtain ⟨f0, f1, f2, f3⟩ := HAT.out
  clear hk HAT
  obtain ⟨sa, sb, sc, A, kc, fs⟩ := h
  simp only at *
  go_enter Tryd.func30, Tryd.ntmps30
  go_upto_region 1 with (fail)
  rw [← hW1]
  clear hW1
  go_cut [3] (fun v wx => v = .bool r0 ∧ wx = W1)
  case first =>
    cases y1 with
    | true =>
      go_wp2_with (first
        | (go_at_call 50; first | ((with_reducible refine (p1 _).mono ?_); rintro e w' ⟨rfl, rfl⟩) | ((with_reducible refine (p2 _).mono ?_); rintro e w' ⟨rfl, rfl⟩))
        | (go_at_call 51; refine (p3 _).mono ?_; rintro e w' ⟨rfl, rfl⟩))
      go_meet
      exact ⟨by rw [HR0.out]; rfl, rfl⟩
    | false =>
      cases q1 with
      | false =>
        go_wp2_with (first
          | (go_at_call 50; first | ((with_reducible refine (p1 _).mono ?_); rintro e w' ⟨rfl, rfl⟩) | ((with_reducible refine (p2 _).mono ?_); rintro e w' ⟨rfl, rfl⟩))
          | (go_at_call 51; refine (p3 _).mono ?_; rintro e w' ⟨rfl, rfl⟩))
        go_meet
        exact ⟨by rw [HR0.out]; rfl, rfl⟩
      | true =>
        cases y2 with
        | true =>
          go_wp2_with (first
            | (go_at_call 50; first | ((with_reducible refine (p1 _).mono ?_); rintro e w' ⟨rfl, rfl⟩) | ((with_reducible refine (p2 _).mono ?_); rintro e w' ⟨rfl, rfl⟩))
            | (go_at_call 51; refine (p3 _).mono ?_; rintro e w' ⟨rfl, rfl⟩))
          go_meet
          exact ⟨by rw [HR0.out]; rfl, rfl⟩
        | false =>
          cases q2 with
          | false =>
            go_wp2_with (first
              | (go_at_call 50; first | ((with_reducible refine (p1 _).mono ?_); rintro e w' ⟨rfl, rfl⟩) | ((with_reducible refine (p2 _).mono ?_); rintro e w' ⟨rfl, rfl⟩))
              | (go_at_call 51; refine (p3 _).mono ?_; rintro e w' ⟨rfl, rfl⟩))
            go_meet
            exact ⟨by rw [HR0.out]; rfl, rfl⟩
          | true =>
            go_wp2_with (first
              | (go_at_call 50; first | ((with_reducible refine (p1 _).mono ?_); rintro e w' ⟨rfl, rfl⟩) | ((with_reducible refine (p2 _).mono ?_); rintro e w' ⟨rfl, rfl⟩))
              | (go_at_call 51; refine (p3 _).mono ?_; rintro e w' ⟨rfl, rfl⟩))
            go_meet
            exact ⟨by rw [HR0.out]; rfl, rfl⟩
  case rest =>
    obtain ⟨rfl, rfl⟩ := hcut
    clear p1 p2 p3 z1 z2 f0 f1 f2 HR0
    go_wp2
    go_loopg [3, 4] fs.length (fun gh v3 v4 wx => ∃ (k : Nat) (q : Bool), v4 = .int .i64 k ∧ k + gh = fs.length ∧ v3 = .bool q ∧ Hid (q = (r0 && !((fs.take k).any fun f => oddB f.pd))) ∧ wx = wc)
    case atStart => exact ⟨0, r0, rfl, by omega, rfl, Lib.hid (by simp), rfl⟩
    case round =>
      obtain ⟨k, q, rfl, hk, rfl, HQ, rfl⟩ := hrel
      by_cases hlt : k < fs.length
      · obtain ⟨b, off, rfl, g0, g1⟩ := HFD.out k hlt
        have hz := HZ.out _ (List.getElem_mem hlt)
        have HN := Lib.hid (any_takeF fs k hlt)
        try simp only at g0 g1
        generalize fs[k] = f at g0 g1 hz HN
        obtain ⟨nm, vl⟩ := f
        obtain ⟨c1, c2⟩ := hz
        simp only at g0 g1 c1 c2
        have ht := fun w => reftoken_calls nm w c1
        have hv := fun w => refvalue_calls vl w c2
        have HO : Hid (oddB (Fd.pd ⟨nm, vl⟩) = (!tokB (bs nm) || !valueB (bs vl))) := Lib.hid rfl
        generalize tokB (bs nm) = t at ht HO
        generalize valueB (bs vl) = v at hv HO
        clear c1 c2
        have HE : Hid ((q && (t && v)) = (r0 && !((fs.take (k + 1)).any fun f => oddB f.pd))) := Lib.hid (by
          rw [HN.out, ← form_no r0 q _ _ HQ.out, HO.out]
          cases q <;> cases t <;> cases v <;> rfl)
        clear HN HO HQ
        cases q
        · go_wp2
          go_roundg (fs.length - (k + 1))
          case measure => omega
          case rel => exact ⟨k + 1, false, by go_num, by omega, rfl, HE, rfl⟩
        · cases t
          · go_wp2_with (first
              | (go_at_call 24; refine (ht _).mono ?_; rintro e w' ⟨rfl, rfl⟩))
            go_roundg (fs.length - (k + 1))
            case measure => omega
            case rel => exact ⟨k + 1, false, by go_num, by omega, rfl, HE, rfl⟩
          · go_wp2_with (first
              | (go_at_call 24; refine (ht _).mono ?_; rintro e w' ⟨rfl, rfl⟩)
              | (go_at_call 51; refine (hv _).mono ?_; rintro e w' ⟨rfl, rfl⟩))
            go_roundg (fs.length - (k + 1))
            case measure => omega
            case rel => exact ⟨k + 1, v, by go_num, by omega, rfl, HE, rfl⟩
      · have hE : R = q := by
          rw [HF.out, HQ.out, List.take_of_length_le (by omega)]
        subst hE
        go_wp2
        go_ret
        exact ⟨rfl, HB0.out⟩
end Go.Proofs.YtknfoolcbfmpaaaDoor
