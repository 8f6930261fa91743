/- head.Get and the document's: a name's values; conditions: as before. -/
import Derived.Test.YtknfoolcbfmpaaaDoorHc
namespace Go.Proofs.YtknfoolcbfmpaaaDoor
set_option linter.unusedSimpArgs false
set_option linter.unusedVariables false
open Go.RowKit
/-- The values of a name, among fields. -/
def getF (n : ByteArray) (l : List Fd) : List ByteArray := (l.filter fun f => sameB (bs f.nm) (bs n)).map (·.vl)
theorem getF_take (n : ByteArray) (l : List Fd) (k : Nat) (h : k < l.length) : getF n (l.take (k + 1)) = getF n (l.take k) ++ if sameB (bs l[k].nm) (bs n) then [l[k].vl] else [] := by
  unfold getF
  rw [List.take_succ_eq_append_getElem h, List.filter_append, List.map_append]
  congr 1
  rw [List.filter_cons]
  split <;> rfl
theorem getF_len (n : ByteArray) (l : List Fd) : (getF n l).length ≤ l.length := by
  unfold getF
  rw [List.length_map]
  exact List.length_filter_le _ _
/-- What an append of one string leaves. -/
structure App1 (base : Nat) (w : World) (v : Value) (ys : List ByteArray) (t : ByteArray) (v' : Value) (w' : World) : Prop where
  own : OwnS w' base v' (ys ++ [t])
  be : Below base w w'
theorem OwnS.app1 {w : World} {base : Nat} {v : Value} {ys : List ByteArray} (h : OwnS w base v ys) (ty : TypeId) (g : Nat) (t : ByteArray) {tt : TypeId} (hg : Blk w g #[.string t] tt) (hn : ys.length + 1 ≤ 1000000) (hbase : base ≤ w.heap.size) :
    ∃ v' w', (Builtin.append_ #[43, 43] ty #[v, .slice (some ⟨g, 0, none⟩) 1 1]).run Tryd.prog w = .ok v' w' ∧ App1 base w v ys t v' w' := by
  obtain ⟨v', w', h1, h2, h3, _⟩ := OwnS.app h ty (some ⟨g, 0, none⟩) [t] 1 (strs_blk1 hg) (by simpa using hn) hbase
  exact ⟨v', w', h1, h2, h3⟩
theorem app_below {w wr w2 : World} {v v2 : Value} {ys : List ByteArray} {t : ByteArray} {o : Obj} (hx : OwnS wr w.heap.size v ys ∧ Below w.heap.size w wr) (hF : App1 w.heap.size (wr.alloc o) v ys t v2 w2) : OwnS w2 w.heap.size v2 (ys ++ [t]) ∧ Below w.heap.size w w2 :=
  ⟨hF.own, (hx.2.trans ((below_alloc1 wr o).mono hx.2.size)).trans hF.be⟩
/-- A head whose fields can be read; values of any length. -/
structure Hd.Gt (h : Hd) (w : World) : Prop where
  fl : h.fs.length ≤ 60
  mf : ∀ f ∈ h.fs, f.nm.size ≤ maxLen ∧ f.vl.size ≤ maxLen
  fd : Fds w h.A h.fs
theorem Hd.Ok.gt {h : Hd} {w : World} (k : h.Ok w) : h.Gt w := ⟨k.fl, k.mf, k.fd⟩
/-- What Get leaves. -/
def GP (w : World) (r : List ByteArray) (e : Ending) (w' : World) : Prop := ∃ A c, e = .returned (.slice A r.length c) ∧ r.length ≤ c ∧ c ≤ maxLen ∧ Strs w' A r ∧ Below w.heap.size w w'
set_option maxRecDepth 100000 in
set_option maxHeartbeats 4000000 in
theorem GetG_calls (h : Hd) (n : ByteArray) (w : World) (hk : h.Gt w) (hn : n.size ≤ maxLen) :
    Calls Tryd.prog 21 #[h.val, .string n] w (GP w (getF n h.fs)) := by
  have HK := Lib.hid hk
  have hfl := hk.fl
  have hsm := fun (k : Nat) (hlt : k < h.fs.length) w' => Same_calls h.fs[k].nm n w' (hk.mf _ (List.getElem_mem hlt)).1 hn
  obtain ⟨ha, hb, hc, A, kc, fs⟩ := h
  simp only at *
  clear hk
  go_enter Tryd.func21, Tryd.ntmps21
  have HB0 := Lib.hid (below_alloc1 w (.cells #[.string ha, .string hb, .string hc, .slice A fs.length kc] 25))
  go_wp2
  go_loopg [5, 11] fs.length (fun gh v5 v11 wx => ∃ k : Nat, v11 = .int .i64 k ∧ k + gh = fs.length ∧ Hid (OwnS wx w.heap.size v5 (getF n (fs.take k)) ∧ Below w.heap.size w wx))
  case atStart => exact ⟨0, rfl, by omega, Lib.hid ⟨OwnS.nil _ _, HB0.out⟩⟩
  case round =>
    clear HB0
    obtain ⟨k, rfl, hk, HX⟩ := hrel
    by_cases hlt : k < fs.length
    · obtain ⟨b, off, rfl, g0, g1⟩ := (HK.out.fd.below HX.out.2) k hlt
      have hs := hsm k hlt
      have HT := Lib.hid (getF_take n fs k hlt)
      have hgl : (getF n (fs.take k)).length + 1 ≤ 1000000 := by
        have := getF_len n (fs.take k)
        rw [List.length_take] at this; omega
      simp only at g0 g1
      generalize fs[k] = f at g0 g1 hs HT
      obtain ⟨nm, vl⟩ := f
      simp only at g0 g1 hs HT
      cases hq : sameB (bs nm) (bs n) with
      | false =>
        rw [hq] at hs HT
        clear hq
        go_wp2_with (go_at_call 25; refine (hs _).mono ?_; rintro e w' ⟨rfl, m, rfl⟩)
        go_roundg (fs.length - (k + 1))
        case measure => omega
        case rel => exact ⟨k + 1, by go_num, by omega, Lib.hid (by
          rw [HT.out]
          simp only [Bool.false_eq_true, if_false, List.append_nil]
          exact ⟨(HX.out.1.al _).drewN _, below_drewN (below_al HX.out.2 _) _⟩)⟩
      | true =>
        rw [hq] at hs HT
        clear hq
        go_wp2_with (first
          | (go_at_call 25; refine (hs _).mono ?_; rintro e w' ⟨rfl, m, rfl⟩)
          | (at_builtin
             refine wpList_app rfl _ _ _ rfl u5 (.slice (some ⟨wr.heap.size + 1, 0, none⟩) 1 1) (by rfl) (by rfl) (OwnS.app1 (((HX.out.1.al _).drewN _).al _) _ (wr.heap.size + 1) vl (Blk.new' _ _ _ ?h1) hgl ?h3) ?_
             case h1 => simp
             case h3 => have := HX.out.2.size; simp; omega
             intro v2 w2 hF
             have HF := Lib.hid (app_below (w := w) (And.intro ((HX.out.1.al _).drewN _) (below_drewN (below_al HX.out.2 _) _)) hF)
             clear hF))
        go_roundg (fs.length - (k + 1))
        case measure => omega
        case rel => exact ⟨k + 1, by go_num, by omega, Lib.hid (by rw [HT.out]; exact HF.out)⟩
    · obtain ⟨A5, c5, hv, h1, h2, h3⟩ := HX.out.1.form
      have he : fs.take k = fs := List.take_of_length_le (by omega)
      rw [he] at hv h1 h3
      have HG := Lib.hid (And.intro h1 (And.intro h2 (And.intro h3 HX.out.2)))
      clear h1 h2 h3 he
      subst hv
      go_wp2
      go_ret
      exact ⟨A5, c5, rfl, HG.out.1, HG.out.2.1, HG.out.2.2.1, HG.out.2.2.2⟩
theorem Get_calls (h : Hd) (n : ByteArray) (w : World) (hk : h.Ok w) (hn : n.size ≤ maxLen) :
    Calls Tryd.prog 21 #[h.val, .string n] w (GP w (getF n h.fs)) := GetG_calls h n w hk.gt hn
set_option maxRecDepth 100000 in
set_option maxHeartbeats 4000000 in
theorem refGet_calls (h : Hd) (n : ByteArray) (w : World) (hk : h.Ok w) (hn : n.size ≤ maxLen) :
    Calls Tryd.prog 22 #[h.val, .string n] w (GP w (getF n h.fs)) := by
  have HK := Lib.hid hk
  obtain ⟨W1, hW1⟩ : ∃ W1, W1 = w.alloc (.cells h.cells 25 (0, 0)) := ⟨_, rfl⟩
  have HAT : Hid (h.At W1 w.heap.size) := Lib.hid (hW1 ▸ h.box w 25)
  have HS : Hid (W1.heap.size = w.heap.size + 1) := Lib.hid (by rw [hW1]; simp)
  have HB0 : Hid (Below w.heap.size w W1) := Lib.hid (hW1 ▸ below_alloc1 w (.cells h.cells 25 (0, 0)))
  have HW := Lib.hid hW1
  clear hW1
  have hfl := hk.fl
  have hsm := fun (k : Nat) (hlt : k < h.fs.length) w' => refSame_calls h.fs[k].nm n w' (hk.mf _ (List.getElem_mem hlt)).1 hn
  obtain ⟨ha, hb, hc, A, kc, fs⟩ := h
  simp only at *
  clear hk
  go_enter Tryd.func22, Tryd.ntmps22
  go_wp2
  go_loopg [5, 6] fs.length (fun gh v5 v6 wx => ∃ k : Nat, v6 = .int .i64 k ∧ k + gh = fs.length ∧ Hid (OwnS wx W1.heap.size v5 (getF n (fs.take k)) ∧ Below W1.heap.size W1 wx))
  case atStart => exact ⟨0, rfl, by omega, Lib.hid (by rw [← HW.out]; exact ⟨OwnS.new' _ HS.out.symm (Nat.le_refl _), below_al (Below.refl _ _) _⟩)⟩
  case round =>
    obtain ⟨k, rfl, hk, HX⟩ := hrel
    have hF := ((bcell HX.out.2).1 w.heap.size 3 (by rw [HS.out]; omega)).trans HAT.out.f3
    have HBx : Hid (Below w.heap.size w wr) := Lib.hid (bt HB0.out HX.out.2)
    simp only at hF
    by_cases hlt : k < fs.length
    · obtain ⟨b, off, rfl, g0, g1⟩ := (HK.out.fd.below HBx.out) k hlt
      have hs := hsm k hlt
      have HT := Lib.hid (getF_take n fs k hlt)
      have hgl : (getF n (fs.take k)).length + 1 ≤ 1000000 := by
        have := getF_len n (fs.take k)
        rw [List.length_take] at this; omega
      simp only at g0 g1
      generalize fs[k] = f at g0 g1 hs HT
      obtain ⟨nm, vl⟩ := f
      simp only at g0 g1 hs HT
      cases hq : sameB (bs nm) (bs n) with
      | false =>
        rw [hq] at hs HT
        clear hq
        go_wp2_with (go_at_call 26; refine (hs _).mono ?_; rintro e w' ⟨rfl, m, rfl⟩)
        go_roundg (fs.length - (k + 1))
        case measure => omega
        case rel => exact ⟨k + 1, by go_num, by omega, Lib.hid (by
          rw [HT.out]
          simp only [Bool.false_eq_true, if_false, List.append_nil]
          exact ⟨HX.out.1.drewN _, below_drewN HX.out.2 _⟩)⟩
      | true =>
        rw [hq] at hs HT
        clear hq
        go_wp2_with (first
          | (go_at_call 26; refine (hs _).mono ?_; rintro e w' ⟨rfl, m, rfl⟩)
          | (at_builtin
             refine wpList_app rfl _ _ _ rfl u5 (.slice (some ⟨wr.heap.size, 0, none⟩) 1 1) (by rfl) (by rfl) (OwnS.app1 ((HX.out.1.drewN _).al _) _ wr.heap.size vl (Blk.new' _ _ _ ?h1) hgl ?h3) ?_
             case h1 => simp
             case h3 => have := HX.out.2.size; simp; omega
             intro v2 w2 hF2
             have HF := Lib.hid (app_below (w := W1) (And.intro (HX.out.1.drewN _) (below_drewN HX.out.2 _)) hF2)
             clear hF2))
        go_roundg (fs.length - (k + 1))
        case measure => omega
        case rel => exact ⟨k + 1, by go_num, by omega, Lib.hid (by rw [HT.out]; exact HF.out)⟩
    · obtain ⟨A5, c5, hv, h1, h2, h3⟩ := HX.out.1.form
      have he : fs.take k = fs := List.take_of_length_le (by omega)
      rw [he] at hv h1 h3
      have HG := Lib.hid (And.intro h1 (And.intro h2 (And.intro h3 HBx.out)))
      clear h1 h2 h3 he
      subst hv
      go_wp2
      go_ret
      exact ⟨A5, c5, rfl, HG.out.1, HG.out.2.1, HG.out.2.2.1, HG.out.2.2.2⟩
end Go.Proofs.YtknfoolcbfmpaaaDoor
