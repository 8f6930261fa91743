/- head.Read; conditions: the library's bound lies where it is laid; the bytes can be read. -/
import Derived.Test.YtknfoolcbfmpaaaDoorHh
import Derived.Lib.SlBytesConst
namespace Go.Proofs.YtknfoolcbfmpaaaDoor
set_option linter.unusedSimpArgs false
set_option linter.unusedVariables false
open Go.RowKit
@[reducible] def nilH : Hd := ⟨⟨#[]⟩, ⟨#[]⟩, ⟨#[]⟩, none, 0, []⟩
theorem nilH_ok (w : World) : nilH.Ok w := ⟨by decide, by decide, by decide, by decide, (fun f hf => by cases hf), Fds.nil _ _⟩
/-- What Read leaves. -/
def RP (w : World) (s : List UInt8) (e : Ending) (w' : World) : Prop := ∃ (h : Hd) (n er : Int), e = .returned (.tuple #[h.val, .int .i64 n, .int .i64 er]) ∧ readB s = ⟨h.pd, n, er⟩ ∧ h.Ok w' ∧ Below w.heap.size w w'
theorem results_cell_tmp2 {fn : Func} {p u v : Tmp} {ty : TypeId} (h : fn.results = #[.cell p ty, .tmp u, .tmp v]) (tmps : Array Value) (P : Program) (w : World) :
    (results fn tmps).run P w =
      ((asAddr (tmps.getD p undef)).run P w).andThen fun a w₁ => ((loadVar ty a).run P w₁).andThen fun x w₂ => .ok (.tuple #[x, tmps.getD u undef, tmps.getD v undef]) w₂ := by
  simp only [results, h]
  simp [Sem.run_bind, Result.andThen]
theorem conv_const (w : World) (C : Array Value) (n c : Nat) : (convert 28 28 (.slice (some ⟨w.heap.size, 0, none⟩) n c)).run Tryd.prog (w.alloc (.cells C 5)) = .ok (.slice (some ⟨w.heap.size, 0, none⟩) n c) (w.alloc (.cells C 5 (C.size, C.size + 1))) :=
  Lib.run_convert_bytes_const w 28 5 C n c Tryd.underlying28 Tryd.underlying5
theorem conv_mk {w : World} {A : Option Addr} {l : List UInt8} (c : Nat) (h : Bys w A l) : (convert 28 9 (.slice A l.length c)).run Tryd.prog w = .ok (.string (mk l)) w := conv_str c h
/-- Behind the search: what is as it was. -/
structure RS (w w' : World) (l : List UInt8) (g o : Nat) : Prop where
  be : Below w.heap.size w w'
  rb : Blk w' w.heap.size (hCells ⟨#[]⟩ ⟨#[]⟩ ⟨#[]⟩ (.slice none 0 0)) 25
  mx : MaxL w'
  by_ : Bys w' (some ⟨g, o, none⟩) l
set_option maxRecDepth 100000 in
set_option maxHeartbeats 4000000 in
theorem Read_more (g o c : Nat) (l : List UInt8) (w : World) (hl : l.length ≤ c) (hc : c ≤ maxLen) (hz : l.length ≤ 100000) (hm : MaxL w) (hA : Bys w (some ⟨g, o, none⟩) l) (hN : Lib.index (l.take 2048) endB < 0) :
    Calls Tryd.prog 16 #[.slice (some ⟨g, o, none⟩) l.length c] w (RP w l) := by
  obtain ⟨W0, hW0⟩ : ∃ W0, W0 = w.alloc (.cells (hCells ⟨#[]⟩ ⟨#[]⟩ ⟨#[]⟩ (.slice none 0 0)) 25 (0, 0)) := ⟨_, rfl⟩
  obtain ⟨W1, hW1⟩ : ∃ W1, W1 = W0.alloc (.cells #[.int .u8 13, .int .u8 10, .int .u8 13, .int .u8 10] 5 (4, 5)) := ⟨_, rfl⟩
  have HB0 : Hid (Below w.heap.size w W0) := Lib.hid (hW0 ▸ below_alloc1 w _)
  have HB1 : Hid (Below w.heap.size w W1) := Lib.hid (hW1 ▸ below_al HB0.out _)
  have HR1 : Hid (Blk W1 w.heap.size (hCells ⟨#[]⟩ ⟨#[]⟩ ⟨#[]⟩ (.slice none 0 0)) 25) := Lib.hid (by rw [hW1, hW0]; exact (Blk.new' w _ _ rfl).alloc _)
  have hsz0 : W0.heap.size = w.heap.size + 1 := by rw [hW0]; simp
  have HE : Hid (Bys W1 (some ⟨W0.heap.size, 0, none⟩) endB) := Lib.hid fun i hi => by
    refine ⟨W0.heap.size, 0, rfl, ?_⟩
    rw [Nat.zero_add, hW1]
    refine (World.cell?_alloc_mark W0 _ _ _ i).trans ?_
    match i, hi with
    | 0, _ => rfl
    | 1, _ => rfl
    | 2, _ => rfl
    | 3, _ => rfl
  have HMX : Hid (MaxL W1) := Lib.hid (hm.below HB1.out)
  have HA : Hid (Bys W1 (some ⟨g, o, none⟩) l) := Lib.hid (bys_below hA HB1.out)
  have hidx := index_calls g o c W0.heap.size (l.take 2048) W1 (by rw [List.length_take]; omega) (by rw [List.length_take]; omega) HMX.out (HA.out.take 2048) HE.out
  have hst := hidx.mono (R' := fun e w' => e = .returned (.int .i64 (Lib.index (l.take 2048) endB)) ∧ Hid (RS w w' l g o)) (by
    rintro e w' ⟨rfl, q, rfl⟩
    exact ⟨rfl, Lib.hid ⟨below_drewN HB1.out _, HR1.out.below (below_drewN1 _ _), HMX.out.below (below_drewN1 _ _), bys_below HA.out (below_drewN1 _ _)⟩⟩)
  rw [List.length_take, hsz0, hW1, hW0, show min 2048 l.length = (min (l.length : Int) 2048).toNat by omega] at hst
  have hcc : (convert 28 28 (.slice (some ⟨w.heap.size + 1, 0, none⟩) 4 4)).run Tryd.prog ((w.alloc (.cells (hCells ⟨#[]⟩ ⟨#[]⟩ ⟨#[]⟩ (.slice none 0 0)) 25 (0, 0))).alloc (.cells #[.int .u8 13, .int .u8 10, .int .u8 13, .int .u8 10] 5)) = .ok (.slice (some ⟨w.heap.size + 1, 0, none⟩) 4 4) ((w.alloc (.cells (hCells ⟨#[]⟩ ⟨#[]⟩ ⟨#[]⟩ (.slice none 0 0)) 25 (0, 0))).alloc (.cells #[.int .u8 13, .int .u8 10, .int .u8 13, .int .u8 10] 5 (4, 5))) := by
    have := conv_const W0 #[.int .u8 13, .int .u8 10, .int .u8 13, .int .u8 10] 4 4
    rw [hsz0, hW0] at this
    exact this
  clear hidx HB0 HB1 HR1 HE HMX HA hW1 W1 hsz0 hW0 W0 hm hA
  have HQ : Hid (readB l = if Lib.index (l.take 2048) endB < 0 then ⟨nilP, 0, if 2048 ≤ l.length then 51 else 50⟩ else linesB (Lib.split (l.take (Lib.index (l.take 2048) endB).toNat) [13, 10]) (Lib.index (l.take 2048) endB)) := Lib.hid rfl
  have hisp := Lib.index_spec (l.take 2048) endB
  unfold RP
  generalize readB l = RR at HQ ⊢
  generalize Lib.index (l.take 2048) endB = N at hst HQ hisp hN
  unfold maxLen at hc
  have hmn : (min 2048 l.length : Nat) ≤ c := by omega
  rcases hisp with ⟨rfl, _⟩ | ⟨n, rfl, hn, _, _⟩
  · have HQ2 : Hid (RR = ⟨nilP, 0, if 2048 ≤ l.length then 51 else 50⟩) := Lib.hid (by rw [HQ.out]; rfl)
    clear HQ
    go_enter Tryd.func16, Tryd.ntmps16
    by_cases h20 : 2048 ≤ l.length
    · have hd : decide ((2048 : Int) ≤ (l.length : Int)) = true := decide_eq_true (by omega)
      have HQ3 : Hid (RR = ⟨nilP, 0, 51⟩) := Lib.hid (by rw [HQ2.out, if_pos h20])
      clear HQ2
      go_wp2_with (go_at_call 36; refine hst.mono ?_; rintro e w2 ⟨rfl, HS⟩; have z0 := (HS.out.rb.cell 0).trans rfl; have z1 := (HS.out.rb.cell 1).trans rfl; have z2 := (HS.out.rb.cell 2).trans rfl; have z3 := (HS.out.rb.cell 3).trans rfl; have k0 := HS.out.rb.frozen 0; have k1 := HS.out.rb.frozen 1; have k2 := HS.out.rb.frozen 2; have k3 := HS.out.rb.frozen 3)
      refine bodyPost_ret (v := .tuple #[nilH.val, .int .i64 0, .int .i64 51]) ?_ rfl ⟨nilH, 0, 51, rfl, HQ3.out, nilH_ok _, ?_⟩
      · rw [results_cell_tmp2 rfl]; go_simp
      · exact below_set (below_set (below_set (below_set HS.out.be (Nat.le_refl _) 0 _) (Nat.le_refl _) 1 _) (Nat.le_refl _) 2 _) (Nat.le_refl _) 3 _
    · have hd : decide ((2048 : Int) ≤ (l.length : Int)) = false := decide_eq_false (by omega)
      have HQ3 : Hid (RR = ⟨nilP, 0, 50⟩) := Lib.hid (by rw [HQ2.out, if_neg h20])
      clear HQ2
      go_wp2_with (go_at_call 36; refine hst.mono ?_; rintro e w2 ⟨rfl, HS⟩; have z0 := (HS.out.rb.cell 0).trans rfl; have z1 := (HS.out.rb.cell 1).trans rfl; have z2 := (HS.out.rb.cell 2).trans rfl; have z3 := (HS.out.rb.cell 3).trans rfl; have k0 := HS.out.rb.frozen 0; have k1 := HS.out.rb.frozen 1; have k2 := HS.out.rb.frozen 2; have k3 := HS.out.rb.frozen 3)
      refine bodyPost_ret (v := .tuple #[nilH.val, .int .i64 0, .int .i64 50]) ?_ rfl ⟨nilH, 0, 50, rfl, HQ3.out, nilH_ok _, ?_⟩
      · rw [results_cell_tmp2 rfl]; go_simp
      · exact below_set (below_set (below_set (below_set HS.out.be (Nat.le_refl _) 0 _) (Nat.le_refl _) 1 _) (Nat.le_refl _) 2 _) (Nat.le_refl _) 3 _
  · omega
end Go.Proofs.YtknfoolcbfmpaaaDoor
