/- route.Admit and the document's: the route, or the status that an offer is refused by; conditions: the slices can be read, the strings are of lengths that a world can hold. -/
import Derived.Test.YthdmibjeomhibaaRg
namespace Go.Proofs.Ythdmibjeomhibaa
set_option linter.unusedSimpArgs false
set_option linter.unusedVariables false
open Go.RowKit
structure Off where
  path : ByteArray
  host : ByteArray
  key : ByteArray
  origin : ByteArray
  A : Option Addr
  ps : List ByteArray
  c : Nat
@[reducible] def Off.val (o : Off) : Value := .agg #[.string o.path, .string o.host, .string o.key, .string o.origin, .slice o.A o.ps.length o.c]
@[reducible] def Off.cells (o : Off) : Array Value := #[.string o.path, .string o.host, .string o.key, .string o.origin, .slice o.A o.ps.length o.c]
structure Off.Ok (o : Off) (w : World) : Prop where
  pl : o.ps.length ≤ maxLen
  p : Strs w o.A o.ps
  path : o.path.size ≤ maxLen
def allowedB (s : ByteArray) (l : List ByteArray) : Bool := l.isEmpty || inB s l
theorem allowed_calls (s : ByteArray) (A : Option Addr) (l : List ByteArray) (c : Nat) (w : World) (hl : l.length ≤ maxLen) (hA : Strs w A l) :
    Calls Try.prog 30 #[.string s, .slice A l.length c] w fun e w' => e = .returned (.bool (allowedB s l)) ∧ w' = w := by
  have hc := contains_calls s A l c w hl hA
  cases l with
  | nil =>
    go_enter Try.func30, Try.ntmps30
    go_wp2
    go_ret
    exact ⟨rfl, rfl⟩
  | cons x l =>
    have hne : (((x :: l).length : Int) == 0) = false := beq_eq_false_iff_ne.2 (by simp; omega)
    generalize hL : x :: l = L at hc hne ⊢
    have hb : allowedB s L = inB s L := by rw [← hL]; rfl
    have HB := Lib.hid hb
    clear hb hL hl hA
    go_enter Try.func30, Try.ntmps30
    go_wp2_with (go_at_call 29; refine hc.mono ?_; rintro e w' ⟨rfl, rfl⟩)
    go_ret
    exact ⟨ret_bool HB.out.symm, rfl⟩
def admitB (c : Cfg) (o : Off) (n : Int) : Rt × Int :=
  if allowedB o.origin c.os then
    match pickB o.path o.ps c.rs with
    | none => (Rt.zero, 404)
    | some r => if n ≥ c.n2 then (Rt.zero, 503) else (r, 0)
  else (Rt.zero, 403)
set_option maxRecDepth 100000 in
set_option maxHeartbeats 4000000 in
theorem Admit_calls (c : Cfg) (o : Off) (n : Int) (w : World) (hc : c.Ok w) (ho : o.Ok w) (hrs : Rts.Ok c.rs) :
    Calls Try.prog 17 #[c.val, o.val, .int .i64 n] w fun e w' =>
      e = .returned (.tuple #[(admitB c o n).1.val, .int .i64 (admitB c o n).2]) ∧ Below w.heap.size w w' := by
  obtain ⟨X, hX⟩ : ∃ X, X = (((w.alloc (.cells c.cells 25 (0, 0))).alloc (.cells o.cells 31 (0, 0))).alloc (.cells Rt.zero.cells 34 (0, 0))) := ⟨_, rfl⟩
  have hb1 : Below w.heap.size w X := by rw [hX]; exact ((below_alloc1 w _).alloc (by simp) _).alloc (by simp; omega) _
  have x1 : Blk X w.heap.size c.cells 25 := by rw [hX]; exact ((Blk.new w _ _).alloc _).alloc _
  have x2 : Blk X (w.heap.size + 1 + 1) Rt.zero.cells 34 := by rw [hX]; exact Blk.new' _ _ _ (by simp)
  have HAL := allowed_calls o.origin c.A1 c.os c.c1 X hc.ol (hc.o.below hb1)
  have HPK : Calls Try.prog 15 #[c.val, .string o.path, .slice o.A o.ps.length o.c] X fun e w' =>
      e = .returned (.tuple #[((pickB o.path o.ps c.rs).getD Rt.zero).val, .bool (pickB o.path o.ps c.rs).isSome]) ∧ Hid (Below w.heap.size w w') ∧ Blk w' w.heap.size c.cells 25 ∧ Blk w' (w.heap.size + 1 + 1) Rt.zero.cells 34 :=
    (Pick_calls c o.path o.A o.c o.ps X (hc.below hb1) ho.path hrs ho.pl (ho.p.below hb1)).mono fun e w' ⟨he, hb⟩ => ⟨he, Lib.hid (hb1.trans (hb.mono hb1.size)), x1.below hb, x2.below hb⟩
  have HM : Hid (admitB c o n = _) := Lib.hid (admitB.eq_def c o n)
  have HB1 := Lib.hid hb1
  have R0 : X.cell? ⟨w.heap.size + 1 + 1, 0, none⟩ = some (.string ⟨#[]⟩) := (x2.cell 0).trans rfl
  have R1 : X.cell? ⟨w.heap.size + 1 + 1, 1, none⟩ = some (.string ⟨#[]⟩) := (x2.cell 1).trans rfl
  have R2 : X.cell? ⟨w.heap.size + 1 + 1, 2, none⟩ = some (.string ⟨#[]⟩) := (x2.cell 2).trans rfl
  rw [hX] at HAL HPK HB1
  clear hc ho hrs hb1 x1 x2 R0 R1 R2 hX
  generalize allowedB o.origin c.os = al at HAL HM
  generalize pickB o.path o.ps c.rs = pk at HPK HM
  cases al
  · go_enter Try.func17, Try.ntmps17
    go_wp2_with (first
      | (go_at_call 30; refine HAL.mono ?_; rintro e w' ⟨rfl, rfl⟩))
    refine bodyPost_ret (v := .tuple #[Rt.zero.val, .int .i64 403]) (by simp [results, Try.results17, go_sem, Rt.zero]) rfl ⟨?_, ?_⟩
    · rw [HM.out]; rfl
    · exact ((below_alloc1 w _).alloc (by simp) _).alloc (by simp; omega) _
  · cases pk with
    | none =>
      go_enter Try.func17, Try.ntmps17
      go_wp2_with (first
        | (go_at_call 30; refine HAL.mono ?_; rintro e w' ⟨rfl, rfl⟩)
        | (go_at_call 15; refine HPK.mono ?_; rintro e w1 ⟨rfl, hb, k1, k2⟩
           have R0 : ∀ o, (w1.alloc o).cell? ⟨w.heap.size + 1 + 1, 0, none⟩ = some (.string ⟨#[]⟩) := fun o => ((k2.alloc o).cell 0).trans rfl
           have R1 : ∀ o, (w1.alloc o).cell? ⟨w.heap.size + 1 + 1, 1, none⟩ = some (.string ⟨#[]⟩) := fun o => ((k2.alloc o).cell 1).trans rfl
           have R2 : ∀ o, (w1.alloc o).cell? ⟨w.heap.size + 1 + 1, 2, none⟩ = some (.string ⟨#[]⟩) := fun o => ((k2.alloc o).cell 2).trans rfl
           have RF := fun o => (k2.alloc o).frozen
           have C2 : ∀ o, (w1.alloc o).cell? ⟨w.heap.size, 2, none⟩ = some (.int .i64 c.n2) := fun o => ((k1.alloc o).cell 2).trans rfl))
      refine bodyPost_ret (v := .tuple #[Rt.zero.val, .int .i64 404]) (by simp [results, Try.results17, go_sem, Rt.zero, R0, R1, R2]) rfl ⟨?_, ?_⟩
      · rw [HM.out]; rfl
      · exact (((hb.out.alloc hb.out.size _).setCell (by simp; omega) _).setCell (by simp; omega) _).setCell (by simp; omega) _
    | some r =>
      by_cases hn : c.n2 ≤ n
      · go_enter Try.func17, Try.ntmps17
        go_wp2_with (first
          | (go_at_call 30; refine HAL.mono ?_; rintro e w' ⟨rfl, rfl⟩)
          | (go_at_call 15; refine HPK.mono ?_; rintro e w1 ⟨rfl, hb, k1, k2⟩
             have R0 : ∀ o, (w1.alloc o).cell? ⟨w.heap.size + 1 + 1, 0, none⟩ = some (.string ⟨#[]⟩) := fun o => ((k2.alloc o).cell 0).trans rfl
             have R1 : ∀ o, (w1.alloc o).cell? ⟨w.heap.size + 1 + 1, 1, none⟩ = some (.string ⟨#[]⟩) := fun o => ((k2.alloc o).cell 1).trans rfl
             have R2 : ∀ o, (w1.alloc o).cell? ⟨w.heap.size + 1 + 1, 2, none⟩ = some (.string ⟨#[]⟩) := fun o => ((k2.alloc o).cell 2).trans rfl
             have RF := fun o => (k2.alloc o).frozen
             have C2 : ∀ o, (w1.alloc o).cell? ⟨w.heap.size, 2, none⟩ = some (.int .i64 c.n2) := fun o => ((k1.alloc o).cell 2).trans rfl))
        refine bodyPost_ret (v := .tuple #[Rt.zero.val, .int .i64 503]) (by simp [results, Try.results17, go_sem, Rt.zero, R0, R1, R2]) rfl ⟨?_, ?_⟩
        · rw [HM.out]; simp only [if_true, ge_iff_le]; rw [if_pos (by omega)]
        · exact (((hb.out.alloc hb.out.size _).setCell (by simp; omega) _).setCell (by simp; omega) _).setCell (by simp; omega) _
      · go_enter Try.func17, Try.ntmps17
        go_wp2_with (first
          | (go_at_call 30; refine HAL.mono ?_; rintro e w' ⟨rfl, rfl⟩)
          | (go_at_call 15; refine HPK.mono ?_; rintro e w1 ⟨rfl, hb, k1, k2⟩
             have R0 : ∀ o, (w1.alloc o).cell? ⟨w.heap.size + 1 + 1, 0, none⟩ = some (.string ⟨#[]⟩) := fun o => ((k2.alloc o).cell 0).trans rfl
             have R1 : ∀ o, (w1.alloc o).cell? ⟨w.heap.size + 1 + 1, 1, none⟩ = some (.string ⟨#[]⟩) := fun o => ((k2.alloc o).cell 1).trans rfl
             have R2 : ∀ o, (w1.alloc o).cell? ⟨w.heap.size + 1 + 1, 2, none⟩ = some (.string ⟨#[]⟩) := fun o => ((k2.alloc o).cell 2).trans rfl
             have RF := fun o => (k2.alloc o).frozen
             have C2 : ∀ o, (w1.alloc o).cell? ⟨w.heap.size, 2, none⟩ = some (.int .i64 c.n2) := fun o => ((k1.alloc o).cell 2).trans rfl))
        refine bodyPost_ret (v := .tuple #[r.val, .int .i64 0]) (by simp [results, Try.results17, go_sem, Rt.zero, R0, R1, R2]) rfl ⟨?_, ?_⟩
        · rw [HM.out]; simp only [if_true, ge_iff_le]; rw [if_neg (by omega)]
        · exact (((hb.out.alloc hb.out.size _).setCell (by simp; omega) _).setCell (by simp; omega) _).setCell (by simp; omega) _
set_option maxRecDepth 100000 in
set_option maxHeartbeats 4000000 in
theorem refAdmit_calls (c : Cfg) (o : Off) (n : Int) (w : World) (hc : c.Ok w) (ho : o.Ok w) (hrs : Rts.Ok c.rs) :
    Calls Try.prog 18 #[c.val, o.val, .int .i64 n] w fun e w' =>
      e = .returned (.tuple #[(admitB c o n).1.val, .int .i64 (admitB c o n).2]) ∧ Below w.heap.size w w' := by
  obtain ⟨X, hX⟩ : ∃ X, X = (((w.alloc (.cells c.cells 25 (0, 0))).alloc (.cells o.cells 31 (0, 0))).alloc (.cells Rt.zero.cells 34 (0, 0))) := ⟨_, rfl⟩
  have hb1 : Below w.heap.size w X := by rw [hX]; exact ((below_alloc1 w _).alloc (by simp) _).alloc (by simp; omega) _
  have x1 : Blk X w.heap.size c.cells 25 := by rw [hX]; exact ((Blk.new w _ _).alloc _).alloc _
  have x2 : Blk X (w.heap.size + 1 + 1) Rt.zero.cells 34 := by rw [hX]; exact Blk.new' _ _ _ (by simp)
  have HAL := In_calls o.origin c.A1 c.os c.c1 X hc.ol (hc.o.below hb1)
  have HPK : Calls Try.prog 16 #[c.val, .string o.path, .slice o.A o.ps.length o.c] X fun e w' =>
      e = .returned (.tuple #[((pickB o.path o.ps c.rs).getD Rt.zero).val, .bool (pickB o.path o.ps c.rs).isSome]) ∧ Hid (Below w.heap.size w w') ∧ Blk w' w.heap.size c.cells 25 ∧ Blk w' (w.heap.size + 1 + 1) Rt.zero.cells 34 :=
    (refPick_calls c o.path o.A o.c o.ps X (hc.below hb1) ho.path hrs ho.pl (ho.p.below hb1)).mono fun e w' ⟨he, hb⟩ => ⟨he, Lib.hid (hb1.trans (hb.mono hb1.size)), x1.below hb, x2.below hb⟩
  have HM : Hid (admitB c o n = _) := Lib.hid (admitB.eq_def c o n)
  have HB1 := Lib.hid hb1
  have R0 : X.cell? ⟨w.heap.size + 1 + 1, 0, none⟩ = some (.string ⟨#[]⟩) := (x2.cell 0).trans rfl
  have R1 : X.cell? ⟨w.heap.size + 1 + 1, 1, none⟩ = some (.string ⟨#[]⟩) := (x2.cell 1).trans rfl
  have R2 : X.cell? ⟨w.heap.size + 1 + 1, 2, none⟩ = some (.string ⟨#[]⟩) := (x2.cell 2).trans rfl
  rw [hX] at HAL HPK HB1
  clear hc ho hrs hb1 x1 x2 R0 R1 R2 hX
  generalize pickB o.path o.ps c.rs = pk at HPK HM
  by_cases h0 : 0 < c.os.length
  · have hal : allowedB o.origin c.os = inB o.origin c.os := by
      rw [allowedB]; cases hos : c.os with
      | nil => rw [hos] at h0; exact absurd h0 (by simp)
      | cons x l => rfl
    rw [hal] at HM
    clear hal
    generalize inB o.origin c.os = al at HAL HM
    have d0 : decide (0 < c.os.length) = true := decide_eq_true h0
    cases al
    · go_enter Try.func18, Try.ntmps18
      go_wp2_with (first
        | (go_at_call 22; refine HAL.mono ?_; rintro e w' ⟨rfl, rfl⟩))
      refine bodyPost_ret (v := .tuple #[Rt.zero.val, .int .i64 403]) (by simp [results, Try.results18, go_sem, Rt.zero]) rfl ⟨?_, ?_⟩
      · rw [HM.out]; rfl
      · exact ((below_alloc1 w _).alloc (by simp) _).alloc (by simp; omega) _
    · cases pk with
      | none =>
        go_enter Try.func18, Try.ntmps18
        go_wp2_with (first
          | (go_at_call 22; refine HAL.mono ?_; rintro e w' ⟨rfl, rfl⟩)
          | (go_at_call 16; refine HPK.mono ?_; rintro e w1 ⟨rfl, hb, k1, k2⟩
             have R0 : ∀ o, (w1.alloc o).cell? ⟨w.heap.size + 1 + 1, 0, none⟩ = some (.string ⟨#[]⟩) := fun o => ((k2.alloc o).cell 0).trans rfl
             have R1 : ∀ o, (w1.alloc o).cell? ⟨w.heap.size + 1 + 1, 1, none⟩ = some (.string ⟨#[]⟩) := fun o => ((k2.alloc o).cell 1).trans rfl
             have R2 : ∀ o, (w1.alloc o).cell? ⟨w.heap.size + 1 + 1, 2, none⟩ = some (.string ⟨#[]⟩) := fun o => ((k2.alloc o).cell 2).trans rfl
             have RF := fun o => (k2.alloc o).frozen
             have C2 : ∀ o, (w1.alloc o).cell? ⟨w.heap.size, 2, none⟩ = some (.int .i64 c.n2) := fun o => ((k1.alloc o).cell 2).trans rfl))
        refine bodyPost_ret (v := .tuple #[Rt.zero.val, .int .i64 404]) (by simp [results, Try.results18, go_sem, Rt.zero, R0, R1, R2]) rfl ⟨?_, ?_⟩
        · rw [HM.out]; rfl
        · exact (((hb.out.alloc hb.out.size _).setCell (by simp; omega) _).setCell (by simp; omega) _).setCell (by simp; omega) _
      | some r =>
        by_cases hn : c.n2 ≤ n
        · go_enter Try.func18, Try.ntmps18
          go_wp2_with (first
            | (go_at_call 22; refine HAL.mono ?_; rintro e w' ⟨rfl, rfl⟩)
            | (go_at_call 16; refine HPK.mono ?_; rintro e w1 ⟨rfl, hb, k1, k2⟩
               have R0 : ∀ o, (w1.alloc o).cell? ⟨w.heap.size + 1 + 1, 0, none⟩ = some (.string ⟨#[]⟩) := fun o => ((k2.alloc o).cell 0).trans rfl
               have R1 : ∀ o, (w1.alloc o).cell? ⟨w.heap.size + 1 + 1, 1, none⟩ = some (.string ⟨#[]⟩) := fun o => ((k2.alloc o).cell 1).trans rfl
               have R2 : ∀ o, (w1.alloc o).cell? ⟨w.heap.size + 1 + 1, 2, none⟩ = some (.string ⟨#[]⟩) := fun o => ((k2.alloc o).cell 2).trans rfl
               have RF := fun o => (k2.alloc o).frozen
               have C2 : ∀ o, (w1.alloc o).cell? ⟨w.heap.size, 2, none⟩ = some (.int .i64 c.n2) := fun o => ((k1.alloc o).cell 2).trans rfl))
          refine bodyPost_ret (v := .tuple #[Rt.zero.val, .int .i64 503]) (by simp [results, Try.results18, go_sem, Rt.zero, R0, R1, R2]) rfl ⟨?_, ?_⟩
          · rw [HM.out]; simp only [if_true, ge_iff_le]; rw [if_pos (by omega)]
          · exact (((hb.out.alloc hb.out.size _).setCell (by simp; omega) _).setCell (by simp; omega) _).setCell (by simp; omega) _
        · go_enter Try.func18, Try.ntmps18
          go_wp2_with (first
            | (go_at_call 22; refine HAL.mono ?_; rintro e w' ⟨rfl, rfl⟩)
            | (go_at_call 16; refine HPK.mono ?_; rintro e w1 ⟨rfl, hb, k1, k2⟩
               have R0 : ∀ o, (w1.alloc o).cell? ⟨w.heap.size + 1 + 1, 0, none⟩ = some (.string ⟨#[]⟩) := fun o => ((k2.alloc o).cell 0).trans rfl
               have R1 : ∀ o, (w1.alloc o).cell? ⟨w.heap.size + 1 + 1, 1, none⟩ = some (.string ⟨#[]⟩) := fun o => ((k2.alloc o).cell 1).trans rfl
               have R2 : ∀ o, (w1.alloc o).cell? ⟨w.heap.size + 1 + 1, 2, none⟩ = some (.string ⟨#[]⟩) := fun o => ((k2.alloc o).cell 2).trans rfl
               have RF := fun o => (k2.alloc o).frozen
               have C2 : ∀ o, (w1.alloc o).cell? ⟨w.heap.size, 2, none⟩ = some (.int .i64 c.n2) := fun o => ((k1.alloc o).cell 2).trans rfl))
          refine bodyPost_ret (v := .tuple #[r.val, .int .i64 0]) (by simp [results, Try.results18, go_sem, Rt.zero, R0, R1, R2]) rfl ⟨?_, ?_⟩
          · rw [HM.out]; simp only [if_true, ge_iff_le]; rw [if_neg (by omega)]
          · exact (((hb.out.alloc hb.out.size _).setCell (by simp; omega) _).setCell (by simp; omega) _).setCell (by simp; omega) _
  · have hal : allowedB o.origin c.os = true := by rw [allowedB, List.length_eq_zero_iff.1 (show c.os.length = 0 by omega)]; rfl
    rw [hal] at HM
    clear hal HAL
    have d0 : decide (0 < c.os.length) = false := decide_eq_false h0
    cases pk with
    | none =>
      go_enter Try.func18, Try.ntmps18
      go_wp2_with (first
        | (go_at_call 16; refine HPK.mono ?_; rintro e w1 ⟨rfl, hb, k1, k2⟩
           have R0 : ∀ o, (w1.alloc o).cell? ⟨w.heap.size + 1 + 1, 0, none⟩ = some (.string ⟨#[]⟩) := fun o => ((k2.alloc o).cell 0).trans rfl
           have R1 : ∀ o, (w1.alloc o).cell? ⟨w.heap.size + 1 + 1, 1, none⟩ = some (.string ⟨#[]⟩) := fun o => ((k2.alloc o).cell 1).trans rfl
           have R2 : ∀ o, (w1.alloc o).cell? ⟨w.heap.size + 1 + 1, 2, none⟩ = some (.string ⟨#[]⟩) := fun o => ((k2.alloc o).cell 2).trans rfl
           have RF := fun o => (k2.alloc o).frozen
           have C2 : ∀ o, (w1.alloc o).cell? ⟨w.heap.size, 2, none⟩ = some (.int .i64 c.n2) := fun o => ((k1.alloc o).cell 2).trans rfl))
      refine bodyPost_ret (v := .tuple #[Rt.zero.val, .int .i64 404]) (by simp [results, Try.results18, go_sem, Rt.zero, R0, R1, R2]) rfl ⟨?_, ?_⟩
      · rw [HM.out]; rfl
      · exact (((hb.out.alloc hb.out.size _).setCell (by simp; omega) _).setCell (by simp; omega) _).setCell (by simp; omega) _
    | some r =>
      by_cases hn : c.n2 ≤ n
      · go_enter Try.func18, Try.ntmps18
        go_wp2_with (first
          | (go_at_call 16; refine HPK.mono ?_; rintro e w1 ⟨rfl, hb, k1, k2⟩
             have R0 : ∀ o, (w1.alloc o).cell? ⟨w.heap.size + 1 + 1, 0, none⟩ = some (.string ⟨#[]⟩) := fun o => ((k2.alloc o).cell 0).trans rfl
             have R1 : ∀ o, (w1.alloc o).cell? ⟨w.heap.size + 1 + 1, 1, none⟩ = some (.string ⟨#[]⟩) := fun o => ((k2.alloc o).cell 1).trans rfl
             have R2 : ∀ o, (w1.alloc o).cell? ⟨w.heap.size + 1 + 1, 2, none⟩ = some (.string ⟨#[]⟩) := fun o => ((k2.alloc o).cell 2).trans rfl
             have RF := fun o => (k2.alloc o).frozen
             have C2 : ∀ o, (w1.alloc o).cell? ⟨w.heap.size, 2, none⟩ = some (.int .i64 c.n2) := fun o => ((k1.alloc o).cell 2).trans rfl))
        refine bodyPost_ret (v := .tuple #[Rt.zero.val, .int .i64 503]) (by simp [results, Try.results18, go_sem, Rt.zero, R0, R1, R2]) rfl ⟨?_, ?_⟩
        · rw [HM.out]; simp only [if_true, ge_iff_le]; rw [if_pos (by omega)]
        · exact (((hb.out.alloc hb.out.size _).setCell (by simp; omega) _).setCell (by simp; omega) _).setCell (by simp; omega) _
      · go_enter Try.func18, Try.ntmps18
        go_wp2_with (first
          | (go_at_call 16; refine HPK.mono ?_; rintro e w1 ⟨rfl, hb, k1, k2⟩
             have R0 : ∀ o, (w1.alloc o).cell? ⟨w.heap.size + 1 + 1, 0, none⟩ = some (.string ⟨#[]⟩) := fun o => ((k2.alloc o).cell 0).trans rfl
             have R1 : ∀ o, (w1.alloc o).cell? ⟨w.heap.size + 1 + 1, 1, none⟩ = some (.string ⟨#[]⟩) := fun o => ((k2.alloc o).cell 1).trans rfl
             have R2 : ∀ o, (w1.alloc o).cell? ⟨w.heap.size + 1 + 1, 2, none⟩ = some (.string ⟨#[]⟩) := fun o => ((k2.alloc o).cell 2).trans rfl
             have RF := fun o => (k2.alloc o).frozen
             have C2 : ∀ o, (w1.alloc o).cell? ⟨w.heap.size, 2, none⟩ = some (.int .i64 c.n2) := fun o => ((k1.alloc o).cell 2).trans rfl))
        refine bodyPost_ret (v := .tuple #[r.val, .int .i64 0]) (by simp [results, Try.results18, go_sem, Rt.zero, R0, R1, R2]) rfl ⟨?_, ?_⟩
        · rw [HM.out]; simp only [if_true, ge_iff_le]; rw [if_neg (by omega)]
        · exact (((hb.out.alloc hb.out.size _).setCell (by simp; omega) _).setCell (by simp; omega) _).setCell (by simp; omega) _
end Go.Proofs.Ythdmibjeomhibaa
