/- parse: the deferred closure's two contracts; Atoi and Split as parse asks them; conditions: strings of lengths that a world can hold. -/
import Derived.Test.YtkodepckfdpaiaaDoorSl
import Derived.Tactics
import Derived.Tactics2
import Derived.Defers
import Derived.Recover
import Derived.Laws.Pointers
import Derived.Shelf.Strconv.ErrVarAll
import Derived.Lib.AtoiErrMem
namespace Go.Proofs.YtkodepckfdpaiaaDoor
set_option linter.unusedSimpArgs false
set_option linter.unusedVariables false
open Go.RowKit
@[reducible] def zeroC : Array Value := #[.string ⟨#[]⟩, .int .i64 0, .int .i64 0, .int .i64 0, .bool false, .string ⟨#[]⟩]
theorem catch_panicking (N : Nat) (d : Dd) (u : TypeId) (pv : Value) (older : List PanicEntry) (w : World) (hb : Blk w N d.cells 27) :
    CallsD Tryd.prog 40 #[.pointer (some ⟨N, 0, none⟩)] (.panicking ({ v := .iface u pv, recovered := false } :: older)) w fun e u' w' =>
      e = .returned (.tuple #[]) ∧ u' = .panicking ({ v := .iface u pv, recovered := true } :: older) ∧ Blk w' N zeroC 27 ∧ Below N w w' := by
  refine callsD_of_wpS Tryd.func40 rfl fun c₀ cs' hu => ?_
  apply wpS_seq
  apply wpS_region
  simp [wpOpsS, go_sem, recoverD, hu, Tryd.ntmps40, Exit.thenS]
  refine wpS_cond (t := true) (by simp [Act.eval, Array.replicate]) ?_
  simp only [if_true]
  apply wpS_region
  have c0 : w.cell? ⟨N, 0, none⟩ = some (.string d.k) := (hb.cell 0).trans rfl
  have c1 : w.cell? ⟨N, 1, none⟩ = some (.int .i64 d.i) := (hb.cell 1).trans rfl
  have c2 : w.cell? ⟨N, 2, none⟩ = some (.int .i64 d.s) := (hb.cell 2).trans rfl
  have c3 : w.cell? ⟨N, 3, none⟩ = some (.int .i64 d.n) := (hb.cell 3).trans rfl
  have c4 : w.cell? ⟨N, 4, none⟩ = some (.bool d.o) := (hb.cell 4).trans rfl
  have c5 : w.cell? ⟨N, 5, none⟩ = some (.string d.d) := (hb.cell 5).trans rfl
  have z := hb.frozen
  simp [wpOpsS, go_sem, c0, c1, c2, c3, c4, c5, z, bodyPostS, results, Tryd.results40]
  exact ⟨(((((hb.set 0 _).set 1 _).set 2 _).set 3 _).set 4 _).set 5 _, below_set (below_set (below_set (below_set (below_set (below_set (Below.refl _ _) (Nat.le_refl _) _ _) (Nat.le_refl _) _ _) (Nat.le_refl _) _ _) (Nat.le_refl _) _ _) (Nat.le_refl _) _ _) (Nat.le_refl _) _ _⟩
theorem catch_idle (p : Addr) (w : World) :
    CallsD Tryd.prog 40 #[.pointer (some p)] .returning w fun e u' w' => e = .returned (.tuple #[]) ∧ u' = .returning ∧ w' = w := by
  refine callsD_of_wpS Tryd.func40 rfl fun c₀ cs hu => ?_
  apply wpS_seq
  apply wpS_region
  simp [wpOpsS, go_sem, recoverD, hu, Tryd.ntmps40, Exit.thenS]
  refine wpS_cond (t := false) (by simp [Act.eval, Array.replicate]) ?_
  simp only [Bool.false_eq_true, if_false]
  refine wpS_of_wp (wp_skip ?_)
  cases c₀
  simp_all [bodyPostS, results, Tryd.results40]
/-- What Atoi answers. -/
structure AtP (w : World) (p : ByteArray) (e : Ending) (w' : World) : Prop where
  be : Below w.heap.size w w'
  v : ∃ ev, e = .returned (.tuple #[.int .i64 (valA (bs p)), ev]) ∧ (okA (bs p) = true → ev = .nilIface) ∧ (okA (bs p) = false → ∃ N, ev = .iface 91 (.pointer (some ⟨N, 0, none⟩)))
theorem Atoi_calls (p : ByteArray) (w : World) (hp : p.size ≤ 100000) (he : Env w) : Calls Tryd.prog 43 #[.string p] w (AtP w p) := by
  rcases h : Lib.atoiAll (bs p) with v | _ | _
  · refine (Tryd.strconv_Atoi_ok p (by omega) v h w).mono ?_
    rintro e w' ⟨rfl, hw⟩
    refine ⟨?_, .nilIface, ?_, fun _ => rfl, fun h2 => ?_⟩
    · rcases hw with rfl | ⟨t, rfl⟩
      · exact Below.refl _ _
      · exact Lib.bytesWorld_below w _ t
    · unfold valA; rw [h]
    · unfold okA at h2; rw [h] at h2; cases h2
  · obtain ⟨tp, q, hv⟩ := he.es
    refine (Tryd.strconv_Atoi_syntax_var p (by omega) h tp q w hv).mono ?_
    rintro e w' ⟨N, rfl, _, _, hb⟩
    refine ⟨hb, _, ?_, fun h2 => ?_, fun _ => ⟨N, rfl⟩⟩
    · unfold valA; rw [h]
    · unfold okA at h2; rw [h] at h2; cases h2
  · obtain ⟨tp, q, hv⟩ := he.er
    refine (Tryd.strconv_Atoi_range_var p (by omega) h tp q w hv).mono ?_
    rintro e w' ⟨N, rfl, _, _, hb⟩
    refine ⟨hb, _, ?_, fun h2 => ?_, fun _ => ⟨N, rfl⟩⟩
    · unfold valA; rw [h]
    · unfold okA at h2; rw [h] at h2; cases h2
theorem splitB_size (sep : ByteArray) : ∀ (k : Nat) (s : ByteArray), ∀ x ∈ Lib.splitB sep 0 k s, x.size ≤ s.size
  | 0, s, x, hx => by
    rw [Lib.splitB_zero] at hx
    rw [List.mem_singleton.1 hx]; exact Nat.le_refl _
  | k + 1, s, x, hx => by
    unfold Lib.splitB at hx
    split at hx
    · rw [List.mem_singleton.1 hx]; exact Nat.le_refl _
    · rcases List.mem_cons.1 hx with rfl | hx
      · rw [ByteArray.size_extract]; omega
      · have := splitB_size sep k _ x hx
        rw [ByteArray.size_extract] at this; omega
/-- strings.Split by a space. -/
theorem split_calls (s : ByteArray) (w : World) (hs : s.size ≤ 100000) (hm : MaxL w) :
    Calls Tryd.prog 41 #[.string s, .string ⟨#[32]⟩] w fun e w' => ∃ (l0 : ByteArray) (ls : List ByteArray), e = .returned (.slice (some ⟨w.heap.size, 0, none⟩) (ls.length + 1) (ls.length + 1)) ∧ ls.length ≤ 100000 ∧ (∀ x ∈ l0 :: ls, x.size ≤ s.size) ∧ Hid (Lib.split (bs s) [32] = bs l0 :: bss ls) ∧ Strs w' (some ⟨w.heap.size, 0, none⟩) (l0 :: ls) ∧ Below w.heap.size w w' := by
  obtain ⟨m, hm⟩ := hm
  refine (Tryd.strings_Split s ⟨#[32]⟩ m w (by omega) hm (by decide)).mono ?_
  rintro e w' ⟨rfl, rfl⟩
  have h1 := Lib.splitB_all ⟨#[32]⟩ (by decide) 0 (Lib.countB s ⟨#[32]⟩) s rfl
  have h2 := Lib.countB_le ⟨#[32]⟩ (by decide) s.size s (Nat.le_refl _)
  have h3 := splitB_size ⟨#[32]⟩ (Lib.countB s ⟨#[32]⟩) s
  have h4 : (Lib.splitB ⟨#[32]⟩ 0 (Lib.countB s ⟨#[32]⟩) s).map bs = Lib.split (bs s) [32] := Lib.splitB_data ⟨#[32]⟩ 0 (Lib.countB s ⟨#[32]⟩) s
  have hst : Strs (w.alloc (.cells ((Lib.splitB ⟨#[32]⟩ 0 (Lib.countB s ⟨#[32]⟩) s).map Value.string).toArray 9)) (some ⟨w.heap.size, 0, none⟩) (Lib.splitB ⟨#[32]⟩ 0 (Lib.countB s ⟨#[32]⟩) s) := strs_lit w _ _ rfl
  generalize Lib.splitB ⟨#[32]⟩ 0 (Lib.countB s ⟨#[32]⟩) s = r at h1 h3 h4 hst ⊢
  cases r with
  | nil => simp at h1
  | cons l0 ls =>
    have hl : ls.length = Lib.countB s ⟨#[32]⟩ := by simpa using h1
    exact ⟨l0, ls, by rw [hl], by omega, h3, Lib.hid h4.symm, hst, below_alloc1 _ _⟩
end Go.Proofs.YtkodepckfdpaiaaDoor
