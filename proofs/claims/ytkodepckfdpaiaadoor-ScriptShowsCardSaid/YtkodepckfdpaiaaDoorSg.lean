/- What a deed of a kind has, by the program; conditions: strings of lengths that a world can hold. -/
import Derived.Test.YtkodepckfdpaiaaDoorSf
namespace Go.Proofs.YtkodepckfdpaiaaDoor
set_option linter.unusedSimpArgs false
set_option linter.unusedVariables false
open Go.RowKit
theorem mk_of {s : ByteArray} {l : By} (h : l = bs s) : mk l = s := by subst h; exact mk_bs s
theorem prs_kinds {w : World} {B : Nat} {t : TypeId} (h : Blk w B kindC t) : Prs w (some ⟨B, 0, none⟩) kindL := fun i hi => by
  refine ⟨B, 0, rfl, ?_, ?_⟩
  · rw [Nat.zero_add, h.cell]
    match i, hi with
    | 0, _ => rfl
    | 1, _ => rfl
    | 2, _ => rfl
    | 3, _ => rfl
    | 4, _ => rfl
    | 5, _ => rfl
    | 6, _ => rfl
  · rw [Nat.zero_add, h.cell]
    match i, hi with
    | 0, _ => rfl
    | 1, _ => rfl
    | 2, _ => rfl
    | 3, _ => rfl
    | 4, _ => rfl
    | 5, _ => rfl
    | 6, _ => rfl
set_option maxRecDepth 100000 in
set_option maxHeartbeats 1000000 in
theorem has_calls (k : ByteArray) (w : World) :
    Calls Tryd.prog 19 #[.string k] w fun e w' => e = .returned (.tuple #[.string (mk ((whatOf (bs k)).getD [])), .bool (whatOf (bs k)).isSome]) ∧ Below w.heap.size w w' := by
  obtain ⟨W1, hW1⟩ : ∃ W1, W1 = w.alloc (.cells #[.string k] 9 (0, 0)) := ⟨_, rfl⟩
  have hb1 : Below w.heap.size w W1 := hW1 ▸ below_alloc1 w _
  have hk1 : W1.cell? ⟨w.heap.size, 0, none⟩ = some (.string k) := hW1 ▸ (alloc_cell w _ _ 0).trans rfl
  have HB1 := Lib.hid hb1
  have HK1 := Lib.hid hk1
  clear hb1 hk1
  go_enter Tryd.func19, Tryd.ntmps19
  go_upto_region 1 with (fail)
  rw [← hW1]
  clear hW1
  go_cut [4] (fun v4 wx => v4 = .pointer (some ⟨W1.heap.size, 0, none⟩) ∧ Hid (Below W1.heap.size W1 wx ∧ Blk wx W1.heap.size kindC 64))
  case first =>
    go_wp2
    go_meet
    exact ⟨rfl, Lib.hid ⟨below_alloc1 _ _, Blk.new' _ _ _ rfl⟩⟩
  case rest =>
    obtain ⟨rfl, HC⟩ := hcut
    have hmf : ∀ (fn : Fn) (first cap : Array Value) (w : World), (Instr.makeFunc fn first cap).run Tryd.prog w = .ok (.func fn first cap) w := fun _ _ _ _ => rfl
    have hix := indexK_calls (some ⟨W1.heap.size, 0, none⟩) kindL 7 w.heap.size k wc (by decide) (prs_kinds HC.out.2) (((bcell HC.out.1).1 _ _ (cell_lt HK1.out)).trans HK1.out)
    change Calls _ _ #[.slice (some ⟨W1.heap.size, 0, none⟩) 7 7, _] _ _ at hix
    go_upto_region 3 with (go_at_call 34; refine hix.mono ?_; clear hix; rintro e w2 ⟨⟨n, rfl, HI⟩, hb⟩; have HB2 := Lib.hid (bt (bt HB1.out HC.out.1) hb); have HP2 := Lib.hid ((prs_kinds HC.out.2).below hb); clear hb)
    rcases kind_what HI.out with ⟨rfl, hw⟩ | ⟨i, hi, rfl, hw⟩
    · have HW := Lib.hid hw
      clear hw
      go_wp2
      go_ret2
      refine ⟨?_, HB2.out⟩
      rw [HW.out]; rfl
    · have HW := Lib.hid hw
      have hi7 : i < 7 := hi
      obtain ⟨b, off, e, _, hc⟩ := HP2.out i hi
      cases e
      generalize kindL[i] = p at hc HW
      clear hw HI
      rw [Nat.zero_add] at hc
      go_wp2
      go_ret2
      refine ⟨?_, HB2.out⟩
      rw [HW.out, Option.getD_some, mk_bs]; rfl
end Go.Proofs.YtkodepckfdpaiaaDoor
