/- The law RouteChecks: of every configuration whose slices can be read, it answers yes. -/
import Derived.Test.YthdmibjeomhibaaRl
namespace Go.Proofs.Ythdmibjeomhibaa
set_option linter.unusedSimpArgs false
set_option linter.unusedVariables false
open Go.RowKit
/-- A world behind calls, with the configuration's box in it. -/
structure CW (c : Cfg) (w wx : World) : Prop where
  bel : Below w.heap.size w wx
  at' : c.At wx w.heap.size
  ok : c.Ok wx
theorem CW.next {c : Cfg} {w wx w1 : World} (h : CW c w wx) (hb : Below wx.heap.size wx w1) : CW c w w1 := ⟨h.bel.trans (hb.mono h.bel.size), h.at'.below hb, h.ok.below hb⟩
theorem CW.start {c : Cfg} {w : World} (hc : c.Ok w) (t : TypeId) : CW c w (w.alloc (.cells c.cells t (0, 0))) := ⟨below_alloc1 w _, c.box w t, hc.below (below_alloc1 w _)⟩
theorem cw_awake {c : Cfg} {w : World} (wx : World) (h : Hid (CW c w wx)) : Calls Try.prog 10 #[] wx fun e w' => e = .returned (.bool true) ∧ Hid (CW c w w') :=
  (awake_calls wx).mono fun _ _ ⟨he, hb⟩ => ⟨he, Lib.hid (h.out.next hb)⟩
theorem cw_few {c : Cfg} {w : World} (wx : World) (h : Hid (CW c w wx)) : Calls Try.prog 11 #[c.val] wx fun e w' => e = .returned (.bool (few15 c)) ∧ Hid (CW c w w') :=
  (Few15_calls c wx h.out.ok).mono fun _ _ ⟨he, hb⟩ => ⟨he, Lib.hid (h.out.next hb)⟩
theorem cw_ref {c : Cfg} {w : World} (hrs : Rts.Ok c.rs) (wx : World) (h : Hid (CW c w wx)) : Calls Try.prog 12 #[c.val] wx fun e w' => e = .returned (.bool (checkB c)) ∧ Hid (CW c w w') :=
  (refCheck_calls c wx h.out.ok hrs).mono fun _ _ ⟨he, hb⟩ => ⟨he, Lib.hid (h.out.next hb)⟩
theorem cw_check {c : Cfg} {w : World} (hrs : Rts.Ok c.rs) (wx : World) (h : Hid (CW c w wx)) : Calls Try.prog 13 #[c.val] wx fun e w' => e = .returned (.int .i64 (codeB (checkB c))) ∧ Hid (CW c w w') :=
  (Check_calls c wx h.out.ok hrs).mono fun _ _ ⟨he, hb⟩ => ⟨he, Lib.hid (h.out.next hb)⟩
set_option maxHeartbeats 2000000 in
theorem RouteChecks_calls (c : Cfg) (w : World) (hc : c.Ok w) (hrs : Rts.Ok c.rs) :
    Calls Try.prog 3 #[c.val] w fun e w' => e = .returned (.bool true) ∧ Below w.heap.size w w' := by
  obtain ⟨W, hW⟩ : ∃ W, W = w.alloc (.cells c.cells 25 (0, 0)) := ⟨_, rfl⟩
  have hS : Hid (CW c w W) := Lib.hid (by rw [hW]; exact CW.start hc _)
  have hF := fun wx => cw_few (c := c) (w := w) wx
  have hR := fun wx => cw_ref (c := c) (w := w) hrs wx
  have hK := fun wx => cw_check (c := c) (w := w) hrs wx
  clear hc hrs
  have hcode : codeB true = 0 ∧ codeB false = 150 := ⟨rfl, rfl⟩
  generalize few15 c = fb at hF
  generalize checkB c = kb at hR hK
  cases fb <;> cases kb
  all_goals
    first | rw [hcode.1] at hK | rw [hcode.2] at hK
    clear hcode
    go_enter Try.func3, Try.ntmps3
    go_upto_region 1 with (fail)
    rw [← hW]
    clear hW
    go_wp2_with (first
      | (go_at_call 10; refine Calls.mono (cw_awake (c := c) (w := w) _ (by assumption)) ?_; rintro e w1 ⟨rfl, hs⟩; obtain ⟨f0, f1, f2, f3, f4, f5, f6, f7, f8, f9, f10, f11⟩ := hs.out.at')
      | (go_at_call 11; refine Calls.mono (hF _ (by assumption)) ?_; rintro e w1 ⟨rfl, hs⟩; obtain ⟨f0, f1, f2, f3, f4, f5, f6, f7, f8, f9, f10, f11⟩ := hs.out.at')
      | (go_at_call 12; refine Calls.mono (hR _ (by assumption)) ?_; rintro e w1 ⟨rfl, hs⟩; obtain ⟨f0, f1, f2, f3, f4, f5, f6, f7, f8, f9, f10, f11⟩ := hs.out.at')
      | (go_at_call 13; refine Calls.mono (hK _ (by assumption)) ?_; rintro e w1 ⟨rfl, hs⟩))
    go_ret
    exact ⟨rfl, hs.out.bel⟩
end Go.Proofs.Ythdmibjeomhibaa
