/- route.Check: whether a configuration may be; conditions: the slices can be read, the strings are of lengths that a world can hold. -/
import Derived.Test.YthdmibjeomhibaaRh
import Derived.RegionTactic
import Derived.Deep.RegionWith
import Derived.Deep.RegionHeld3
import Derived.StillTailTactics
namespace Go.Proofs.Ythdmibjeomhibaa
set_option linter.unusedSimpArgs false
set_option linter.unusedVariables false
open Go.RowKit
def inRange (n a b : Int) : Bool := decide (a ≤ n) && decide (n ≤ b)
theorem inRange_calls (n a b : Int) (w : World) : Calls Try.prog 25 #[.int .i64 n, .int .i64 a, .int .i64 b] w fun e w' => e = .returned (.bool (inRange n a b)) ∧ w' = w := inB_calls n a b w
def boundsB (c : Cfg) : Bool := inRange c.rs.length 1 16 && decide (c.os.length ≤ 16) && inRange c.n2 1 64 && inRange c.n3 1 65536 && inRange c.n4 1 65536 && inRange c.n5 1 1024 && inRange c.n6 c.n3 4194304 && inRange c.n7 1 65536
def ticksB (c : Cfg) : Bool := inRange c.n8 1 1073741824 && inRange c.n9 1 1073741824 && inRange c.n10 1 1073741824 && inRange c.n11 1 1073741824
def rtOk (rs : List Rt) (i : Nat) : Bool := match rs[i]? with | some r => rightB r && !inR r (rs.take i) | none => true
def checkB (c : Cfg) : Bool := boundsB c && ticksB c && (List.range c.rs.length).all (rtOk c.rs)
/-- The number of an error, or none. -/
def codeB (b : Bool) : Int := if b then 0 else 150
theorem rtOk_at (rs : List Rt) (i : Nat) (h : i < rs.length) : rtOk rs i = (rightB rs[i] && !inR rs[i] (rs.take i)) := by
  rw [rtOk, List.getElem?_eq_getElem h]
theorem range_all (p : Nat → Bool) (k : Nat) : (List.range (k + 1)).all p = ((List.range k).all p && p k) := by
  rw [List.range_succ, List.all_append, List.all_cons, List.all_nil, Bool.and_true]
def tickAt (c : Cfg) (k : Nat) : Int := match k with | 0 => c.n8 | 1 => c.n9 | 2 => c.n10 | _ => c.n11
theorem Rts.take {w : World} {b off : Nat} {l : List Rt} (h : Rts w (some ⟨b, off, none⟩) l) (k : Nat) : Rts w (some ⟨b, off, none⟩) (l.take k) := fun i hi => by
  have hi' : i < l.length := by rw [List.length_take] at hi; omega
  obtain ⟨b', off', e, h1, h2, h3⟩ := h i hi'
  cases e
  refine ⟨_, _, rfl, ?_, ?_, ?_⟩ <;> rw [List.getElem_take] <;> assumption
set_option maxRecDepth 100000 in
set_option maxHeartbeats 8000000 in
theorem Check_calls (c : Cfg) (w : World) (hc : c.Ok w) (hrs : Rts.Ok c.rs) :
    Calls Try.prog 13 #[c.val] w fun e w' => e = .returned (.int .i64 (codeB (checkB c))) ∧ Below w.heap.size w w' := by
  obtain ⟨W, hW⟩ : ∃ W, W = w.alloc (.cells c.cells 25 (0, 0)) := ⟨_, rfl⟩
  have hB : Hid (Below w.heap.size w W) := Lib.hid (by rw [hW]; exact below_alloc1 w _)
  have hAt : c.At W w.heap.size := by rw [hW]; exact c.box w _
  have hsz : Hid (w.heap.size < W.heap.size) := Lib.hid (cell_lt hAt.f0)
  have rl : c.rs.length ≤ maxLen := hc.rl
  have ol : c.os.length ≤ maxLen := hc.ol
  have rc : c.rs.length ≤ c.c0 := hc.rc
  have cm : c.c0 ≤ maxLen := hc.cm
  have HR : Hid (Rts w c.A0 c.rs) := Lib.hid hc.r
  have HRS := Lib.hid hrs
  have HAt := Lib.hid hAt
  obtain ⟨f0, f1, f2, f3, f4, f5, f6, f7, f8, f9, f10, f11⟩ := hAt
  clear hc hrs
  unfold maxLen at rl ol cm
  go_enter Try.func13, Try.ntmps13
  go_upto_region 2 with (fail)
  rw [← hW]
  have HW := Lib.hid hW
  clear hW
  go_cut [4] (fun v wx => ∃ q : Bool, v = .bool q ∧ Hid (q = boundsB c) ∧ wx = W)
  case first =>
    go_wp2_with (go_at_call 25; refine (inRange_calls _ _ _ _).mono ?_; rintro e w' ⟨rfl, rfl⟩)
    all_goals
      go_meet
      refine ⟨_, rfl, Lib.hid ?_, rfl⟩
      first
        | (rw [boundsB, decide_eq_true (by omega)]; simp [*]; done)
        | (rw [boundsB, decide_eq_false (by omega)]; simp [*]; done)
        | (rw [boundsB]; simp [*])
  case rest =>
    obtain ⟨q, rfl, hq, rfl⟩ := hcut
    go_wp2
    go_loopg [4, 67] 4 (fun g v i wr => ∃ (k : Nat) (q : Bool), i = .int .i64 k ∧ k + g = 4 ∧ v = .bool q ∧ Hid (q = (boundsB c && (List.range k).all (fun j => inRange (tickAt c j) 1 1073741824))) ∧ wr = wc)
    case atStart => exact ⟨0, q, rfl, rfl, rfl, Lib.hid (by rw [hq.out]; simp), rfl⟩
    case round =>
      obtain ⟨k, q, rfl, hk, rfl, hq, rfl⟩ := hrel
      by_cases hlt : k < 4
      · have ix : ∀ w, (Instr.index 51 (.agg #[.int .i64 c.n8, .int .i64 c.n9, .int .i64 c.n10, .int .i64 c.n11]) (.int .i64 k)).run Try.prog w = .ok (.int .i64 (tickAt c k)) w := by
          intro w
          obtain rfl | rfl | rfl | rfl : k = 0 ∨ k = 1 ∨ k = 2 ∨ k = 3 := by omega
          all_goals kernel_rfl
        cases q
        · go_wp2_with (go_at_call 25; refine (inRange_calls _ _ _ _).mono ?_; rintro e w' ⟨rfl, rfl⟩)
          go_roundg (4 - (k + 1))
          case measure => omega
          case rel => exact ⟨k + 1, false, by go_num, by omega, rfl, Lib.hid (by rw [range_all, ← Bool.and_assoc, ← hq.out]; rfl), rfl⟩
        · go_wp2_with (go_at_call 25; refine (inRange_calls _ _ _ _).mono ?_; rintro e w' ⟨rfl, rfl⟩)
          go_roundg (4 - (k + 1))
          case measure => omega
          case rel => exact ⟨k + 1, _, by go_num, by omega, rfl, Lib.hid (by rw [range_all, ← Bool.and_assoc, ← hq.out]; rfl), rfl⟩
      · obtain rfl : k = 4 := by omega
        have HQ : Hid (q = (boundsB c && ticksB c)) := Lib.hid (by rw [hq.out]; simp [List.range_succ, ticksB, tickAt, Bool.and_assoc])
        clear hq
        go_wp2
        generalize c.A0 = A0 at HR f0 ⊢
        go_loopg [4, 80] c.rs.length (fun g v i wx => ∃ (k : Nat) (q : Bool), i = .int .i64 k ∧ k + g = c.rs.length ∧ v = .bool q ∧ Hid (q = (boundsB c && ticksB c && (List.range k).all (rtOk c.rs))) ∧ Hid (Below w.heap.size w wx ∧ w.heap.size < wx.heap.size) ∧ wx.cell? ⟨w.heap.size, 0, none⟩ = some (.slice A0 c.rs.length c.c0))
        case atStart => exact ⟨0, q, rfl, by omega, rfl, Lib.hid (by rw [HQ.out]; simp), Lib.hid ⟨hB.out, hsz.out⟩, f0⟩
        case round =>
          clear f0 f1 f2 f3 f4 f5 f6 f7 f8 f9 f10 f11 HQ HAt HW
          obtain ⟨k, q, rfl, hk, rfl, hq, hbw, g0⟩ := hrel
          by_cases hlt : k < c.rs.length
          · obtain ⟨b, off, rfl, h0, h1, h2⟩ := (HR.out.below hbw.out.1) k hlt
            go_upto_block 3 with (fail)
            go_cut [4] (fun v wx => ∃ q' : Bool, v = .bool q' ∧ Hid (q' = (q && rtOk c.rs k)) ∧ Hid (Below w.heap.size w wx ∧ w.heap.size < wx.heap.size) ∧ wx.cell? ⟨w.heap.size, 0, none⟩ = some (.slice (some ⟨b, off, none⟩) c.rs.length c.c0))
            case first =>
              have hok : Hid (rtOk c.rs k = _) := Lib.hid (rtOk_at c.rs k hlt)
              have hr := HRS.out.ok c.rs[k] (List.getElem_mem hlt)
              have hX : Below wr.heap.size wr (wr.alloc (.cells c.rs[k].cells 34 (0, 0))).drew := (below_alloc1 wr _).drew
              have hgl := cell_lt g0
              have g1 : ∀ o, (wr.alloc o).cell? ⟨w.heap.size, 0, none⟩ = some (.slice (some ⟨b, off, none⟩) c.rs.length c.c0) := fun o => ((bcell (below_alloc1 wr o)).1 _ 0 hgl).trans g0
              have HRT : Calls Try.prog 26 #[c.rs[k].val] (wr.alloc (.cells c.rs[k].cells 34 (0, 0))).drew fun e w1 => e = .returned (.bool (rightB c.rs[k])) ∧ Hid (Below wr.heap.size wr w1) ∧
                  w1.cell? ⟨w.heap.size, 0, none⟩ = some (.slice (some ⟨b, off, none⟩) c.rs.length c.c0) ∧ w1.cell? ⟨wr.heap.size, 0, none⟩ = some (.string c.rs[k].pre) ∧ w1.cell? ⟨wr.heap.size, 1, none⟩ = some (.string c.rs[k].pro) ∧ w1.cell? ⟨wr.heap.size, 2, none⟩ = some (.string c.rs[k].dst) := by
                have hn : Blk (wr.alloc (.cells c.rs[k].cells 34 (0, 0))).drew wr.heap.size c.rs[k].cells 34 := Blk.new wr _ _
                refine (right_calls c.rs[k] _ hr).mono ?_
                rintro e w1 ⟨he, hb⟩
                have h1 := hn.below hb
                have h2 := hX.trans (hb.mono hX.size)
                exact ⟨he, Lib.hid h2, ((bcell h2).1 _ 0 hgl).trans g0, (h1.cell 0).trans rfl, (h1.cell 1).trans rfl, (h1.cell 2).trans rfl⟩
              clear hr
              generalize rightB c.rs[k] = rb at hok HRT
              cases q
              · go_upto_region 11 with (fail)
                go_big_quiet (fail)
                go_wp2
                go_meet
                exact ⟨false, rfl, Lib.hid rfl, Lib.hid ⟨hbw.out.1.trans (below_drewN ((below_alloc1 wr _).mono (by have := hbw.out.1.size; omega)) _), Nat.lt_of_lt_of_le hbw.out.2 (by simp)⟩, g1 _⟩
              · have HX : Hid (Below wr.heap.size wr (wr.alloc (.cells c.rs[k].cells 34 (0, 0))).drew) := Lib.hid hX
                clear hX
                cases rb
                · go_upto_region 11 with (fail)
                  first
                    | (go_region_with (go_at_call 26; refine HRT.mono ?_; rintro e w1 ⟨rfl, hb1, c0', k0, k1, k2⟩))
                    | fail
                  all_goals
                    go_wp2
                    go_meet
                    exact ⟨false, rfl, Lib.hid (by rw [hok.out]; rfl), Lib.hid ⟨hbw.out.1.trans (hb1.out.mono hbw.out.1.size), Nat.lt_of_lt_of_le hbw.out.2 hb1.out.size⟩, c0'⟩
                · have HCN : ∀ w0, Hid (Below wr.heap.size wr w0) → w0.cell? ⟨w.heap.size, 0, none⟩ = some (.slice (some ⟨b, off, none⟩) c.rs.length c.c0) → w0.cell? ⟨wr.heap.size, 0, none⟩ = some (.string c.rs[k].pre) → w0.cell? ⟨wr.heap.size, 1, none⟩ = some (.string c.rs[k].pro) → w0.cell? ⟨wr.heap.size, 2, none⟩ = some (.string c.rs[k].dst) →
                      Calls Try.prog 27 #[.slice (some ⟨b, off, none⟩) k c.c0, c.rs[k].val] w0 fun e w1 => e = .returned (.bool (inR c.rs[k] (c.rs.take k))) ∧ w1.cell? ⟨w.heap.size, 0, none⟩ = some (.slice (some ⟨b, off, none⟩) c.rs.length c.c0) ∧ w1.cell? ⟨wr.heap.size, 0, none⟩ = some (.string c.rs[k].pre) ∧ w1.cell? ⟨wr.heap.size, 1, none⟩ = some (.string c.rs[k].pro) ∧ w1.cell? ⟨wr.heap.size, 2, none⟩ = some (.string c.rs[k].dst) ∧ Hid (Below wr.heap.size wr w1) := by
                    intro w0 hb0 e0 e1 e2 e3
                    have hlen : (c.rs.take k).length = k := by rw [List.length_take]; omega
                    have h := containsR_calls c.rs[k] (some ⟨b, off, none⟩) (c.rs.take k) c.c0 w0 (by rw [hlen]; unfold maxLen; omega) (((HR.out.below hbw.out.1).take k).below hb0.out)
                    rw [hlen] at h
                    refine h.mono ?_
                    rintro e w1 ⟨he, hb⟩
                    have hc := fun b o => (bcell hb).1 b o
                    exact ⟨he, (hc _ _ (cell_lt e0)).trans e0, (hc _ _ (cell_lt e1)).trans e1, (hc _ _ (cell_lt e2)).trans e2, (hc _ _ (cell_lt e3)).trans e3, Lib.hid (hb0.out.trans (hb.mono hb0.out.size))⟩
                  generalize inR c.rs[k] (c.rs.take k) = nb at hok HCN
                  have kk0 : (0 : Int) ≤ (k : Int) := by omega
                  have kk1 : (k : Int) ≤ (c.c0 : Int) := by omega
                  go_upto_region 11 with (fail)
                  go_region_held3 (fun w1 => w1.cell? ⟨w.heap.size, 0, none⟩ = some (.slice (some ⟨b, off, none⟩) c.rs.length c.c0) ∧ w1.cell? ⟨wr.heap.size, 0, none⟩ = some (.string c.rs[k].pre) ∧ w1.cell? ⟨wr.heap.size, 1, none⟩ = some (.string c.rs[k].pro) ∧ w1.cell? ⟨wr.heap.size, 2, none⟩ = some (.string c.rs[k].dst) ∧ Hid (Below wr.heap.size wr w1)) (first | go_keep | exact ⟨c0', k0, k1, k2, hb1⟩) (first | (go_at_call 26; refine HRT.mono ?_; rintro e w1 ⟨rfl, hb1, c0', k0, k1, k2⟩) | (go_at_call 27; refine (HCN _ ?_ ?_ ?_ ?_ ?_).mono ?_; assumption; assumption; assumption; assumption; assumption; rintro e w1 ⟨rfl, c0', k0, k1, k2, hb1⟩))
                  obtain ⟨c0', k0, k1, k2, hb1⟩ := ‹_ ∧ _ ∧ _ ∧ _ ∧ Hid _›
                  go_wp2
                  go_meet
                  exact ⟨!nb, rfl, Lib.hid (by rw [hok.out]; simp), Lib.hid ⟨hbw.out.1.trans (hb1.out.mono hbw.out.1.size), Nat.lt_of_lt_of_le hbw.out.2 hb1.out.size⟩, c0'⟩
            case rest =>
              obtain ⟨q', rfl, hq', hbw', g0'⟩ := hcut
              go_wp2
              go_roundg (c.rs.length - (k + 1))
              case measure => omega
              case rel => exact ⟨k + 1, q', by go_num, by omega, rfl, Lib.hid (by rw [range_all, ← Bool.and_assoc, ← hq.out, hq'.out]), hbw', g0'⟩
          · obtain rfl : k = c.rs.length := by omega
            have HC : Hid (checkB c = q) := Lib.hid (by rw [hq.out, checkB])
            clear hq
            cases q
            · go_wp2
              go_ret
              exact ⟨ret_int (by rw [HC.out]; rfl), hbw.out.1⟩
            · go_wp2
              go_ret
              exact ⟨ret_int (by rw [HC.out]; rfl), hbw.out.1⟩
end Go.Proofs.Ythdmibjeomhibaa
