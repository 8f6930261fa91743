/- strings.Builder: copyCheck and Write of four bytes that lie in an array of the call's own; conditions: the builder is the call's own, and stays small. -/
import Derived.Test.YtjlkdfgboklmhaaDoorBa
import Derived.Test.YtjlkdfgboklmhaaDoorShelf
import Derived.Lib.Builder
import Derived.Laws.Externs
import Derived.Laws.AppendOwn
import Derived.Shelf.Strings.Builder1
namespace Go.Proofs.YtjlkdfgboklmhaaDoor
set_option linter.unusedSimpArgs false
set_option linter.unusedVariables false
open Go.RowKit
theorem info_bld : (Tryd.prog.info? 43).map (·.size) = some 2 := by kernel_rfl
theorem lies_bld : liesAt Tryd.prog Tryd.prog.depth 43 (2 / Tryd.prog.cellsOf 43) 0 43 1 = true := by kernel_rfl
theorem info_byte : (Tryd.prog.info? 5).map (fun i => (i.zero, i.size, i.bytes)) = some (some (.int .u8 0), 1, 1) := by kernel_rfl
abbrev BAt (B b : Nat) (p : Value) (bs : List Value) (w : World) : Prop := Lib.BuilderAt 43 5 B b p bs w
abbrev IsB (B b : Nat) (bs : List Value) (w : World) : Prop := Lib.IsBuilder 43 5 B b bs w
set_option maxHeartbeats 1000000 in
set_option maxRecDepth 100000 in
theorem copyCheck_used (b : Nat) (w : World) (h0 : w.cell? ⟨b, 0, none⟩ = some (.pointer (some ⟨b, 0, none⟩))) :
    Calls Tryd.prog 25 #[.pointer (some ⟨b, 0, none⟩)] w fun e w' => e = .returned (.tuple #[]) ∧ w' = w := by
  obtain ⟨j, hj, _⟩ := Option.map_eq_some_iff.1 info_bld
  go_enter Tryd.func25, Tryd.ntmps25
  go_wp2
  rw [Lib.run_neq_ptr_same w _ Tryd.underlying41 hj]
  go_wp2
  go_end0
  exact ⟨rfl, rfl⟩
set_option maxHeartbeats 1000000 in
set_option maxRecDepth 100000 in
theorem copyCheck_fresh (b : Nat) (w : World) (h0 : w.cell? ⟨b, 0, none⟩ = some (.pointer none)) (hsh : w.shape? b = some (43, 2)) (hfz : w.frozen? ⟨b, 0, none⟩ = false) :
    Calls Tryd.prog 25 #[.pointer (some ⟨b, 0, none⟩)] w fun e w' => e = .returned (.tuple #[]) ∧ w' = w.setCell ⟨b, 0, none⟩ (.pointer (some ⟨b, 0, none⟩)) := by
  obtain ⟨j, hj, hjs⟩ := Option.map_eq_some_iff.1 info_bld
  go_enter Tryd.func25, Tryd.ntmps25
  go_wp2
  rw [Lib.run_to_unsafe w ⟨b, 0, none⟩ Tryd.underlying41 Tryd.underlying68 hj (by rw [hjs]; decide) hsh (Nat.zero_lt_succ 1)]
  simp only [Result.andThen]
  rw [Oper.upon_value]
  go_wp2
  rw [run_callFunc_extern Tryd.func30 (by kernel_rfl) (by kernel_rfl) (by kernel_rfl) (e := Extern.AbiNoEscape.same) (by kernel_rfl)]
  rw [Lib.run_noEscape]
  simp only [Result.andThen]
  rw [Oper.upon_value]
  go_wp2
  rw [Lib.run_from_unsafe w ⟨b, 0, none⟩ Tryd.underlying68 Tryd.underlying41 hj hsh lies_bld]
  simp only [Result.andThen]
  rw [Oper.upon_value]
  go_wp2
  go_end0
  exact ⟨rfl, rfl⟩
/-- Behind copyCheck the builder is used; no other block is touched. -/
theorem copyCheck_calls (B b : Nat) (bs : List Value) (w : World) (h : IsB B b bs w) :
    Calls Tryd.prog 25 #[.pointer (some ⟨b, 0, none⟩)] w fun e w' => e = .returned (.tuple #[]) ∧ BAt B b (.pointer (some ⟨b, 0, none⟩)) bs w' ∧ Below B w w' ∧ ∀ k, k ≠ b → w'.heap[k]? = w.heap[k]? := by
  rcases h with h | h
  · refine (copyCheck_fresh b w h.cell0 h.shape h.frozen0).mono ?_
    rintro e w' ⟨rfl, rfl⟩
    refine ⟨rfl, h.used _, (Below.refl B w).setCell (p := ⟨b, 0, none⟩) h.1 _, fun k hk => ?_⟩
    unfold World.setCell
    simp [Array.getElem?_modify, Ne.symm hk]
  · refine (copyCheck_used b w h.cell0).mono ?_
    rintro e w' ⟨rfl, rfl⟩
    exact ⟨rfl, h, Below.refl B _, fun _ _ => rfl⟩
set_option maxHeartbeats 2000000 in
set_option maxRecDepth 100000 in
theorem Write_calls (B b g : Nat) (bs : List Value) (news : List Value) (w0 w : World) (t : TypeId) (h : IsB B b bs w0) (hb : Below w0.heap.size w0 w) (hg0 : w0.heap.size ≤ g) (hg : w.heap[g]? = some (.cells news.toArray t (0, 0)))
    (h1 : ∀ u ∈ news, u.oneCell' = true) (hlen : bs.length + news.length ≤ 140737488351232) (hB : B ≤ w0.heap.size) :
    Calls Tryd.prog 19 #[.pointer (some ⟨b, 0, none⟩), .slice (some ⟨g, 0, none⟩) news.length news.length] w fun e w' => e = .returned (.tuple #[.int .i64 news.length, .nilIface]) ∧ IsB B b (bs ++ news) w' ∧ Below B w w' := by
  have hw : IsB B b bs w ∧ b < w0.heap.size := by
    have key : ∀ p, BAt B b p bs w0 → BAt B b p bs w ∧ b < w0.heap.size := fun p hp => by
      have hlt := hp.lt
      obtain ⟨h1, v, h2, h3, h4⟩ := hp
      refine ⟨⟨h1, v, (hb.block b hlt).trans h2, ?_, h4⟩, hlt⟩
      refine ⟨h3.1, ?_⟩
      rcases h3.2 with h5 | ⟨g', cap, cur, e, hbg, hgg, hr⟩
      · exact .inl h5
      · exact .inr ⟨g', cap, cur, e, hbg, (hb.block g' (Array.getElem?_eq_some_iff.1 hgg).1).trans hgg, hr⟩
    rcases h with h | h
    · exact ⟨.inl (key _ h).1, (key _ h).2⟩
    · exact ⟨.inr (key _ h).1, (key _ h).2⟩
  obtain ⟨hw, hlt⟩ := hw
  have hgb : g ≠ b := by omega
  obtain ⟨i0, hi, hz0, hz1, hz2⟩ := info_parts info_byte
  have HSZ : Hid (B ≤ w.heap.size) := Lib.hid (Nat.le_trans hB hb.size)
  clear hb h
  go_enter Tryd.func19, Tryd.ntmps19
  go_wp2_with (go_at_call 25; refine (copyCheck_calls B b bs w hw).mono ?_)
  rintro e w1 ⟨rfl, h1', hb1, hoth⟩
  obtain ⟨hBb, v, hbk, hown, hne⟩ := h1'
  have c0 : w1.cell? ⟨b, 0, none⟩ = some (.pointer (some ⟨b, 0, none⟩)) := by rw [Lib.cell_of_heap hbk]; rfl
  have c1 : w1.cell? ⟨b, 1, none⟩ = some v := by rw [Lib.cell_of_heap hbk]; rfl
  have hnews1 : ∀ j u, news[j]? = some u → w1.cell? ((⟨g, 0, none⟩ : Addr).add j) = some u := fun j u hj => by
    rw [Addr.add_lit, Nat.zero_add, Lib.cell_of_heap ((hoth g hgb).trans hg)]; simpa using hj
  have HH := Lib.hid hoth
  clear hoth hw
  go_wp2_with (at_builtin; refine wpList_append_own _ rfl _ _ 24 rfl B 5 i0 (.int .u8 0) 1 1 Tryd.underlying24 hi hz0 hz1 hz2 rfl (by decide) _ _ _ rfl hown ⟨g, 0, none⟩ news.length news.length news rfl (by omega) hnews1 h1 ?c3 ?c4 ?c5 ?_)
  case c3 => unfold maxLen; omega
  case c4 => omega
  case c5 => have := hb1.size; have := HSZ.out; omega
  intro v' w2 hown' hgrow _
  have hltb : b < w1.heap.size := (Array.getElem?_eq_some_iff.1 hbk).1
  have hb2 : w2.heap[b]? = some (.cells #[.pointer (some ⟨b, 0, none⟩), v] 43 (0, 0)) := by
    rw [hgrow.block b hltb (fun e => hne e.symm)]
    exact hbk
  have d0 : w2.cell? ⟨b, 0, none⟩ = some (.pointer (some ⟨b, 0, none⟩)) := by rw [Lib.cell_of_heap hb2]; rfl
  have d1 : w2.cell? ⟨b, 1, none⟩ = some v := by rw [Lib.cell_of_heap hb2]; rfl
  have f1 : w2.frozen? ⟨b, 1, none⟩ = false := Lib.frozen_of_heap hb2 1
  obtain ⟨ao, n', cap, rfl⟩ : ∃ ao n' cap, v' = .slice ao n' cap := by
    rcases hown'.2 with ⟨hv, _⟩ | ⟨g, cap, cur, hv, _⟩
    · exact ⟨_, _, _, hv⟩
    · exact ⟨_, _, _, hv⟩
  go_wp2
  go_ret2
  refine ⟨rfl, ?_, ?_⟩
  · exact .inr (Lib.BuilderAt.put (T := 43) (e := 5) hBb hb2 (bs' := bs ++ news) (by simpa using hown') (by decide))
  · exact (hb1.grown hgrow (by have := hb1.size; have := HSZ.out; omega) (fun k hk => (hown.lt k hk).1)).setCell (p := ⟨b, 1, none⟩) hBb _
end Go.Proofs.YtjlkdfgboklmhaaDoor
