/- The closure of base.Get: one letter more; conditions: its three variables are blocks of the call's own. -/
import Derived.Test.YtjlkdfgboklmhaaDoorBc
namespace Go.Proofs.YtjlkdfgboklmhaaDoor
set_option linter.unusedSimpArgs false
set_option linter.unusedVariables false
open Go.RowKit
theorem valN_range (c : Int) : ∃ x : Nat, valN c = x ∧ x < 64 := by
  have h : 0 ≤ valN c ∧ valN c < 64 := by
    unfold valN
    repeat' split
    all_goals omega
  exact ⟨(valN c).toNat, by omega, by omega⟩
/-- The three variables of Get. -/
structure GS (B bv bn bo v n : Nat) (out : List UInt8) (w : World) : Prop where
  hv : Blk w bv #[.int .u32 v] 45
  hn : Blk w bn #[.int .i64 n] 3
  ho : ∃ vs, Blk w bo #[vs] 24 ∧ w.ownsRow B 5 1 vs out.length (bcells out)
/-- As it was below B; iterators of strings are as they were. -/
structure BK (B : Nat) (w w' : World) : Prop where
  bel : Below B w w'
  it : ∀ (k : Nat) (s : ByteArray) (p : Nat), w.heap[k]? = some (Obj.stringIter s p) → w'.heap[k]? = some (Obj.stringIter s p)
theorem BK.refl (B : Nat) (w : World) : BK B w w := ⟨Below.refl _ _, fun _ _ _ h => h⟩
theorem BK.trans {B : Nat} {a b c : World} (h : BK B a b) (k : BK B b c) : BK B a c := ⟨h.bel.trans k.bel, fun i s p hi => k.it i s p (h.it i s p hi)⟩
theorem BK.drew1 {B : Nat} {w W : World} (h : BK B w W) : BK B w W.drew := ⟨below_drew1 h.bel, h.it⟩
theorem BK.set {B : Nat} {w W : World} (h : BK B w W) {M : Nat} (hM : B ≤ M) {cs : Array Value} {t : TypeId} (hb : Blk W M cs t) (i : Nat) (v : Value) : BK B w (W.setCell ⟨M, i, none⟩ v) := ⟨below_set h.bel hM _ _, fun k s p hk => by
  have h1 := h.it k s p hk
  have hne : k ≠ M := fun e => by
    subst e
    have h2 := hb
    unfold Blk at h2
    rw [h1] at h2
    cases h2
  unfold World.setCell
  simp [Array.getElem?_modify, h1, Ne.symm hne]⟩
theorem BK.al {B : Nat} {w W : World} (h : BK B w W) (hB : B ≤ W.heap.size) (o : Obj) : BK B w (W.alloc o) := ⟨h.bel.trans ((below_alloc1 W o).mono hB), fun k s p hk => by
  have h1 := h.it k s p hk
  exact ((below_alloc1 W o).block k (Array.getElem?_eq_some_iff.1 h1).1).trans h1⟩
theorem BK.grow {B : Nat} {w W W' : World} (h : BK B w W) (hb : Below B W W') {vs : Value} (hg : W.grownBy W' vs.ownBlock) {n : Nat} {xs : List Value} (ho : W.ownsRow B 5 1 vs n xs) : BK B w W' := ⟨h.bel.trans hb, fun k s p hk => by
  have h1 := h.it k s p hk
  refine (hg.block k (Array.getElem?_eq_some_iff.1 h1).1 fun e => ?_).trans h1
  rcases ho.2 with ⟨rfl, _⟩ | ⟨g, cap, cur, rfl, _, hgg, _⟩
  · cases e
  · cases e
    rw [h1] at hgg; cases hgg⟩
def gstep (x : Nat) (s : Nat × Nat × List UInt8) : Nat × Nat × List UInt8 :=
  if s.2.1 < 2 then (s.1 * 64 + x, s.2.1 + 6, s.2.2) else ((s.1 * 64 + x) % 2 ^ (s.2.1 - 2), s.2.1 - 2, s.2.2 ++ [((s.1 * 64 + x) / 2 ^ (s.2.1 - 2)).toUInt8])
theorem owns_al' {w : World} {base size : Nat} {e : TypeId} {v : Value} {n : Nat} {xs : List Value} (h : w.ownsRow base e size v n xs) (o : Obj) : (w.alloc o).ownsRow base e size v n xs := by
  refine ⟨h.1, ?_⟩
  rcases h.2 with h2 | ⟨g, cap, cur, hv, hb, hg, hr⟩
  · exact .inl h2
  · exact .inr ⟨g, cap, cur, hv, hb, ((below_alloc1 w o).block g (Array.getElem?_eq_some_iff.1 hg).1).trans hg, hr⟩
theorem own_set {w : World} {B : Nat} {vs : Value} {out : List UInt8} (h : w.ownsRow B 5 1 vs out.length (bcells out)) {M : Nat} {cs : Array Value} {t : TypeId} (hM : Blk w M cs t) (ht : t ≠ 5) (i : Nat) (x : Value) :
    (w.setCell ⟨M, i, none⟩ x).ownsRow B 5 1 vs out.length (bcells out) := by
  have hne := Lib.ownBlock_ne h hM ht
  refine ⟨h.1, ?_⟩
  rcases h.2 with h2 | ⟨g, cap, cur, hv, hb, hg, hr⟩
  · exact .inl h2
  · refine .inr ⟨g, cap, cur, hv, hb, ?_, hr⟩
    have hgM : g ≠ M := fun e => hne (by rw [hv, e]; rfl)
    unfold World.setCell
    simp [Array.getElem?_modify, hg, Ne.symm hgM]
theorem GS.setV {B bv bn bo v n : Nat} {out : List UInt8} {w : World} (h : GS B bv bn bo v n out w) (h1 : bn ≠ bv) (h2 : bo ≠ bv) (v' : Nat) : GS B bv bn bo v' n out (w.setCell ⟨bv, 0, none⟩ (.int .u32 v')) := by
  obtain ⟨a, b, vs, c, d⟩ := h
  exact ⟨a.set 0 _, b.far h1 _ _, vs, c.far h2 _ _, own_set d a (by decide) 0 _⟩
theorem GS.setN {B bv bn bo v n : Nat} {out : List UInt8} {w : World} (h : GS B bv bn bo v n out w) (h1 : bv ≠ bn) (h2 : bo ≠ bn) (n' : Nat) : GS B bv bn bo v n' out (w.setCell ⟨bn, 0, none⟩ (.int .i64 n')) := by
  obtain ⟨a, b, vs, c, d⟩ := h
  exact ⟨a.far h1 _ _, b.set 0 _, vs, c.far h2 _ _, own_set d b (by decide) 0 _⟩
theorem GS.drew1 {B bv bn bo v n : Nat} {out : List UInt8} {w : World} (h : GS B bv bn bo v n out w) : GS B bv bn bo v n out w.drew := ⟨h.hv, h.hn, h.ho⟩
theorem own_app1 {w : World} {B : Nat} {vs : Value} {out : List UInt8} (h : w.ownsRow B 5 1 vs out.length (bcells out)) (ty : TypeId) (g b : Nat) (X : Int) (hX : X = b) (hb : b < 256) (hg : Blk w g #[.int .u8 X] 5) (hl : out.length ≤ 1000) (hB : B ≤ w.heap.size) :
    ∃ v' w', (Builtin.append_ #[24, 24] ty #[vs, .slice (some ⟨g, 0, none⟩) 1 1]).run Tryd.prog w = .ok v' w' ∧ w'.ownsRow B 5 1 v' (out ++ [b.toUInt8]).length (bcells (out ++ [b.toUInt8])) ∧ Below B w w' ∧ w.grownBy w' vs.ownBlock := by
  subst hX
  obtain ⟨i0, hi, hz0, hz1, hz2⟩ := info_parts info_byte
  obtain ⟨v', w', hr, ho, hb', hg'⟩ := run_app (P := Tryd.prog) w B 24 ty 5 i0 (.int .u8 0) 1 1 Tryd.underlying24 hi hz0 hz1 hz2 rfl (by decide) vs out.length (bcells out) h (some ⟨g, 0, none⟩) 1 1 [.int .u8 b] rfl
    (fun j u hj => by
      obtain rfl : j = 0 := by have := (List.getElem?_eq_some_iff.1 hj).1; simp at this; omega
      exact ⟨_, rfl, by rw [Addr.add_lit, hg.cell]; exact hj⟩)
    (fun u hu => by rw [List.mem_singleton] at hu; subst hu; rfl) (by unfold maxLen; omega) (by omega) hB
  refine ⟨v', w', hr, ?_, hb', hg'⟩
  rw [bcells_app, List.length_append]
  have e : bcells [b.toUInt8] = [.int .u8 b] := by
    show [Value.int .u8 ((b.toUInt8.toNat : Nat) : Int)] = _
    rw [show b.toUInt8.toNat = b by show (UInt8.ofNat b).toNat = b; rw [UInt8.toNat_ofNat']; omega]
  rw [e]; exact ho
theorem GS.grow {B bv bn bo v n : Nat} {out : List UInt8} {w w' : World} {vs : Value} (h : GS B bv bn bo v n out w) (hv : Blk w bo #[vs] 24) (ho : w.ownsRow B 5 1 vs out.length (bcells out)) (hg : w.grownBy w' vs.ownBlock) :
    Blk w' bv #[.int .u32 v] 45 ∧ Blk w' bn #[.int .i64 n] 3 ∧ Blk w' bo #[vs] 24 :=
  ⟨h.hv.other hg (Lib.ownBlock_ne ho h.hv (by decide)), h.hn.other hg (Lib.ownBlock_ne ho h.hn (by decide)), hv.other hg (Lib.ownBlock_ne ho hv (by decide))⟩
theorem GS.al {B bv bn bo v n : Nat} {out : List UInt8} {w : World} (h : GS B bv bn bo v n out w) (o : Obj) : GS B bv bn bo v n out (w.alloc o) := by
  obtain ⟨a, b, vs, c, d⟩ := h
  exact ⟨a.alloc o, b.alloc o, vs, c.alloc o, owns_al' d o⟩
theorem GS.put {B bv bn bo v n : Nat} {out : List UInt8} {w : World} {vs v' : Value} (h1 : Blk w bv #[.int .u32 v] 45) (h2 : Blk w bn #[.int .i64 n] 3) (h3 : Blk w bo #[vs] 24) (ho : w.ownsRow B 5 1 v' out.length (bcells out))
    (hd : bv ≠ bo ∧ bn ≠ bo) : GS B bv bn bo v n out (w.setCell ⟨bo, 0, none⟩ v') := ⟨h1.far hd.1 _ _, h2.far hd.2 _ _, v', h3.set 0 _, own_set ho h3 (by decide) 0 _⟩
theorem or_six (v x : Nat) (hv : v < 64) (hx : x < 64) : bits .or .u32 ((v : Int) * 64) (x : Int) = ((v * 64 + x : Nat) : Int) := by
  have h := or32 (v * 2 ^ 6) x (by omega) (by omega)
  rw [or_add v x 6 (by omega)] at h
  exact (by simpa using h)
theorem and_0 (a : Nat) (h : a < 4294967296) : bits .and .u32 (a : Int) 0 = ((a % 1 : Nat) : Int) := by
  have e := and32 a 0 h (by omega)
  rw [Nat.and_zero] at e
  rw [Nat.mod_one]; exact e
theorem and_3 (a : Nat) (h : a < 4294967296) : bits .and .u32 (a : Int) 3 = ((a % 4 : Nat) : Int) := by
  have e := and32 a 3 h (by omega)
  rw [show (3 : Nat) = 2 ^ 2 - 1 from rfl, Nat.and_two_pow_sub_one_eq_mod] at e
  exact e
theorem and_15 (a : Nat) (h : a < 4294967296) : bits .and .u32 (a : Int) 15 = ((a % 16 : Nat) : Int) := by
  have e := and32 a 15 h (by omega)
  rw [show (15 : Nat) = 2 ^ 4 - 1 from rfl, Nat.and_two_pow_sub_one_eq_mod] at e
  exact e
set_option maxRecDepth 100000 in
set_option maxHeartbeats 4000000 in
theorem take_calls (c : Int) (B bv bn bo v n : Nat) (out : List UInt8) (w : World) (hc0 : -2147483648 ≤ c) (hc1 : c ≤ 2147483647) (h : GS B bv bn bo v n out w) (hB : B ≤ bv ∧ B ≤ bn ∧ B ≤ bo ∧ B ≤ w.heap.size) (hd : bv ≠ bn ∧ bv ≠ bo ∧ bn ≠ bo)
    (hn : n = 0 ∨ n = 2 ∨ n = 4 ∨ n = 6) (hv : v < 2 ^ n) (hl : out.length ≤ 1000) :
    ∃ x : Nat, valN c = x ∧ x < 64 ∧ Calls Tryd.prog 22 #[.int .i32 c, .pointer (some ⟨bv, 0, none⟩), .pointer (some ⟨bn, 0, none⟩), .pointer (some ⟨bo, 0, none⟩)] w fun e w' =>
      e = .returned (.bool (valB c)) ∧ GS B bv bn bo (gstep x (v, n, out)).1 (gstep x (v, n, out)).2.1 (gstep x (v, n, out)).2.2 w' ∧ BK B w w' := by
  obtain ⟨x, hx, hxl⟩ := valN_range c
  refine ⟨x, hx, hxl, ?_⟩
  have hval := value_calls c
  rw [hx] at hval
  generalize valB c = vb at hval
  have H := Lib.hid h
  have c0 : w.cell? ⟨bv, 0, none⟩ = some (.int .u32 v) := (h.hv.cell 0).trans rfl
  have f0 := h.hv.frozen 0
  have c1 : w.cell? ⟨bn, 0, none⟩ = some (.int .i64 n) := (h.hn.cell 0).trans rfl
  have f1 := h.hn.frozen 0
  clear h hx
  have hv64 : v < 64 := by rcases hn with rfl | rfl | rfl | rfl <;> omega
  have o1 := or_six v x hv64 hxl
  obtain ⟨v1, hv1⟩ : ∃ v1, v1 = v * 64 + x := ⟨_, rfl⟩
  rw [← hv1] at o1
  have wv : IntKind.u32.wrap ((v : Int) * 64) = (v : Int) * 64 := by rw [IntKind.wrap_u32]; omega
  have hv1l : v1 < 4096 := by omega
  obtain ⟨n6, hn6⟩ : ∃ n6, n6 = n + 6 := ⟨_, rfl⟩
  have wn : IntKind.i64.wrap ((n : Int) + 6) = (n6 : Int) := by
    rw [hn6]
    rcases hn with rfl | rfl | rfl | rfl <;> rfl
  have HV1 := Lib.hid hv1
  have HN6 := Lib.hid hn6
  clear hv1 hn6
  have hn8 := hn
  clear hn
  go_enter Tryd.func22, Tryd.ntmps22
  go_upto_region 2 with (go_at_call 23; refine (hval _ hc0 hc1).mono ?_; rintro e w' ⟨rfl, hw⟩; rw [hw]; clear hw w')
  go_cut [13] (fun v13 wx => Hid (GS B bv bn bo v1 n6 out wx ∧ BK B w wx))
  case first =>
    go_region_with (fail)
    all_goals
      go_wp2
      go_meet
      exact Lib.hid ⟨by
        repeat' first
          | exact ((H.out.setV hd.1.symm (Ne.symm hd.2.1) v1).setN hd.1 (Ne.symm hd.2.2) n6)
          | exact ((H.out.setN hd.1 (Ne.symm hd.2.2) n6).setV hd.1.symm (Ne.symm hd.2.1) v1)
          | refine GS.drew1 ?_, by
        repeat' first
          | exact ((BK.refl _ _).set hB.1 H.out.hv _ _).set hB.2.1 (H.out.hn.far hd.1.symm _ _) _ _
          | exact ((BK.refl _ _).set hB.2.1 H.out.hn _ _).set hB.1 (H.out.hv.far hd.1 _ _) _ _
          | refine BK.drew1 ?_⟩
  case rest =>
    clear c0 f0 c1 f1 H o1
    have c0 : wc.cell? ⟨bv, 0, none⟩ = some (.int .u32 v1) := (hcut.out.1.hv.cell 0).trans rfl
    have f0 := hcut.out.1.hv.frozen 0
    have c1 : wc.cell? ⟨bn, 0, none⟩ = some (.int .i64 n6) := (hcut.out.1.hn.cell 0).trans rfl
    have f1 := hcut.out.1.hn.frozen 0
    obtain ⟨vs, hbo, hown⟩ := hcut.out.1.ho
    have c2 : wc.cell? ⟨bo, 0, none⟩ = some vs := (hbo.cell 0).trans rfl
    have f2 := hbo.frozen 0
    have HO := Lib.hid (And.intro hbo hown)
    clear hbo hown
    rcases hn8 with rfl | rfl | rfl | rfl
    · obtain rfl : n6 = 6 := HN6.out
      go_wp2
      go_ret
      exact ⟨rfl, by rw [gstep, if_pos (show (0 : Nat) < 2 by omega), ← HV1.out]; exact hcut.out.1, hcut.out.2⟩
    · obtain rfl : n6 = 8 := HN6.out
      have hb : v1 < 256 := by have := HV1.out; omega
      have n1 : bits .and .u32 (v1 : Int) 0 = ((v1 % 1 : Nat) : Int) := and_0 v1 (by omega)
      go_upto_region 5 with (fail)
      have hG : Hid (GS B bv bn bo v1 0 out (wc.setCell ⟨bn, 0, none⟩ (.int .i64 0)) ∧ BK B w (wc.setCell ⟨bn, 0, none⟩ (.int .i64 0))) := Lib.hid ⟨hcut.out.1.setN hd.1 (Ne.symm hd.2.2) 0, hcut.out.2.set hB.2.1 hcut.out.1.hn _ _⟩
      generalize wc.setCell ⟨bn, 0, none⟩ (.int .i64 0) = wd at hG ⊢
      clear c0 f0 c1 f1 c2 f2 HO hcut
      have c0 : wd.cell? ⟨bv, 0, none⟩ = some (.int .u32 v1) := (hG.out.1.hv.cell 0).trans rfl
      have c1 : wd.cell? ⟨bn, 0, none⟩ = some (.int .i64 0) := (hG.out.1.hn.cell 0).trans rfl
      obtain ⟨vs, hbo, hown⟩ := hG.out.1.ho
      have c2 : wd.cell? ⟨bo, 0, none⟩ = some vs := (hbo.cell 0).trans rfl
      have HO := Lib.hid (And.intro hbo hown)
      clear hbo hown
      go_cut [23] (fun v23 wx => Hid (GS B bv bn bo v1 0 (out ++ [(v1 / 1).toUInt8]) wx ∧ BK B w wx))
      case first =>
        go_wp2_with (at_builtin
                     refine wpList_app rfl _ _ _ rfl vs (.slice (some ⟨wd.heap.size, 0, none⟩) 1 1) (by rfl) (by rfl) (own_app1 (owns_al' HO.out.2 _) _ wd.heap.size (v1 / 1) _ (by omega) (by omega) (Blk.new' _ _ _ rfl) hl (Nat.le_trans (Nat.le_trans hB.2.2.2 hG.out.2.bel.size) (below_alloc1 _ _).size)) ?_
                     intro v2 w2 hF
                     obtain ⟨hown2, hbel2, hgr2⟩ := hF
                     have HP := Lib.hid ((hG.out.1.al _).grow (HO.out.1.alloc _) (owns_al' HO.out.2 _) hgr2)
                     have HOW := Lib.hid hown2
                     have HB2 : Hid (BK B w w2) := Lib.hid ((hG.out.2.al (Nat.le_trans hB.2.2.2 hG.out.2.bel.size) _).grow hbel2 hgr2 (owns_al' HO.out.2 _))
                     have d2 : w2.cell? ⟨bo, 0, none⟩ = some vs := (HP.out.2.2.cell 0).trans rfl
                     have g2 := HP.out.2.2.frozen 0
                     obtain ⟨ao, n', cap, rfl⟩ : ∃ ao n' cap, v2 = .slice ao n' cap := by
                       rcases hown2.2 with ⟨hv, _⟩ | ⟨g, cap, cur, hv, _⟩
                       · exact ⟨_, _, _, hv⟩
                       · exact ⟨_, _, _, hv⟩
                     clear hown2 hbel2 hgr2 c0 c1 c2)
        go_meet
        exact Lib.hid ⟨GS.put HP.out.1 HP.out.2.1 HP.out.2.2 HOW.out ⟨hd.2.1, hd.2.2⟩, HB2.out.set hB.2.2.1 HP.out.2.2 _ _⟩
      case rest =>
        clear c0 c1 c2 hG HO
        have hG2 := hcut
        have c0 : wc.cell? ⟨bv, 0, none⟩ = some (.int .u32 v1) := (hG2.out.1.hv.cell 0).trans rfl
        have f0 := hG2.out.1.hv.frozen 0
        have c1 : wc.cell? ⟨bn, 0, none⟩ = some (.int .i64 0) := (hG2.out.1.hn.cell 0).trans rfl
        obtain ⟨vm, hvm⟩ : ∃ vm, vm = v1 % 1 := ⟨_, rfl⟩
        rw [← hvm] at n1
        have HVM := Lib.hid hvm
        clear hvm
        go_wp2
        go_ret
        refine ⟨rfl, ?_, hG2.out.2.set hB.1 hG2.out.1.hv _ _⟩
        rw [gstep, if_neg (show ¬ (2 : Nat) < 2 by omega), ← HV1.out]
        have h9 := hG2.out.1.setV hd.1.symm (Ne.symm hd.2.1) vm
        rw [HVM.out] at h9 ⊢
        exact h9
    · obtain rfl : n6 = 10 := HN6.out
      have hb : v1 < 1024 := by have := HV1.out; omega
      have n1 : bits .and .u32 (v1 : Int) 3 = ((v1 % 4 : Nat) : Int) := and_3 v1 (by omega)
      go_upto_region 5 with (fail)
      have hG : Hid (GS B bv bn bo v1 2 out (wc.setCell ⟨bn, 0, none⟩ (.int .i64 2)) ∧ BK B w (wc.setCell ⟨bn, 0, none⟩ (.int .i64 2))) := Lib.hid ⟨hcut.out.1.setN hd.1 (Ne.symm hd.2.2) 2, hcut.out.2.set hB.2.1 hcut.out.1.hn _ _⟩
      generalize wc.setCell ⟨bn, 0, none⟩ (.int .i64 2) = wd at hG ⊢
      clear c0 f0 c1 f1 c2 f2 HO hcut
      have c0 : wd.cell? ⟨bv, 0, none⟩ = some (.int .u32 v1) := (hG.out.1.hv.cell 0).trans rfl
      have c1 : wd.cell? ⟨bn, 0, none⟩ = some (.int .i64 2) := (hG.out.1.hn.cell 0).trans rfl
      obtain ⟨vs, hbo, hown⟩ := hG.out.1.ho
      have c2 : wd.cell? ⟨bo, 0, none⟩ = some vs := (hbo.cell 0).trans rfl
      have HO := Lib.hid (And.intro hbo hown)
      clear hbo hown
      go_cut [23] (fun v23 wx => Hid (GS B bv bn bo v1 2 (out ++ [(v1 / 4).toUInt8]) wx ∧ BK B w wx))
      case first =>
        go_wp2_with (at_builtin
                     refine wpList_app rfl _ _ _ rfl vs (.slice (some ⟨wd.heap.size, 0, none⟩) 1 1) (by rfl) (by rfl) (own_app1 (owns_al' HO.out.2 _) _ wd.heap.size (v1 / 4) _ (by omega) (by omega) (Blk.new' _ _ _ rfl) hl (Nat.le_trans (Nat.le_trans hB.2.2.2 hG.out.2.bel.size) (below_alloc1 _ _).size)) ?_
                     intro v2 w2 hF
                     obtain ⟨hown2, hbel2, hgr2⟩ := hF
                     have HP := Lib.hid ((hG.out.1.al _).grow (HO.out.1.alloc _) (owns_al' HO.out.2 _) hgr2)
                     have HOW := Lib.hid hown2
                     have HB2 : Hid (BK B w w2) := Lib.hid ((hG.out.2.al (Nat.le_trans hB.2.2.2 hG.out.2.bel.size) _).grow hbel2 hgr2 (owns_al' HO.out.2 _))
                     have d2 : w2.cell? ⟨bo, 0, none⟩ = some vs := (HP.out.2.2.cell 0).trans rfl
                     have g2 := HP.out.2.2.frozen 0
                     obtain ⟨ao, n', cap, rfl⟩ : ∃ ao n' cap, v2 = .slice ao n' cap := by
                       rcases hown2.2 with ⟨hv, _⟩ | ⟨g, cap, cur, hv, _⟩
                       · exact ⟨_, _, _, hv⟩
                       · exact ⟨_, _, _, hv⟩
                     clear hown2 hbel2 hgr2 c0 c1 c2)
        go_meet
        exact Lib.hid ⟨GS.put HP.out.1 HP.out.2.1 HP.out.2.2 HOW.out ⟨hd.2.1, hd.2.2⟩, HB2.out.set hB.2.2.1 HP.out.2.2 _ _⟩
      case rest =>
        clear c0 c1 c2 hG HO
        have hG2 := hcut
        have c0 : wc.cell? ⟨bv, 0, none⟩ = some (.int .u32 v1) := (hG2.out.1.hv.cell 0).trans rfl
        have f0 := hG2.out.1.hv.frozen 0
        have c1 : wc.cell? ⟨bn, 0, none⟩ = some (.int .i64 2) := (hG2.out.1.hn.cell 0).trans rfl
        obtain ⟨vm, hvm⟩ : ∃ vm, vm = v1 % 4 := ⟨_, rfl⟩
        rw [← hvm] at n1
        have HVM := Lib.hid hvm
        clear hvm
        go_wp2
        go_ret
        refine ⟨rfl, ?_, hG2.out.2.set hB.1 hG2.out.1.hv _ _⟩
        rw [gstep, if_neg (show ¬ (4 : Nat) < 2 by omega), ← HV1.out]
        have h9 := hG2.out.1.setV hd.1.symm (Ne.symm hd.2.1) vm
        rw [HVM.out] at h9 ⊢
        exact h9
    · obtain rfl : n6 = 12 := HN6.out
      have hb : v1 < 4096 := by have := HV1.out; omega
      have n1 : bits .and .u32 (v1 : Int) 15 = ((v1 % 16 : Nat) : Int) := and_15 v1 (by omega)
      go_upto_region 5 with (fail)
      have hG : Hid (GS B bv bn bo v1 4 out (wc.setCell ⟨bn, 0, none⟩ (.int .i64 4)) ∧ BK B w (wc.setCell ⟨bn, 0, none⟩ (.int .i64 4))) := Lib.hid ⟨hcut.out.1.setN hd.1 (Ne.symm hd.2.2) 4, hcut.out.2.set hB.2.1 hcut.out.1.hn _ _⟩
      generalize wc.setCell ⟨bn, 0, none⟩ (.int .i64 4) = wd at hG ⊢
      clear c0 f0 c1 f1 c2 f2 HO hcut
      have c0 : wd.cell? ⟨bv, 0, none⟩ = some (.int .u32 v1) := (hG.out.1.hv.cell 0).trans rfl
      have c1 : wd.cell? ⟨bn, 0, none⟩ = some (.int .i64 4) := (hG.out.1.hn.cell 0).trans rfl
      obtain ⟨vs, hbo, hown⟩ := hG.out.1.ho
      have c2 : wd.cell? ⟨bo, 0, none⟩ = some vs := (hbo.cell 0).trans rfl
      have HO := Lib.hid (And.intro hbo hown)
      clear hbo hown
      go_cut [23] (fun v23 wx => Hid (GS B bv bn bo v1 4 (out ++ [(v1 / 16).toUInt8]) wx ∧ BK B w wx))
      case first =>
        go_wp2_with (at_builtin
                     refine wpList_app rfl _ _ _ rfl vs (.slice (some ⟨wd.heap.size, 0, none⟩) 1 1) (by rfl) (by rfl) (own_app1 (owns_al' HO.out.2 _) _ wd.heap.size (v1 / 16) _ (by omega) (by omega) (Blk.new' _ _ _ rfl) hl (Nat.le_trans (Nat.le_trans hB.2.2.2 hG.out.2.bel.size) (below_alloc1 _ _).size)) ?_
                     intro v2 w2 hF
                     obtain ⟨hown2, hbel2, hgr2⟩ := hF
                     have HP := Lib.hid ((hG.out.1.al _).grow (HO.out.1.alloc _) (owns_al' HO.out.2 _) hgr2)
                     have HOW := Lib.hid hown2
                     have HB2 : Hid (BK B w w2) := Lib.hid ((hG.out.2.al (Nat.le_trans hB.2.2.2 hG.out.2.bel.size) _).grow hbel2 hgr2 (owns_al' HO.out.2 _))
                     have d2 : w2.cell? ⟨bo, 0, none⟩ = some vs := (HP.out.2.2.cell 0).trans rfl
                     have g2 := HP.out.2.2.frozen 0
                     obtain ⟨ao, n', cap, rfl⟩ : ∃ ao n' cap, v2 = .slice ao n' cap := by
                       rcases hown2.2 with ⟨hv, _⟩ | ⟨g, cap, cur, hv, _⟩
                       · exact ⟨_, _, _, hv⟩
                       · exact ⟨_, _, _, hv⟩
                     clear hown2 hbel2 hgr2 c0 c1 c2)
        go_meet
        exact Lib.hid ⟨GS.put HP.out.1 HP.out.2.1 HP.out.2.2 HOW.out ⟨hd.2.1, hd.2.2⟩, HB2.out.set hB.2.2.1 HP.out.2.2 _ _⟩
      case rest =>
        clear c0 c1 c2 hG HO
        have hG2 := hcut
        have c0 : wc.cell? ⟨bv, 0, none⟩ = some (.int .u32 v1) := (hG2.out.1.hv.cell 0).trans rfl
        have f0 := hG2.out.1.hv.frozen 0
        have c1 : wc.cell? ⟨bn, 0, none⟩ = some (.int .i64 4) := (hG2.out.1.hn.cell 0).trans rfl
        obtain ⟨vm, hvm⟩ : ∃ vm, vm = v1 % 16 := ⟨_, rfl⟩
        rw [← hvm] at n1
        have HVM := Lib.hid hvm
        clear hvm
        go_wp2
        go_ret
        refine ⟨rfl, ?_, hG2.out.2.set hB.1 hG2.out.1.hv _ _⟩
        rw [gstep, if_neg (show ¬ (6 : Nat) < 2 by omega), ← HV1.out]
        have h9 := hG2.out.1.setV hd.1.symm (Ne.symm hd.2.1) vm
        rw [HVM.out] at h9 ⊢
        exact h9
end Go.Proofs.YtjlkdfgboklmhaaDoor
