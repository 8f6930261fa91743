/- names.Has: whether lists have a token, whatever its case; conditions: the slice can be read, and at most some 900000 bytes. -/
import Derived.Test.YtkhepfmllolokaaDoorNf
namespace Go.Proofs.YtkhepfmllolokaaDoor
set_option linter.unusedSimpArgs false
set_option linter.unusedVariables false
open Go.RowKit
theorem hasf_calls (s t : ByteArray) (bx : Nat) (w : World) (hs : s.size ≤ maxLen) (ht : t.size ≤ maxLen) (hx : w.cell? ⟨bx, 0, none⟩ = some (.string t)) :
    Calls Tryd.prog 27 #[.string s, .pointer (some ⟨bx, 0, none⟩)] w fun e w' => e = .returned (.bool (sameB (bs s) (bs t))) ∧ ∃ n, w' = w.drewN n := by
  have hc := Same_calls s t w hs ht
  clear hs ht
  go_enter Tryd.func27, Tryd.ntmps27
  go_wp2_with (go_at_call 28; refine hc.mono ?_; rintro e w' ⟨rfl, n, rfl⟩)
  go_ret
  exact ⟨rfl, n, rfl⟩
theorem Drawn.cell {w w' : World} (h : Drawn w w') (a : Addr) : w'.cell? a = w.cell? a := by
  obtain ⟨n, rfl⟩ := h.out; rfl
set_option maxHeartbeats 1000000 in
theorem indexHas_calls (A : Option Addr) (l : List ByteArray) (c : Nat) (bx : Nat) (t : ByteArray) (w : World) (hl : l.length ≤ maxLen) (hA : Strs w A l) (hs : ∀ s ∈ l, s.size ≤ maxLen) (ht : t.size ≤ maxLen) (hx : w.cell? ⟨bx, 0, none⟩ = some (.string t)) :
    Calls Tryd.prog 30 #[.slice A l.length c, .func (.func 27) #[] #[.pointer (some ⟨bx, 0, none⟩)]] w fun e w' => e = .returned (.int .i64 (idxP (fun s => sameB (bs s) (bs t)) l)) ∧ ∃ n, w' = w.drewN n := by
  unfold maxLen at hl
  go_enter Tryd.func30, Tryd.ntmps30
  go_wp2
  have HA := Lib.hid hA; clear hA
  have HX := Lib.hid hx; clear hx
  go_loopg [8] l.length (fun gh i wx => ∃ k : Nat, i = .int .i64 k ∧ k + gh = l.length ∧ Hid ((l.take k).any (fun s => sameB (bs s) (bs t)) = false) ∧ Hid (Drawn w wx))
  case atStart => exact ⟨0, rfl, by omega, Lib.hid rfl, Lib.hid (Drawn.refl w)⟩
  case round =>
    obtain ⟨k, rfl, hk, hall, hd⟩ := hrel
    by_cases hlt : k < l.length
    · obtain ⟨b, off, rfl, h1⟩ := HA.out k hlt
      have h2 : wr.cell? ⟨b, off + k, none⟩ = some (.string l[k]) := (hd.out.cell _).trans h1
      have hfk := hasf_calls l[k] t bx wr (hs _ (List.getElem_mem _)) ht ((hd.out.cell _).trans HX.out)
      clear h1
      cases hin : sameB (bs l[k]) (bs t)
      all_goals
        have HI := Lib.hid hin
        rw [hin] at hfk
        clear hin
        go_wp2_with (go_at_call 27; refine hfk.mono ?_; rintro e w' ⟨rfl, m, hw⟩; have HW := Lib.hid hw; clear hw)
        first
          | (go_ret
             exact ⟨ret_int (idxP_hit hlt hall.out HI.out).symm, by rw [HW.out]; exact (hd.out.more m).out⟩)
          | (go_roundg (l.length - (k + 1))
             case measure => omega
             case rel => exact ⟨k + 1, by go_num, by omega, Lib.hid (by rw [any_take l k hlt, hall.out, HI.out]; rfl), Lib.hid (by rw [HW.out]; exact hd.out.more m)⟩)
    · have hall' := hall.out
      rw [List.take_of_length_le (by omega)] at hall'
      have HE := Lib.hid hall'; clear hall' hall
      go_wp2
      go_ret
      exact ⟨ret_int (idxP_none HE.out).symm, hd.out.out⟩
theorem idxP_any {p : ByteArray → Bool} {l : List ByteArray} : decide (0 ≤ idxP p l) = l.any p := by
  cases h : l.any p with
  | false => rw [idxP_none h]; rfl
  | true => rw [idxP, if_pos h]; exact decide_eq_true (by omega)
theorem containsHas_calls (A : Option Addr) (l : List ByteArray) (c : Nat) (bx : Nat) (t : ByteArray) (w : World) (hl : l.length ≤ maxLen) (hA : Strs w A l) (hs : ∀ s ∈ l, s.size ≤ maxLen) (ht : t.size ≤ maxLen) (hx : w.cell? ⟨bx, 0, none⟩ = some (.string t)) :
    Calls Tryd.prog 26 #[.slice A l.length c, .func (.func 27) #[] #[.pointer (some ⟨bx, 0, none⟩)]] w fun e w' => e = .returned (.bool (l.any fun s => sameB (bs s) (bs t))) ∧ ∃ n, w' = w.drewN n := by
  have hi := indexHas_calls A l c bx t w hl hA hs ht hx
  have HI := Lib.hid (idxP_any (p := fun s => sameB (bs s) (bs t)) (l := l))
  generalize idxP (fun s => sameB (bs s) (bs t)) l = x at hi HI
  clear hA hs ht hx hl
  go_enter Tryd.func26, Tryd.ntmps26
  go_wp2_with (go_at_call 30; refine hi.mono ?_; rintro e w' ⟨rfl, n, rfl⟩)
  go_ret
  exact ⟨ret_bool HI.out, n, rfl⟩
/-- Have tokens one, whatever its case? -/
def hasN (t : By) (o : Option (List By)) : Bool := match o with | some r => r.any fun s => sameB s t | none => false
theorem hasN_some (t : By) (r : List ByteArray) : hasN t (some (bss r)) = r.any fun s => sameB (bs s) t := by
  show (List.map bs r).any _ = _
  rw [List.any_map]; rfl
theorem piece_sizes {p : By} {a : List By} (h : piece p = some a) : ∀ x ∈ a, x.length ≤ p.length := by
  unfold piece at h
  split at h
  · cases h; intro x hx; cases hx
  · split at h
    · cases h; intro x hx; rw [List.mem_singleton] at hx; rw [hx]; exact trim_len p
    · cases h
theorem seqB_sizes {ps a : List By} (h : seqB ps = some a) : ∀ x ∈ a, ∃ p ∈ ps, x.length ≤ p.length := by
  induction ps generalizing a with
  | nil => cases h; intro x hx; cases hx
  | cons p ps ih =>
    rw [seqB] at h
    cases hp : piece p with
    | none => rw [hp] at h; cases h
    | some b =>
      cases hq : seqB ps with
      | none => rw [hp, hq] at h; cases h
      | some d =>
        rw [hp, hq] at h
        cases h
        intro x hx
        rcases List.mem_append.1 hx with hx | hx
        · exact ⟨p, List.mem_cons_self, piece_sizes hp x hx⟩
        · obtain ⟨q, hq1, hq2⟩ := ih hq x hx
          exact ⟨q, List.mem_cons_of_mem _ hq1, hq2⟩
theorem splitC_sizes (c : UInt8) (l : By) : ∀ p ∈ splitC c l, p.length ≤ l.length := by
  induction l with
  | nil => intro p hp; simp [splitC] at hp; simp [hp]
  | cons x l ih =>
    intro p hp
    unfold splitC at hp
    split at hp
    · rcases List.mem_cons.1 hp with rfl | hp
      · simp
      · have := ih p hp; simp; omega
    · obtain ⟨h, t, e⟩ := splitC_form c l
      rw [e] at hp ih
      rcases List.mem_cons.1 hp with rfl | hp
      · have := ih h (by simp); simpa using this
      · have := ih p (by simp only [List.tail_cons] at hp; exact List.mem_cons_of_mem _ hp); simp; omega
theorem listB_sizes {l r : List ByteArray} (h : listB (bss l) = some (bss r)) {n : Nat} (hl : ∀ s ∈ l, s.size ≤ n) : ∀ s ∈ r, s.size ≤ n := fun s hs => by
  obtain ⟨p, hp, hle⟩ := seqB_sizes h (bs s) (List.mem_map_of_mem hs)
  obtain ⟨v, hv, hp2⟩ := List.mem_flatMap.1 hp
  obtain ⟨u, hu, rfl⟩ := List.mem_map.1 hv
  have h1 := splitC_sizes 44 (bs u) p hp2
  have h2 := hl u hu
  rw [bs_length] at hle h1
  omega
theorem listB_len {l r : List ByteArray} (h : listB (bss l) = some (bss r)) : r.length ≤ cntB l := by
  have h1 := seqB_len _ _ h
  have h2 := cnt_take l l.length
  rw [List.take_length] at h2
  simp only [bss, List.length_map] at h1 h2
  omega
set_option maxHeartbeats 1000000 in
theorem Has_calls (t : ByteArray) (A : Option Addr) (l : List ByteArray) (c : Nat) (w : World) (ht : t.size ≤ maxLen) (hl : cntB l ≤ 900000) (hm : l.length ≤ maxLen) (hs : ∀ s ∈ l, s.size ≤ 900000) (hA : Strs w A l) :
    Calls Tryd.prog 13 #[.string t, .slice A l.length c] w fun e w' => e = .returned (.bool (hasN (bs t) (listB (bss l)))) ∧ Below w.heap.size w w' := by
  have hL := List_calls A l c (w.alloc (.cells #[.string t] 9)) hl hm hs (hA.alloc _)
  have hx := alloc_cell w #[.string t] 9 0
  have hb0 := below_alloc1 w (.cells #[.string t] 9)
  clear hA
  unfold maxLen at hm
  cases h : listB (bss l) with
  | none =>
    have HH := Lib.hid h
    clear hx h
    go_enter Tryd.func13, Tryd.ntmps13
    have HB0 := Lib.hid hb0; clear hb0
    have fin : ∀ (e : Ending) (w' : World), LP (w.alloc (.cells #[.string t] 9)) l e w' → e = .returned (.tuple #[.slice none 0 0, .int .i64 60]) ∧ Hid (Below (w.alloc (.cells #[.string t] 9)).heap.size (w.alloc (.cells #[.string t] 9)) w') := fun e w' ⟨hb, hr⟩ => by
      rcases hr with ⟨r, A', c', h1, _⟩ | ⟨_, h2⟩
      · rw [HH.out] at h1; cases h1
      · exact ⟨h2, Lib.hid hb⟩
    go_wp2_with (go_at_call 11; refine (hL.mono fin).mono ?_; clear hL fin; rintro e w' ⟨rfl, hb⟩)
    go_ret
    exact ⟨rfl, bt HB0.out hb.out⟩
  | some r0 =>
    obtain ⟨r, rfl⟩ : ∃ r : List ByteArray, r0 = bss r := ⟨r0.map mk, by simp [bss, Function.comp_def, bs_mk]⟩
    have hrs : ∀ s ∈ r, s.size ≤ maxLen := fun s hs' => Nat.le_trans (listB_sizes h hs s hs') (by unfold maxLen; omega)
    have hrl : r.length ≤ maxLen := Nat.le_trans (listB_len h) (by unfold maxLen; omega)
    rw [hasN_some]
    have HH := Lib.hid h
    have HX := Lib.hid hx
    have HR := Lib.hid hrs
    clear h hx hrs
    go_enter Tryd.func13, Tryd.ntmps13
    have HB0 := Lib.hid hb0; clear hb0
    have fin : ∀ (e : Ending) (w' : World), LP (w.alloc (.cells #[.string t] 9)) l e w' → ∃ A' c', e = .returned (.tuple #[.slice A' r.length c', .int .i64 0]) ∧ Hid (Strs w' A' r ∧ Below (w.alloc (.cells #[.string t] 9)).heap.size (w.alloc (.cells #[.string t] 9)) w') := fun e w' ⟨hb, hr⟩ => by
      rcases hr with ⟨r', A', c', h1, h2, h3, h4, h5⟩ | ⟨h2, _⟩
      · rw [HH.out] at h1
        have := bss_inj (Option.some.inj h1)
        subst this
        exact ⟨A', c', h2, Lib.hid ⟨h5, hb⟩⟩
      · rw [HH.out] at h2; cases h2
    go_wp2_with (first
      | (go_at_call 11; refine (hL.mono fin).mono ?_; clear hL fin; rintro e w' ⟨A', c', rfl, hb⟩)
      | (go_at_call 26; refine (containsHas_calls A' r c' w.heap.size t w' hrl hb.out.1 HR.out ht ((hb.out.2.cell (p := ⟨w.heap.size, 0, none⟩) (by show w.heap.size < _; simp)).trans HX.out)).mono ?_; rintro e w'' ⟨rfl, n, rfl⟩))
    go_ret
    exact ⟨rfl, below_drewN (bt HB0.out hb.out.2) n⟩
end Go.Proofs.YtkhepfmllolokaaDoor
