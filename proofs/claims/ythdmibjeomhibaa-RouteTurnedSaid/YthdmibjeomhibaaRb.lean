/- Being below a prefix, by the program and by the document: of all strings that a world can hold. -/
import Derived.Test.YthdmibjeomhibaaRa
import Derived.Lib.IndexBytes
namespace Go.Proofs.Ythdmibjeomhibaa
set_option linter.unusedSimpArgs false
set_option linter.unusedVariables false
open Go.RowKit
/-- Where a byte is first: the bytes ahead of it, those behind it, whether it is there. -/
theorem index_cut (l : List UInt8) (c : UInt8) : (Lib.indexByte l c = -1 ∧ l.takeWhile (· != c) = l ∧ l.any (· == c) = false) ∨
    (∃ n : Nat, Lib.indexByte l c = n ∧ n < l.length ∧ l.take n = l.takeWhile (· != c) ∧ l.drop (n + 1) = (l.dropWhile (· != c)).tail ∧ l.any (· == c) = true) := by
  induction l with
  | nil => exact .inl ⟨rfl, rfl, rfl⟩
  | cons b l ih =>
    by_cases e : b = c
    · subst e; exact .inr ⟨0, by simp [Lib.indexByte], by simp, by simp, by simp, by simp⟩
    · have e' : (b == c) = false := by simp [e]
      have e2 : (b != c) = true := by simp [e]
      rcases ih with ⟨h1, h2, h3⟩ | ⟨n, h1, h2, h3, h4, h5⟩
      · exact .inl ⟨by simp [Lib.indexByte, e', h1], by rw [List.takeWhile_cons, e2, if_pos rfl, h2], by simp [e', h3]⟩
      · refine .inr ⟨n + 1, ?_, by simp; omega, by rw [List.take_succ_cons, List.takeWhile_cons, e2, if_pos rfl, h3], by rw [List.drop_succ_cons, List.dropWhile_cons, e2, if_pos rfl, h4], by simp [h5]⟩
        have : (Lib.indexByte l c == -1) = false := by rw [h1]; simp
        simp [Lib.indexByte, e', this, h1]
def mk (l : List UInt8) : ByteArray := ⟨l.toArray⟩
theorem bs_mk (l : List UInt8) : bs (mk l) = l := rfl
theorem mk_bs (s : ByteArray) : mk (bs s) = s := bs_inj rfl
def cutB (c : UInt8) (l : List UInt8) : List UInt8 := l.takeWhile (· != c)
def cutA (c : UInt8) (l : List UInt8) : List UInt8 := (l.dropWhile (· != c)).tail
def cutF (c : UInt8) (l : List UInt8) : Bool := l.any (· == c)
theorem cut_none {l : List UInt8} {c : UInt8} (h : l.any (· == c) = false) : cutA c l = [] := by
  induction l with
  | nil => rfl
  | cons b l ih =>
    simp only [List.any_cons, Bool.or_eq_false_iff] at h
    have e2 : (b != c) = true := by simp [bne, h.1]
    rw [cutA, List.dropWhile_cons, e2, if_pos rfl]
    exact ih h.2
theorem ret_three {a a' b b' : ByteArray} {x x' : Bool} (h1 : bs a = bs a') (h2 : bs b = bs b') (h3 : x = x') : Ending.returned (.tuple #[.string a, .string b, .bool x]) = .returned (.tuple #[.string a', .string b', .bool x']) := by
  rw [bs_inj h1, bs_inj h2, h3]
set_option maxHeartbeats 400000 in
theorem liteCut_calls (s : ByteArray) (c : UInt8) (w : World) (hs : s.size ≤ maxLen) :
    Calls Try.prog 39 #[.string s, .string ⟨#[c]⟩] w fun e w' => e = .returned (.tuple #[.string (mk (cutB c (bs s))), .string (mk (cutA c (bs s))), .bool (cutF c (bs s))]) ∧ ∃ n, w' = w.drewN n := by
  unfold maxLen at hs
  have hl := bs_length s
  rcases index_cut (bs s) c with ⟨h1, h2, h3⟩ | ⟨n, h1, h2, h3, h4, h5⟩
  · have H := Lib.hid (And.intro h2 h3); clear h2 h3
    go_enter Try.func39, Try.ntmps39
    go_wp2_with (go_at_call 44; refine (Try.stringslite_Index_one _ _ _).mono ?_; rintro e w' ⟨rfl, rfl⟩)
    have H' := H.out
    go_ret3
    exact ⟨ret_three (by rw [bs_mk, cutB, H'.1]) (by rw [bs_mk, cut_none H'.2]) (by rw [cutF, H'.2]), 0, rfl⟩
  · have H := Lib.hid (And.intro h3 (And.intro h4 h5)); clear h3 h4 h5
    rw [hl] at h2
    go_enter Try.func39, Try.ntmps39
    go_wp2_with (go_at_call 44; refine (Try.stringslite_Index_one _ _ _).mono ?_; rintro e w' ⟨rfl, rfl⟩)
    go_quiet (fail)
    go_wp2
    obtain ⟨h3, h4, h5⟩ := H.out
    go_ret3
    exact ⟨ret_three (by rw [bs_mk, cutB, ← h3]; exact (Lib.extract_data _ _ _).trans (by simp)) (by rw [bs_mk, cutA, ← h4]; exact Lib.extract_to_end _ _) (by rw [cutF, h5]), _, rfl⟩
set_option maxHeartbeats 400000 in
theorem Cut_calls (s : ByteArray) (c : UInt8) (w : World) (hs : s.size ≤ maxLen) :
    Calls Try.prog 31 #[.string s, .string ⟨#[c]⟩] w fun e w' => e = .returned (.tuple #[.string (mk (cutB c (bs s))), .string (mk (cutA c (bs s))), .bool (cutF c (bs s))]) ∧ ∃ n, w' = w.drewN n := by
  go_enter Try.func31, Try.ntmps31
  go_wp2_with (go_at_call 39; refine (liteCut_calls _ _ _ hs).mono ?_; rintro e w' ⟨rfl, n, rfl⟩)
  go_ret3
  exact ⟨rfl, n, rfl⟩
/-- Is a path below a prefix? -/
def belowL (c pre : List UInt8) : Bool := pre.isPrefixOf c && (c.length == pre.length || c[pre.length]? == some 47 || pre.getLast? == some 47)
def belowB (path pre : List UInt8) : Bool := belowL (cutB 63 path) pre
theorem mk_size (l : List UInt8) : (mk l).size = l.length := by rw [← bs_length, bs_mk]
theorem CutPrefix_yes (q p r : ByteArray) (w : World) (h : bs q = bs p ++ bs r) :
    Calls Try.prog 32 #[.string q, .string p] w fun e w' => e = .returned (.tuple #[.string r, .bool true]) ∧ w' = w := by
  refine (Try.strings_CutPrefix q p w).mono ?_
  rintro e w' ⟨rfl, rfl⟩
  have hp : Lib.hasPrefix q.data.toList p.data.toList = true := by show (bs p).isPrefixOf (bs q) = true; rw [h]; simp
  refine ⟨?_, rfl⟩
  rw [Lib.trimPrefix, hp, if_pos rfl]
  show Ending.returned (.tuple #[.string (mk ((bs q).drop (bs p).length)), _]) = _
  rw [h, List.drop_left, mk_bs]
theorem CutPrefix_no (q p : ByteArray) (w : World) (h : (bs p).isPrefixOf (bs q) = false) :
    Calls Try.prog 32 #[.string q, .string p] w fun e w' => e = .returned (.tuple #[.string q, .bool false]) ∧ w' = w := by
  refine (Try.strings_CutPrefix q p w).mono ?_
  rintro e w' ⟨rfl, rfl⟩
  have hp : Lib.hasPrefix q.data.toList p.data.toList = false := h
  refine ⟨?_, rfl⟩
  rw [Lib.trimPrefix, hp, if_neg (by simp)]
theorem below_at (p t : List UInt8) : belowL (p ++ t) p = (t.isEmpty || t.head? == some 47 || p.getLast? == some 47) := by
  rw [belowL, List.isPrefixOf_iff_prefix.2 (List.prefix_append p t)]
  cases t with
  | nil => simp
  | cons a t =>
    have h : ((p ++ a :: t).length == p.length) = false := by rw [beq_eq_false_iff_ne, List.length_append, List.length_cons]; omega
    rw [h]; simp
theorem isSuffix_one (p : List UInt8) (c : UInt8) : ([c] : List UInt8).isSuffixOf p = (p.getLast? == some c) := by
  rw [List.isSuffixOf, List.getLast?_eq_head?_reverse]
  cases p.reverse with
  | nil => rfl
  | cons a l =>
    show ((c == a) && true) = (some a == some c)
    rw [Bool.and_true]
    by_cases h : c = a
    · subst h; simp
    · have h' : ¬ a = c := fun e => h e.symm
      rw [beq_eq_false_iff_ne.2 h, eq_comm, beq_eq_false_iff_ne]; simpa using h'
theorem head_47 (r : ByteArray) (h : 0 < r.size) : ((bs r).head? == some 47) = decide (((r[0]).toNat : Int) = 47) := by
  have : (bs r).head? = some r[0] := by rw [List.head?_eq_getElem?, bs_get? r 0 h]
  rw [this, Bool.eq_iff_iff, beq_iff_eq, decide_eq_true_eq, Option.some.injEq]
  exact ⟨fun e => by rw [e]; rfl, fun e => UInt8.toNat_inj.1 (by rw [show (47 : UInt8).toNat = 47 from rfl]; omega)⟩
set_option maxHeartbeats 1000000 in
theorem Below_calls (s p : ByteArray) (w : World) (hs : s.size ≤ maxLen) (hp : p.size ≤ maxLen) :
    Calls Try.prog 19 #[.string s, .string p] w fun e w' => e = .returned (.bool (belowB (bs s) (bs p))) ∧ ∃ n, w' = w.drewN n := by
  obtain ⟨q, hq⟩ : ∃ q, q = mk (cutB 63 (bs s)) := ⟨_, rfl⟩
  have hc := Cut_calls s 63 w hs
  rw [← hq] at hc
  have hb : belowB (bs s) (bs p) = belowL (bs q) (bs p) := by rw [hq]; rfl
  rw [hb]
  clear hb hq
  have hsuf : Lib.hasSuffix p.data.toList (⟨#[47]⟩ : ByteArray).data.toList = ((bs p).getLast? == some 47) := isSuffix_one _ _
  by_cases hpre : (bs p).isPrefixOf (bs q) = true
  · obtain ⟨t, ht⟩ := List.isPrefixOf_iff_prefix.1 hpre
    obtain ⟨r, rfl⟩ : ∃ r, t = bs r := ⟨mk t, rfl⟩
    rw [← ht, below_at]
    have hcp := fun w => CutPrefix_yes q p r w ht.symm
    clear ht hpre
    have H := Lib.hid hsuf; clear hsuf
    by_cases hr : r.toList = []
    · have HR : Hid (bs r = []) := Lib.hid (by rw [← hr, ByteArray.toList_eq])
      go_enter Try.func19, Try.ntmps19
      go_wp2_with (first
        | (go_at_call 31; refine hc.mono ?_; rintro e w' ⟨rfl, n, rfl⟩)
        | (go_at_call 32; refine (hcp _).mono ?_; rintro e w' ⟨rfl, rfl⟩)
        | (go_at_call 33; refine (Try.strings_HasSuffix _ _ _ hp).mono ?_; rintro e w' ⟨rfl, rfl⟩))
      go_ret
      exact ⟨ret_bool (by rw [HR.out]; rfl), n, rfl⟩
    · have HR : Hid ((bs r).isEmpty = false) := Lib.hid (by rw [toList_bs] at hr; simpa using hr)
      have hz : 0 < r.size := by
        rcases Nat.eq_zero_or_pos r.size with h | h
        · exact absurd (by rw [ByteArray.toList_eq]; exact List.length_eq_zero_iff.1 ((bs_length r).trans h)) hr
        · exact h
      have HH : Hid _ := Lib.hid (head_47 r hz)
      by_cases h47 : ((r[0]).toNat : Int) = 47
      · go_enter Try.func19, Try.ntmps19
        go_wp2_with (first
          | (go_at_call 31; refine hc.mono ?_; rintro e w' ⟨rfl, n, rfl⟩)
          | (go_at_call 32; refine (hcp _).mono ?_; rintro e w' ⟨rfl, rfl⟩)
          | (go_at_call 33; refine (Try.strings_HasSuffix _ _ _ hp).mono ?_; rintro e w' ⟨rfl, rfl⟩))
        go_ret
        exact ⟨ret_bool (by rw [HH.out, decide_eq_true h47]; simp), n, rfl⟩
      · go_enter Try.func19, Try.ntmps19
        go_wp2_with (first
          | (go_at_call 31; refine hc.mono ?_; rintro e w' ⟨rfl, n, rfl⟩)
          | (go_at_call 32; refine (hcp _).mono ?_; rintro e w' ⟨rfl, rfl⟩)
          | (go_at_call 33; refine (Try.strings_HasSuffix _ _ _ hp).mono ?_; rintro e w' ⟨rfl, rfl⟩))
        go_ret
        exact ⟨ret_bool (by rw [HH.out, decide_eq_false h47, HR.out, ← H.out, toList_bs, HR.out, beq_eq_false_iff_ne.2 h47]), n, rfl⟩
  · have hpre' : (bs p).isPrefixOf (bs q) = false := by simpa using hpre
    have hcp := fun w => CutPrefix_no q p w hpre'
    have HB : Hid (belowL (bs q) (bs p) = false) := Lib.hid (by rw [belowL, hpre']; rfl)
    clear hpre hpre' hsuf
    go_enter Try.func19, Try.ntmps19
    go_wp2_with (first
      | (go_at_call 31; refine hc.mono ?_; rintro e w' ⟨rfl, n, rfl⟩)
      | (go_at_call 32; refine (hcp _).mono ?_; rintro e w' ⟨rfl, rfl⟩))
    go_ret
    exact ⟨ret_bool HB.out.symm, n, rfl⟩
theorem below_len {c p : List UInt8} (h : c.length < p.length) : belowL c p = false := by
  rw [belowL]
  have : p.isPrefixOf c = false := by
    rw [Bool.eq_false_iff, Ne, List.isPrefixOf_iff_prefix]
    intro e; have := e.length_le; omega
  rw [this]; rfl
theorem below_cut (q p : ByteArray) (h : p.size ≤ q.size) : ((q.extract 0 p.size).toList == p.toList) = (bs p).isPrefixOf (bs q) := by
  rw [toList_bs, toList_bs]
  have : bs (q.extract 0 p.size) = (bs q).take (bs p).length := (Lib.extract_data _ _ _).trans (by rw [List.drop_zero, Nat.sub_zero, bs_length])
  rw [this, Bool.eq_iff_iff, beq_iff_eq, List.isPrefixOf_iff_prefix, List.prefix_iff_eq_take, eq_comm]
theorem cut_at (s : ByteArray) (k : Nat) (hk : k ≤ s.size) (hall : ((bs s).take k).all (· != 63) = true) (he : k = s.size ∨ ∃ h : k < s.size, s[k] = 63) : bs (s.extract 0 k) = cutB 63 (bs s) ∧ (s.extract 0 k).size = k := by
  have e : bs (s.extract 0 k) = (bs s).take k := (Lib.extract_data _ _ _).trans (by simp)
  refine ⟨?_, by rw [← bs_length, e, List.length_take, bs_length]; omega⟩
  rw [e, cutB]
  conv => rhs; rw [← List.take_append_drop k (bs s)]
  rw [List.takeWhile_append_of_pos (by simpa using hall)]
  have : ((bs s).drop k).takeWhile (· != 63) = [] := by
    rcases he with rfl | ⟨h, hc⟩
    · rw [List.drop_of_length_le (by rw [bs_length]; exact Nat.le_refl _)]; rfl
    · rw [List.drop_eq_getElem_cons (by rw [bs_length]; exact h), List.takeWhile_cons, bs_get s k h, hc]; rfl
  rw [this, List.append_nil]
theorem at_47 (q : ByteArray) (n : Nat) (h : n < q.size) : ((bs q)[n]? == some 47) = (((q[n]).toNat : Int) == 47) := by
  rw [bs_get? q n h, Bool.eq_iff_iff, beq_iff_eq, beq_iff_eq, Option.some.injEq]
  exact ⟨fun e => by rw [e]; rfl, fun e => UInt8.toNat_inj.1 (by rw [show (47 : UInt8).toNat = 47 from rfl]; omega)⟩
theorem last_47 (p : ByteArray) (h : 0 < p.size) : ((bs p).getLast? == some 47) = (((p[p.size - 1]).toNat : Int) == 47) := by
  have : (bs p).getLast? = some p[p.size - 1] := by rw [List.getLast?_eq_getElem?, bs_length, bs_get? p _ (by omega)]
  rw [this, Bool.eq_iff_iff, beq_iff_eq, beq_iff_eq, Option.some.injEq]
  exact ⟨fun e => by rw [e]; rfl, fun e => UInt8.toNat_inj.1 (by rw [show (47 : UInt8).toNat = 47 from rfl]; omega)⟩
set_option maxHeartbeats 400000 in
theorem plain_calls (s : ByteArray) (w : World) (hs : s.size ≤ maxLen) :
    Calls Try.prog 21 #[.string s] w fun e w' => e = .returned (.string (mk (cutB 63 (bs s)))) ∧ w' = w := by
  unfold maxLen at hs
  go_enter Try.func21, Try.ntmps21
  go_wp2
  go_loopg [3] s.size (fun g i wr => ∃ k : Nat, i = .int .i64 k ∧ k + g = s.size ∧ Hid (((bs s).take k).all (· != 63) = true) ∧ wr = w)
  case atStart => exact ⟨0, rfl, by omega, Lib.hid rfl, rfl⟩
  case round =>
    obtain ⟨k, rfl, hk, hall, rfl⟩ := hrel
    by_cases hlt : k < s.size
    · by_cases hc : s[k] = 63
      · have HC := Lib.hid (cut_at s k (by omega) hall.out (.inr ⟨hlt, hc⟩))
        have hc' : ((s[k].toNat : Int) == 63) = true := by rw [hc]; rfl
        clear hc
        go_wp2
        go_ret
        exact ⟨ret_string (bs_inj HC.out.1), rfl⟩
      · have hc' : ((s[k].toNat : Int) == 63) = false := beq_eq_false_iff_ne.2 fun e => hc (UInt8.toNat_inj.1 (by rw [show (63 : UInt8).toNat = 63 from rfl]; omega))
        have HN : Hid ((s[k] != 63) = true) := Lib.hid (by simpa using hc)
        clear hc
        go_wp2
        go_roundg (s.size - (k + 1))
        case measure => omega
        case rel => exact ⟨k + 1, by go_num, by omega, Lib.hid (by rw [take_all s k hlt, hall.out, HN.out]; rfl), rfl⟩
    · have hk' : k = s.size := by omega
      have HC := Lib.hid (cut_at s k (by omega) hall.out (.inl hk'))
      have HE : Hid (s.extract 0 k = s) := Lib.hid (by subst hk'; exact bs_inj ((Lib.extract_data _ _ _).trans (by rw [List.drop_zero, Nat.sub_zero, take_size])))
      go_wp2
      go_ret
      exact ⟨ret_string (by rw [HE.out] at HC; exact bs_inj HC.out.1), rfl⟩
set_option maxHeartbeats 2000000 in
theorem refBelow_calls (s p : ByteArray) (w : World) (hs : s.size ≤ maxLen) (hp : p.size ≤ maxLen) :
    Calls Try.prog 20 #[.string s, .string p] w fun e w' => e = .returned (.bool (belowB (bs s) (bs p))) ∧ w' = w := by
  unfold maxLen at hs hp
  go_enter Try.func20, Try.ntmps20
  go_wp2
  go_loopg [5] s.size (fun g i wr => ∃ k : Nat, i = .int .i64 k ∧ k + g = s.size ∧ Hid (((bs s).take k).all (· != 63) = true) ∧ wr = w)
  case atStart => exact ⟨0, rfl, by omega, Lib.hid rfl, rfl⟩
  case round =>
    obtain ⟨k, rfl, hk, hall, rfl⟩ := hrel
    by_cases hgo : ∃ h : k < s.size, ((s[k].toNat : Int) != 63) = true
    · obtain ⟨hlt, hne⟩ := hgo
      have HN := Lib.hid hne
      go_wp2
      go_roundg (s.size - (k + 1))
      case measure => omega
      case rel => 
        refine ⟨k + 1, by go_num, by omega, Lib.hid ?_, rfl⟩
        rw [take_all s k hlt, hall.out, Bool.true_and]
        have := HN.out
        simp only [bne_iff_ne] at this ⊢
        exact fun e => this (by rw [e]; rfl)
    · have he : k = s.size ∨ ∃ h : k < s.size, s[k] = 63 := by
        by_cases h : k < s.size
        · refine .inr ⟨h, ?_⟩
          have : ¬ ((s[k].toNat : Int) != 63) = true := fun e => hgo ⟨h, e⟩
          rw [bne_iff_ne, Decidable.not_not] at this
          exact UInt8.toNat_inj.1 (by rw [show (63 : UInt8).toNat = 63 from rfl]; omega)
        · exact .inl (by omega)
      have HC := Lib.hid (cut_at s k (by omega) hall.out he)
      have hc2 : k < s.size → ∀ h : k < s.size, ((s[k].toNat : Int) != 63) = false := fun h _ => by
        have : ¬ ((s[k].toNat : Int) != 63) = true := fun e => hgo ⟨h, e⟩
        simpa using this
      clear hgo he
      have HP : Hid ((s.extract 0 k).size = k) := Lib.hid HC.out.2
      by_cases hlt : k < s.size
      all_goals
        have hc3 := hc2
        clear hc2
        try have hc4 := hc3 hlt hlt
        clear hc3
        go_upto_region 5 with (fail)
        clear HP
        generalize s.extract 0 k = q at HC ⊢
        have hb : Hid (belowB (bs s) (bs p) = belowL (bs q) (bs p)) := by rw [HC.out.1]; exact Lib.hid rfl
        have hqs : q.size ≤ 9223372036854775807 := by have := HC.out.2; omega
        clear HC
        by_cases h1 : p.size ≤ q.size
        · have hbc := below_cut q p h1
          by_cases h2 : (bs p).isPrefixOf (bs q) = true
          · rw [h2] at hbc
            have H2 := Lib.hid h2; clear h2
            by_cases h3 : q.size = p.size
            · go_wp2
              go_ret
              exact ⟨ret_bool (by rw [hb.out, belowL, H2.out, bs_length, bs_length, h3]; simp), rfl⟩
            · have h3' : p.size < q.size := by omega
              have h4 := at_47 q p.size h3'
              by_cases h5 : ((q[p.size]).toNat : Int) = 47
              · have H4 := Lib.hid h4; clear h4
                go_wp2
                go_ret
                exact ⟨ret_bool (by rw [hb.out, belowL, H2.out, bs_length p, H4.out, beq_iff_eq.2 h5]; simp), rfl⟩
              · have h5' : (((q[p.size]).toNat : Int) == 47) = false := beq_eq_false_iff_ne.2 h5
                have h3b : ((q.size : Int) == (p.size : Int)) = false := beq_eq_false_iff_ne.2 (by omega)
                have H4 : Hid (((bs q)[p.size]? == some 47) = false) := Lib.hid (h4.trans h5')
                have H3 : Hid (((bs q).length == (bs p).length) = false) := Lib.hid (by rw [bs_length, bs_length, beq_eq_false_iff_ne]; exact h3)
                clear h4 h5
                by_cases h6 : 0 < p.size
                · have H6 := Lib.hid (last_47 p h6)
                  go_wp2
                  go_ret
                  exact ⟨ret_bool (by rw [hb.out, belowL, H2.out, H3.out, bs_length p, H4.out, H6.out]; rfl), rfl⟩
                · have H6 : Hid (((bs p).getLast? == some 47) = false) := Lib.hid (by rw [List.length_eq_zero_iff.1 (show (bs p).length = 0 by rw [bs_length]; omega)]; rfl)
                  go_wp2
                  go_ret
                  exact ⟨ret_bool (by rw [hb.out, belowL, H2.out, H3.out, bs_length p, H4.out, H6.out]; rfl), rfl⟩
          · have h2' : (bs p).isPrefixOf (bs q) = false := by simpa using h2
            rw [h2'] at hbc
            have H2 := Lib.hid h2'; clear h2 h2'
            go_wp2
            go_ret
            exact ⟨ret_bool (by rw [hb.out, belowL, H2.out]; rfl), rfl⟩
        · go_wp2
          go_ret
          exact ⟨ret_bool (by rw [hb.out, below_len (by rw [bs_length, bs_length]; omega)]), rfl⟩
end Go.Proofs.Ythdmibjeomhibaa
