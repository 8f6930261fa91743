/- What scripts are, in plain Lean: a deed's line, what a line may be, what a text may be; a text that is read is its deeds' text; no program in sight. -/
import Derived.Test.YtkodepckfdpaiaaDoorGs
import Derived.Lib.SplitLaws
import Derived.Lib.AtoiAll
import Derived.Lib.ItoaNum
namespace Go.Proofs.YtkodepckfdpaiaaDoor
set_option linter.unusedSimpArgs false
set_option linter.unusedVariables false
theorem nocc {s : List UInt8} {c : UInt8} {t : List UInt8} {j : Nat} (h : s[j]? ≠ some c) : Lib.occAt s (c :: t) j = false := by
  cases ho : Lib.occAt s (c :: t) j with
  | false => rfl
  | true => exact absurd (Lib.occAt_head rfl ho) h
theorem occ_app (pre sub r : List UInt8) : Lib.occAt (pre ++ (sub ++ r)) sub pre.length = true := by
  unfold Lib.occAt
  rw [List.drop_left, List.isPrefixOf_iff_prefix]
  exact List.prefix_append _ _
theorem get_pre {l r : List UInt8} {c : UInt8} {j : Nat} (h : c ∉ l) (hj : j < l.length) : (l ++ r)[j]? ≠ some c := fun e => by
  rw [List.getElem?_append_left hj] at e
  exact h (List.mem_of_getElem? e)
theorem idx_at (l r t : List UInt8) (c : UInt8) (h : c ∉ l) : Lib.index (l ++ (c :: t ++ r)) (c :: t) = l.length :=
  Lib.index_first (by simp) (occ_app l (c :: t) r) fun j hj => nocc (get_pre h hj)
theorem idx_no (l t : List UInt8) (c : UInt8) (h : c ∉ l) : Lib.index l (c :: t) = -1 :=
  Lib.index_none fun j _ => nocc fun e => h (List.mem_of_getElem? e)
theorem splitK_hit {s sep : List UInt8} {i : Nat} (k : Nat) (h : Lib.index s sep = i) : Lib.splitK sep 0 (k + 1) s = s.take i :: Lib.splitK sep 0 k (s.drop (i + sep.length)) := by
  have hm : ¬ (Lib.index s sep == -1) = true := fun e => by have := beq_iff_eq.1 e; omega
  rw [Lib.splitK, if_neg hm, show (Lib.index s sep).toNat = i by omega, Nat.add_zero]
theorem splitK_no {s sep : List UInt8} (k : Nat) (h : Lib.index s sep = -1) : Lib.splitK sep 0 k s = [s] := by
  cases k with
  | zero => rfl
  | succ k => rw [Lib.splitK, if_pos (beq_iff_eq.2 h)]
theorem split_hit {s sep : List UInt8} {i : Nat} (hs : sep ≠ []) (h : Lib.index s sep = i) : Lib.split s sep = s.take i :: Lib.split (s.drop (i + sep.length)) sep := by
  unfold Lib.split
  rw [Lib.count_hit hs h, Nat.add_comm 1, splitK_hit _ h]
theorem split_no {s sep : List UInt8} (h : Lib.index s sep = -1) : Lib.split s sep = [s] := by
  unfold Lib.split
  rw [Lib.count_miss h]; rfl
theorem u8_all (p : UInt8 → Bool) (h : ((List.range 256).all fun n => p (UInt8.ofNat n)) = true) (c : UInt8) : p c = true := by
  have := List.all_eq_true.1 h c.toNat (List.mem_range.2 c.toNat_lt)
  rwa [show UInt8.ofNat c.toNat = c by simp] at this
abbrev By := List UInt8
/-- A deed, apart from memory. -/
structure Dp where
  k : By
  i : Int
  s : Int
  n : Int
  o : Bool
  d : By
  deriving DecidableEq
def zeroD : Dp := ⟨[], 0, 0, 0, false, []⟩
def kAccept : By := [97, 99, 99, 101, 112, 116]
def kFeed : By := [102, 101, 101, 100]
def kTake : By := [116, 97, 107, 101]
def kDialed : By := [100, 105, 97, 108, 101, 100]
def kTick : By := [116, 105, 99, 107]
def kLose : By := [108, 111, 115, 101]
def kState : By := [115, 116, 97, 116, 101]
/-- What a deed of a kind has. -/
def whatOf (k : By) : Option By :=
  if k = kAccept then some [] else if k = kFeed then some [105, 115, 100] else if k = kTake then some [105, 115, 110] else if k = kDialed then some [105, 111]
  else if k = kTick then some [110] else if k = kLose then some [105, 115] else if k = kState then some [105] else none
def hexD : By := [48, 49, 50, 51, 52, 53, 54, 55, 56, 57, 97, 98, 99, 100, 101, 102]
def hexC (c : UInt8) : By := [hexD.getD (c.toNat / 16) 0, hexD.getD (c.toNat % 16) 0]
def hexB (l : By) : By := 120 :: l.flatMap hexC
def numB (n : Int) : Bool := decide (0 ≤ n) && decide (n ≤ 1000000)
/-- Has a deed a text? -/
def checkD (d : Dp) : Bool :=
  match whatOf d.k with
  | none => false
  | some w => (decide (d.i = 0) || (numB d.i && w.contains 105)) && (decide (d.s = 0) || (decide (d.s = 1) && w.contains 115)) && (decide (d.d = []) || (decide (d.d.length ≤ 2048) && w.contains 100)) &&
      (decide (d.n = 0) || (numB d.n && w.contains 110)) && (!d.o || w.contains 111)
def fieldD (d : Dp) (c : UInt8) : By :=
  if c = 105 then Lib.itoa d.i else if c = 115 then Lib.itoa d.s else if c = 110 then Lib.itoa d.n else if c = 100 then hexB d.d else if d.o then [49] else [48]
def lineD (d : Dp) : By := d.k ++ ((whatOf d.k).getD []).flatMap (fun c => 32 :: fieldD d c)
def textD (d : Dp) : By := lineD d ++ [10]
def digB (c : UInt8) : Option UInt8 := if Lib.indexByte hexD c < 0 then none else some (UInt8.ofNat (Lib.indexByte hexD c).toNat)
def pairsB : By → Option By
  | [] => some []
  | [_] => none
  | a :: b :: r => match digB a, digB b with
    | some x, some y => (pairsB r).map ((x * 16 + y) :: ·)
    | _, _ => none
def bytesB (l : By) : Option By :=
  match l with
  | 120 :: r => pairsB r
  | _ => none
def valA (p : By) : Int := match Lib.atoiAll p with
  | .ok v => v
  | .range => Lib.atoiSat p
  | _ => 0
def okA (p : By) : Bool := match Lib.atoiAll p with
  | .ok _ => true
  | _ => false
/-- One field of a line. -/
def setB (d : Dp) (c : UInt8) (p : By) : Option Dp :=
  if okA p || c == 100 then
    if c = 105 then some { d with i := valA p } else if c = 115 then some { d with s := valA p } else if c = 110 then some { d with n := valA p }
    else if c = 111 then some { d with o := valA p != 0 } else (bytesB p).map fun x => { d with d := x }
  else none
def setAll : Dp → By → List By → Option Dp
  | d, c :: w, p :: ps => (setB d c p).bind fun d => setAll d w ps
  | d, _, _ => some d
/-- The deed that a line may be. -/
def parseL (l : List By) : Option Dp :=
  match l with
  | [] => none
  | k :: ps => if ps.length = ((whatOf k).getD []).length then setAll { zeroD with k := k } ((whatOf k).getD []) ps else none
def parseB (s : By) : Dp := (parseL (Lib.split s [32])).getD zeroD
/-- The deeds of a text, or which line is wrong. -/
def readF : Nat → Nat → By → Except Nat (List Dp)
  | 0, _, _ => .ok []
  | f + 1, n, s =>
    if s = [] then .ok []
    else if checkD (parseB (Lib.cut s [10]).1) && (textD (parseB (Lib.cut s [10]).1)).isPrefixOf s then
      match readF f (n + 1) (Lib.cut s [10]).2.1 with
      | .ok l => .ok (parseB (Lib.cut s [10]).1 :: l)
      | .error e => .error e
    else .error n
theorem dec_step (u : Nat) : ∀ (acc : Nat) (r : By), acc * 10 ^ Lib.nDigits u + u < 1000000000000000000 → Lib.parseUint10 acc (Lib.decDigits u ++ r) = Lib.parseUint10 (acc * 10 ^ Lib.nDigits u + u) r := by
  induction u using Nat.strongRecOn with
  | _ u ih =>
    intro acc r h
    have one : ∀ (a d : Nat) (r : By), d < 10 → a * 10 + d < 1000000000000000000 → Lib.parseUint10 a (UInt8.ofNat (48 + d) :: r) = Lib.parseUint10 (a * 10 + d) r := fun a d r hd ha => by
      have hn : (UInt8.ofNat (48 + d)).toNat = 48 + d := by simp; omega
      rw [Lib.parseUint10, hn, if_pos (by omega), if_neg (by omega), if_neg (by omega), show 48 + d - 48 = d by omega]
    by_cases hu : u < 10
    · rw [Lib.nDigits_small hu] at h ⊢
      rw [Lib.decDigits, dif_pos hu, List.singleton_append, one _ _ _ hu (by omega)]
    · rw [Lib.nDigits_big hu, Nat.pow_succ] at h ⊢
      have hm : acc * (10 ^ Lib.nDigits (u / 10) * 10) = acc * 10 ^ Lib.nDigits (u / 10) * 10 := by rw [Nat.mul_assoc]
      rw [hm] at h ⊢
      rw [Lib.decDigits, dif_neg hu, List.append_assoc, ih (u / 10) (by omega) acc _ (by omega), List.singleton_append, one _ _ _ (by omega) (by omega)]
      congr 1
      omega
theorem dec_ne (u : Nat) : Lib.decDigits u ≠ [] := by
  rw [Lib.decDigits]
  split <;> simp
theorem dec_digit (u : Nat) : ∀ c ∈ Lib.decDigits u, 48 ≤ c.toNat ∧ c.toNat ≤ 57 := by
  induction u using Nat.strongRecOn with
  | _ u ih =>
    intro c hc
    have hn : ∀ d, d < 10 → (UInt8.ofNat (48 + d)).toNat = 48 + d := fun d hd => by simp; omega
    rw [Lib.decDigits] at hc
    split at hc
    · rename_i h
      rw [List.mem_singleton.1 hc, hn u h]; omega
    · rename_i h
      rcases List.mem_append.1 hc with hc | hc
      · exact ih (u / 10) (by omega) c hc
      · rw [List.mem_singleton.1 hc, hn _ (by omega)]; omega
theorem itoa_nat (u : Nat) : Lib.itoa (u : Int) = Lib.decDigits u := by
  unfold Lib.itoa
  rw [if_neg (by omega), Int.toNat_natCast]
theorem atoi_itoa (u : Nat) (h : u ≤ 1000000) : Lib.atoiAll (Lib.itoa (u : Int)) = .ok (u : Int) := by
  rw [itoa_nat]
  have hp : Lib.parseUint10 0 (Lib.decDigits u) = .ok u := by
    have := dec_step u 0 [] (by omega)
    rw [List.append_nil, Nat.zero_mul, Nat.zero_add] at this
    rw [this]; rfl
  have hd := dec_digit u
  have hne := dec_ne u
  cases hc : Lib.decDigits u with
  | nil => exact absurd hc hne
  | cons c r =>
    rw [hc] at hp hd
    have h1 := hd c List.mem_cons_self
    have hm : Lib.parseMag (c :: r) = .ok u := by
      unfold Lib.parseMag
      rw [if_neg (by simp), hp]
    have e43 : ¬ c.toNat = 43 := by omega
    have e45 : ¬ c.toNat = 45 := by omega
    unfold Lib.atoiAll
    simp only [e43, e45, or_self, if_false, false_and, not_false_eq_true, true_and]
    rw [hm]
    simp only
    rw [if_neg (by omega)]
theorem itoa_byte (u : Nat) : ∀ c ∈ Lib.itoa (u : Int), c ≠ 32 ∧ c ≠ 10 := by
  rw [itoa_nat]
  intro c hc
  have := dec_digit u c hc
  constructor <;> (intro e; subst e; simp at this)
theorem hexC_byte (c : UInt8) : ∀ x ∈ hexC c, x ≠ 32 ∧ x ≠ 10 := by
  have h := u8_all (fun c => (hexC c).all fun x => x != 32 && x != 10) (by decide +kernel) c
  intro x hx
  have := List.all_eq_true.1 h x hx
  simpa using this
theorem hexB_byte (l : By) : ∀ x ∈ hexB l, x ≠ 32 ∧ x ≠ 10 := by
  intro x hx
  rcases List.mem_cons.1 hx with rfl | hx
  · decide
  · obtain ⟨c, _, hc⟩ := List.mem_flatMap.1 hx
    exact hexC_byte c x hc
theorem hexC_back (c : UInt8) (r : By) : pairsB (hexC c ++ r) = (pairsB r).map (c :: ·) := by
  have h := u8_all (fun c => match hexC c with
    | [a, b] => (match digB a, digB b with
      | some x, some y => x * 16 + y == c
      | _, _ => false)
    | _ => false) (by decide +kernel) c
  have e : hexC c = [hexD.getD (c.toNat / 16) 0, hexD.getD (c.toNat % 16) 0] := rfl
  rw [e] at h ⊢
  simp only at h
  show pairsB (_ :: _ :: r) = _
  rw [pairsB]
  cases h1 : digB (hexD.getD (c.toNat / 16) 0) with
  | none => rw [h1] at h; cases h
  | some x =>
    cases h2 : digB (hexD.getD (c.toNat % 16) 0) with
    | none => rw [h1, h2] at h; cases h
    | some y =>
      rw [h1, h2] at h
      simp only at h ⊢
      rw [beq_iff_eq.1 h]
theorem hexB_back (l : By) : bytesB (hexB l) = some l := by
  show pairsB (l.flatMap hexC) = some l
  induction l with
  | nil => rfl
  | cons c l ih => rw [List.flatMap_cons, hexC_back, ih]; rfl
theorem split_sp (a : By) (fs : List By) (ha : 32 ∉ a) (hf : ∀ f ∈ fs, 32 ∉ f) : Lib.split (a ++ fs.flatMap (32 :: ·)) [32] = a :: fs := by
  induction fs generalizing a with
  | nil => rw [List.flatMap_nil, List.append_nil]; exact split_no (idx_no a [] 32 ha)
  | cons f fs ih =>
    have e : a ++ (f :: fs).flatMap (32 :: ·) = a ++ (32 :: [] ++ (f ++ fs.flatMap (32 :: ·))) := by simp
    rw [e, split_hit (by simp) (idx_at a _ [] 32 ha), List.take_left]
    congr 1
    rw [← List.drop_drop, List.drop_left]
    exact ih f (hf f List.mem_cons_self) fun g hg => hf g (List.mem_cons_of_mem _ hg)
theorem num_nat {n : Int} (h : n = 0 ∨ numB n = true) : ∃ u : Nat, n = u ∧ u ≤ 1000000 := by
  unfold numB at h
  simp only [Bool.and_eq_true, decide_eq_true_eq] at h
  exact ⟨n.toNat, by omega, by omega⟩
theorem what_k {k w : By} (h : whatOf k = some w) : (k = kAccept ∧ w = []) ∨ (k = kFeed ∧ w = [105, 115, 100]) ∨ (k = kTake ∧ w = [105, 115, 110]) ∨ (k = kDialed ∧ w = [105, 111]) ∨ (k = kTick ∧ w = [110]) ∨ (k = kLose ∧ w = [105, 115]) ∨ (k = kState ∧ w = [105]) := by
  unfold whatOf at h
  by_cases h1 : k = kAccept
  · rw [if_pos h1] at h; exact .inl ⟨h1, (Option.some.inj h).symm⟩
  rw [if_neg h1] at h
  by_cases h2 : k = kFeed
  · rw [if_pos h2] at h; exact .inr (.inl ⟨h2, (Option.some.inj h).symm⟩)
  rw [if_neg h2] at h
  by_cases h3 : k = kTake
  · rw [if_pos h3] at h; exact .inr (.inr (.inl ⟨h3, (Option.some.inj h).symm⟩))
  rw [if_neg h3] at h
  by_cases h4 : k = kDialed
  · rw [if_pos h4] at h; exact .inr (.inr (.inr (.inl ⟨h4, (Option.some.inj h).symm⟩)))
  rw [if_neg h4] at h
  by_cases h5 : k = kTick
  · rw [if_pos h5] at h; exact .inr (.inr (.inr (.inr (.inl ⟨h5, (Option.some.inj h).symm⟩))))
  rw [if_neg h5] at h
  by_cases h6 : k = kLose
  · rw [if_pos h6] at h; exact .inr (.inr (.inr (.inr (.inr (.inl ⟨h6, (Option.some.inj h).symm⟩)))))
  rw [if_neg h6] at h
  by_cases h7 : k = kState
  · rw [if_pos h7] at h; exact .inr (.inr (.inr (.inr (.inr (.inr ⟨h7, (Option.some.inj h).symm⟩)))))
  rw [if_neg h7] at h
  cases h
/-- What a deed that has a text is. -/
theorem check_parts {d : Dp} (h : checkD d = true) : ∃ w, whatOf d.k = some w ∧ (d.i = 0 ∨ (numB d.i = true ∧ 105 ∈ w)) ∧ (d.s = 0 ∨ (d.s = 1 ∧ 115 ∈ w)) ∧ (d.d = [] ∨ (d.d.length ≤ 2048 ∧ 100 ∈ w)) ∧ (d.n = 0 ∨ (numB d.n = true ∧ 110 ∈ w)) ∧ (d.o = false ∨ 111 ∈ w) := by
  unfold checkD at h
  cases hw : whatOf d.k with
  | none => rw [hw] at h; cases h
  | some w =>
    rw [hw] at h
    simp only [Bool.and_eq_true, Bool.or_eq_true, decide_eq_true_eq, List.contains_iff_mem, Bool.not_eq_true'] at h
    exact ⟨w, rfl, h.1.1.1.1, h.1.1.1.2, h.1.1.2, h.1.2, h.2⟩
theorem field_byte {d : Dp} (h : checkD d = true) (c : UInt8) : ∀ x ∈ fieldD d c, x ≠ 32 ∧ x ≠ 10 := by
  obtain ⟨w, hw, hi, hs, hd, hn, ho⟩ := check_parts h
  obtain ⟨ui, ei, _⟩ := num_nat (n := d.i) (hi.imp id (·.1))
  obtain ⟨un, en, _⟩ := num_nat (n := d.n) (hn.imp id (·.1))
  have es : ∃ u : Nat, d.s = u := by
    rcases hs with hs | hs
    · exact ⟨0, by rw [hs]; rfl⟩
    · exact ⟨1, by rw [hs.1]; rfl⟩
  obtain ⟨us, es⟩ := es
  unfold fieldD
  split
  · rw [ei]; exact itoa_byte _
  · split
    · rw [es]; exact itoa_byte _
    · split
      · rw [en]; exact itoa_byte _
      · split
        · exact hexB_byte _
        · split <;> (intro x hx; rw [List.mem_singleton.1 hx]; decide)
theorem kind_byte {k w : By} (h : whatOf k = some w) : ∀ x ∈ k, x ≠ 32 ∧ x ≠ 10 := by
  have hall : ∀ l : By, (l.all fun x => x != 32 && x != 10) = true → ∀ x ∈ l, x ≠ 32 ∧ x ≠ 10 := fun l e x hx => by
    have := List.all_eq_true.1 e x hx
    simpa using this
  rcases what_k h with ⟨rfl, _⟩ | ⟨rfl, _⟩ | ⟨rfl, _⟩ | ⟨rfl, _⟩ | ⟨rfl, _⟩ | ⟨rfl, _⟩ | ⟨rfl, _⟩ <;> exact hall _ (by decide)
theorem line_split {d : Dp} (h : checkD d = true) : Lib.split (lineD d) [32] = d.k :: ((whatOf d.k).getD []).map (fieldD d) := by
  obtain ⟨w, hw, _⟩ := check_parts h
  unfold lineD
  have e : ((whatOf d.k).getD []).flatMap (fun c => 32 :: fieldD d c) = (((whatOf d.k).getD []).map (fieldD d)).flatMap (32 :: ·) := by rw [List.flatMap_map]
  rw [e]
  refine split_sp _ _ (fun hm => (kind_byte hw _ hm).1 rfl) fun f hf => ?_
  obtain ⟨c, _, rfl⟩ := List.mem_map.1 hf
  exact fun hm => (field_byte h c _ hm).1 rfl
theorem line_no {d : Dp} (h : checkD d = true) : 10 ∉ lineD d := by
  obtain ⟨w, hw, _⟩ := check_parts h
  unfold lineD
  intro hm
  rcases List.mem_append.1 hm with hm | hm
  · exact (kind_byte hw _ hm).2 rfl
  · obtain ⟨c, _, hc⟩ := List.mem_flatMap.1 hm
    rcases List.mem_cons.1 hc with hc | hc
    · cases hc
    · exact (field_byte h c _ hc).2 rfl
theorem val_itoa (u : Nat) (h : u ≤ 1000000) : okA (Lib.itoa (u : Int)) = true ∧ valA (Lib.itoa (u : Int)) = u := by
  unfold okA valA
  rw [atoi_itoa u h]
  exact ⟨rfl, rfl⟩
theorem setB_i (e : Dp) (p : By) : setB e 105 p = if okA p then some { e with i := valA p } else none := by unfold setB; simp
theorem setB_s (e : Dp) (p : By) : setB e 115 p = if okA p then some { e with s := valA p } else none := by unfold setB; simp
theorem setB_n (e : Dp) (p : By) : setB e 110 p = if okA p then some { e with n := valA p } else none := by unfold setB; simp
theorem setB_o (e : Dp) (p : By) : setB e 111 p = if okA p then some { e with o := valA p != 0 } else none := by unfold setB; simp
theorem setB_d (e : Dp) (p : By) : setB e 100 p = (bytesB p).map fun x => { e with d := x } := by unfold setB; simp
theorem set_i (d e : Dp) (h : d.i = 0 ∨ numB d.i = true) : setB e 105 (fieldD d 105) = some { e with i := d.i } := by
  obtain ⟨u, eu, hu⟩ := num_nat h
  obtain ⟨h1, h2⟩ := val_itoa u hu
  have e1 : fieldD d 105 = Lib.itoa d.i := rfl
  rw [setB_i, e1, eu, if_pos h1, h2]
theorem set_n (d e : Dp) (h : d.n = 0 ∨ numB d.n = true) : setB e 110 (fieldD d 110) = some { e with n := d.n } := by
  obtain ⟨u, eu, hu⟩ := num_nat h
  obtain ⟨h1, h2⟩ := val_itoa u hu
  have e1 : fieldD d 110 = Lib.itoa d.n := rfl
  rw [setB_n, e1, eu, if_pos h1, h2]
theorem set_s (d e : Dp) (h : d.s = 0 ∨ d.s = 1) : setB e 115 (fieldD d 115) = some { e with s := d.s } := by
  have : ∃ u : Nat, d.s = u ∧ u ≤ 1000000 := ⟨d.s.toNat, by omega, by omega⟩
  obtain ⟨u, eu, hu⟩ := this
  obtain ⟨h1, h2⟩ := val_itoa u hu
  have e1 : fieldD d 115 = Lib.itoa d.s := rfl
  rw [setB_s, e1, eu, if_pos h1, h2]
theorem set_d (d e : Dp) : setB e 100 (fieldD d 100) = some { e with d := d.d } := by
  have e1 : fieldD d 100 = hexB d.d := rfl
  rw [setB_d, e1, hexB_back]; rfl
theorem set_o (d e : Dp) : setB e 111 (fieldD d 111) = some { e with o := d.o } := by
  have e1 : fieldD d 111 = if d.o then [49] else [48] := rfl
  rw [setB_o, e1]
  cases d.o <;> rfl
/-- A deed's line is read as itself. -/
theorem parse_line {d : Dp} (h : checkD d = true) : parseB (lineD d) = d := by
  obtain ⟨w, hw, hi, hs, hd, hn, ho⟩ := check_parts h
  have hi' : d.i = 0 ∨ numB d.i = true := hi.imp id (·.1)
  have hn' : d.n = 0 ∨ numB d.n = true := hn.imp id (·.1)
  have hs' : d.s = 0 ∨ d.s = 1 := hs.imp id (·.1)
  unfold parseB
  rw [line_split h]
  unfold parseL
  simp only [hw, Option.getD_some, List.length_map, if_true]
  have Si := fun e => set_i d e hi'
  have Sn := fun e => set_n d e hn'
  have Ss := fun e => set_s d e hs'
  have Sd := fun e => set_d d e
  have So := fun e => set_o d e
  clear hi' hn' hs'
  rcases what_k hw with ⟨_, rfl⟩ | ⟨_, rfl⟩ | ⟨_, rfl⟩ | ⟨_, rfl⟩ | ⟨_, rfl⟩ | ⟨_, rfl⟩ | ⟨_, rfl⟩ <;>
    simp only [List.map_cons, List.map_nil, setAll, Si, Sn, Ss, Sd, So, Option.bind_some, Option.getD_some, zeroD] <;>
    simp at hi hs hd hn ho <;> (clear Si Sn Ss Sd So h hw; obtain ⟨k, i, s, n, o, dd⟩ := d; simp_all)
theorem cut_line {l r : By} (h : 10 ∉ l) : Lib.cut (l ++ (10 :: r)) [10] = (l, r, true) := by
  have hi := idx_at l r [] 10 h
  have e : l ++ (10 :: r) = l ++ (10 :: [] ++ r) := rfl
  unfold Lib.cut
  rw [e, hi, if_pos (Int.natCast_nonneg _), Int.toNat_natCast, List.take_left, ← List.drop_drop, List.drop_left]; rfl
/-- Deeds' texts. -/
def allT (l : List Dp) : By := l.flatMap textD
theorem text_ne (d : Dp) : textD d ≠ [] := by unfold textD; simp
/-- One deed's text is read. -/
theorem read_one {d : Dp} (h : checkD d = true) (f n : Nat) (r : By) : readF (f + 1) n (textD d ++ r) = match readF f (n + 1) r with
    | .ok l => .ok (d :: l)
    | .error e => .error e := by
  have e : textD d ++ r = lineD d ++ (10 :: r) := by unfold textD; simp
  rw [readF, if_neg (by rw [List.append_eq_nil_iff]; exact fun h => text_ne d h.1)]
  have hc : Lib.cut (textD d ++ r) [10] = (lineD d, r, true) := by rw [e]; exact cut_line (line_no h)
  rw [hc]
  simp only [parse_line h, h, Bool.true_and]
  rw [if_pos (List.isPrefixOf_iff_prefix.2 (List.prefix_append _ _))]
theorem read_all (l : List Dp) (h : ∀ d ∈ l, checkD d = true) (f n : Nat) (r : By) : readF (l.length + f) n (allT l ++ r) = match readF f (n + l.length) r with
    | .ok m => .ok (l ++ m)
    | .error e => .error e := by
  induction l generalizing n with
  | nil =>
    have : allT [] ++ r = r := rfl
    rw [this, List.length_nil, Nat.zero_add, Nat.add_zero]
    cases readF f n r <;> rfl
  | cons d l ih =>
    have e : allT (d :: l) ++ r = textD d ++ (allT l ++ r) := by unfold allT; rw [List.flatMap_cons, List.append_assoc]
    rw [e, List.length_cons, show l.length + 1 + f = l.length + f + 1 by omega, read_one (h d List.mem_cons_self), ih (fun x hx => h x (List.mem_cons_of_mem _ hx)), show n + 1 + l.length = n + (l.length + 1) by omega]
    cases readF f (n + (l.length + 1)) r <;> rfl
/-- A text that is read is its deeds' text; else there are right lines ahead of the wrong one. -/
theorem read_spec : ∀ (f n : Nat) (s : By), s.length ≤ f → (∃ l, readF f n s = .ok l ∧ (∀ d ∈ l, checkD d = true) ∧ s = allT l) ∨
    (∃ (l : List Dp) (r : By), readF f n s = .error (n + l.length) ∧ (∀ d ∈ l, checkD d = true) ∧ s = allT l ++ r ∧ r ≠ [] ∧ (checkD (parseB (Lib.cut r [10]).1) && (textD (parseB (Lib.cut r [10]).1)).isPrefixOf r) = false)
  | 0, n, s, h => .inl ⟨[], rfl, (fun d hd => by cases hd), List.eq_nil_of_length_eq_zero (by omega)⟩
  | f + 1, n, s, h => by
    by_cases hs : s = []
    · subst hs
      exact .inl ⟨[], by rw [readF, if_pos rfl], (fun d hd => by cases hd), rfl⟩
    · by_cases hq : (checkD (parseB (Lib.cut s [10]).1) && (textD (parseB (Lib.cut s [10]).1)).isPrefixOf s) = true
      · obtain ⟨h1, h2⟩ := (Bool.and_eq_true _ _).mp hq
        obtain ⟨r, hr⟩ := List.isPrefixOf_iff_prefix.1 h2
        generalize parseB (Lib.cut s [10]).1 = d at h1 h2 hr
        subst hr
        have hl : r.length ≤ f := by
          rw [List.length_append] at h
          have := List.length_pos_iff.2 (text_ne d)
          omega
        rcases read_spec f (n + 1) r hl with ⟨l, g1, g2, g3⟩ | ⟨l, q, g1, g2, g3, g4, g5⟩
        · refine .inl ⟨d :: l, by rw [read_one h1, g1], fun x hx => ?_, ?_⟩
          · rcases List.mem_cons.1 hx with rfl | hx
            · exact h1
            · exact g2 x hx
          · rw [g3]; rfl
        · refine .inr ⟨d :: l, q, by rw [read_one h1, g1, List.length_cons, show n + (l.length + 1) = n + 1 + l.length by omega], fun x hx => ?_, ?_, g4, g5⟩
          · rcases List.mem_cons.1 hx with rfl | hx
            · exact h1
            · exact g2 x hx
          · rw [g3]
            unfold allT
            rw [List.flatMap_cons, List.append_assoc]
      · have hq' := Bool.eq_false_iff.2 hq
        exact .inr ⟨[], s, by rw [readF, if_neg hs, if_neg hq]; rfl, (fun d hd => by cases hd), rfl, hs, hq'⟩
/-- What script.Read tells. -/
def readD (s : By) : Except Nat (List Dp) := readF s.length 1 s
theorem allT_len (l : List Dp) : l.length ≤ (allT l).length := by
  induction l with
  | nil => exact Nat.le_refl _
  | cons d l ih =>
    unfold allT at ih ⊢
    rw [List.flatMap_cons, List.length_append, List.length_cons]
    have := List.length_pos_iff.2 (text_ne d)
    omega
theorem readD_all (l : List Dp) (h : ∀ d ∈ l, checkD d = true) : readD (allT l) = .ok l := by
  obtain ⟨f, hf⟩ : ∃ f, (allT l).length = l.length + f := ⟨(allT l).length - l.length, by have := allT_len l; omega⟩
  have := read_all l h f 1 []
  rw [List.append_nil] at this
  unfold readD
  rw [hf, this]
  have e : readF f (1 + l.length) [] = .ok [] := by
    cases f with
    | zero => rfl
    | succ f => rw [readF, if_pos rfl]
  rw [e]
  simp
theorem ten_split {a b x y : By} (ha : 10 ∉ a) (hb : 10 ∉ b) (h : a ++ (10 :: x) = b ++ (10 :: y)) : a = b ∧ x = y := by
  have h1 := cut_line (r := x) ha
  rw [h, cut_line hb] at h1
  have e1 := congrArg (·.1) h1
  have e2 := congrArg (·.2.1) h1
  exact ⟨e1.symm, e2.symm⟩
theorem text_cons (d : Dp) (r : By) : textD d ++ r = lineD d ++ (10 :: r) := by unfold textD; simp
theorem text_inj {a b : Dp} (ha : checkD a = true) (hb : checkD b = true) (h : textD a = textD b) : a = b := by
  have h' : lineD a ++ (10 :: []) = lineD b ++ (10 :: []) := h
  have := (ten_split (line_no ha) (line_no hb) h').1
  rw [← parse_line ha, this, parse_line hb]
theorem read_bad (l : List Dp) (h : ∀ d ∈ l, checkD d = true) (bad r : By) (hb : 10 ∉ bad) (hn : ∀ m, readD (bad ++ [10]) ≠ .ok m) : readD (allT l ++ (bad ++ (10 :: r))) = .error (l.length + 1) := by
  have hc : (checkD (parseB bad) && (textD (parseB bad)).isPrefixOf (bad ++ (10 :: r))) = false := by
    rw [Bool.eq_false_iff]
    intro hq
    obtain ⟨h1, h2⟩ := (Bool.and_eq_true _ _).mp hq
    obtain ⟨q, hq2⟩ := List.isPrefixOf_iff_prefix.1 h2
    rw [text_cons] at hq2
    have hl := (ten_split (line_no h1) hb hq2).1
    refine hn [parseB bad] ?_
    have e : bad ++ [10] = textD (parseB bad) ++ [] := by rw [List.append_nil]; unfold textD; rw [hl]
    unfold readD
    have hlen : (bad ++ [10]).length = bad.length + 1 := by simp
    rw [hlen, e, read_one h1]
    cases hb' : bad.length with
    | zero => rfl
    | succ k => rw [readF, if_pos rfl]
  have hlen : (allT l ++ (bad ++ (10 :: r))).length = l.length + ((allT l).length - l.length + bad.length + r.length + 1) := by
    have := allT_len l
    simp only [List.length_append, List.length_cons]
    omega
  unfold readD
  rw [hlen, read_all l h, readF, if_neg (by simp)]
  rw [cut_line hb]
  simp only [hc, Bool.false_eq_true, if_false]
  rw [Nat.add_comm]
theorem text_count (d : Dp) (h : checkD d = true) : (textD d).count 10 = 1 := by
  unfold textD
  rw [List.count_append, List.count_eq_zero.2 (line_no h)]; rfl
theorem allT_count (l : List Dp) (h : ∀ d ∈ l, checkD d = true) : (allT l).count 10 = l.length := by
  induction l with
  | nil => rfl
  | cons d l ih =>
    unfold allT at ih ⊢
    rw [List.flatMap_cons, List.count_append, text_count d (h d List.mem_cons_self), ih fun x hx => h x (List.mem_cons_of_mem _ hx), List.length_cons]
    omega
theorem allT_last (l : List Dp) : ∀ k, k < (allT l).length → 10 ∈ (allT l).drop k := by
  induction l with
  | nil => intro k hk; exact absurd hk (Nat.not_lt_zero _)
  | cons d l ih =>
    intro k hk
    have e : allT (d :: l) = textD d ++ allT l := by unfold allT; rw [List.flatMap_cons]
    rw [e, List.length_append] at hk
    rw [e, List.drop_append]
    by_cases hk2 : k < (textD d).length
    · refine List.mem_append_left _ ?_
      unfold textD at hk2 ⊢
      rw [List.length_append, List.length_singleton] at hk2
      rw [List.drop_append_of_le_length (by omega)]
      exact List.mem_append_right _ (by simp)
    · refine List.mem_append_right _ ?_
      exact ih _ (by omega)
theorem count_at (l : List Dp) (h : ∀ d ∈ l, checkD d = true) (r : By) (k : Nat) : (k < (allT l).length → ((allT l ++ r).take k).count 10 < l.length) ∧ ((allT l ++ r).take (allT l).length).count 10 = l.length := by
  have hc := allT_count l h
  refine ⟨fun hk => ?_, by rw [List.take_left]; exact hc⟩
  rw [List.take_append_of_le_length (by omega)]
  have h1 := List.count_append (a := (10 : UInt8)) (l₁ := (allT l).take k) (l₂ := (allT l).drop k)
  rw [List.take_append_drop, hc] at h1
  have h2 := List.count_pos_iff.2 (allT_last l k hk)
  omega
theorem count_take (s : By) (k : Nat) (h : k < s.length) : (s.take (k + 1)).count 10 = (s.take k).count 10 + if s[k] = 10 then 1 else 0 := by
  rw [List.take_succ_eq_append_getElem h, List.count_append]
  congr 1
  by_cases e : s[k] = 10
  · rw [if_pos e, e]; rfl
  · rw [if_neg e, List.count_eq_zero]
    simp [Ne.symm e]
end Go.Proofs.YtkodepckfdpaiaaDoor
