/- What the walks lean on in the world; plain facts of a deed's line. -/
import Derived.Test.YtkodepckfdpaiaaDoorSh
import Derived.Lib.AppendIntMem
namespace Go.Proofs.YtkodepckfdpaiaaDoor
set_option linter.unusedSimpArgs false
set_option linter.unusedVariables false
open Go.RowKit
theorem var_below {n : String} {g : Nat} {cs : Array Value} {w w' : World} (hg : Tryd.prog.globalNamed n = some g) (h : w.var? Tryd.prog n = some cs) (hb : Below w.heap.size w w') : w'.var? Tryd.prog n = some cs := by
  unfold World.var? at h ⊢
  rw [hg] at h ⊢
  simp only [Option.bind_some] at h ⊢
  have hlt : g < w.heap.size := by
    rcases Nat.lt_or_ge g w.heap.size with h' | h'
    · exact h'
    · rw [Array.getElem?_eq_none h'] at h; cases h
  rw [hb.block g hlt]
  exact h
theorem g_tab : ∃ g, Tryd.prog.globalNamed "internal/strconv.uint64pow10" = some g := ⟨3, by kernel_rfl⟩
theorem g_es : ∃ g, Tryd.prog.globalNamed "strconv.ErrSyntax" = some g := ⟨1, by kernel_rfl⟩
theorem g_er : ∃ g, Tryd.prog.globalNamed "strconv.ErrRange" = some g := ⟨2, by kernel_rfl⟩
structure Env (w : World) : Prop where
  mx : MaxL w
  tab : Lib.TabIs Tryd.prog w "internal/strconv.uint64pow10" .u64 Lib.pow10Tab
  es : ∃ tp p, w.var? Tryd.prog "strconv.ErrSyntax" = some #[.iface tp p]
  er : ∃ tp p, w.var? Tryd.prog "strconv.ErrRange" = some #[.iface tp p]
theorem Env.below {w w1 : World} (h : Env w) (hb : Below w.heap.size w w1) : Env w1 := by
  obtain ⟨g1, e1⟩ := g_tab
  obtain ⟨g2, e2⟩ := g_es
  obtain ⟨g3, e3⟩ := g_er
  obtain ⟨t1, p1, h1⟩ := h.es
  obtain ⟨t2, p2, h2⟩ := h.er
  exact ⟨h.mx.below hb, var_below e1 h.tab hb, ⟨t1, p1, var_below e2 h1 hb⟩, ⟨t2, p2, var_below e3 h2 hb⟩⟩
theorem Itoa_calls (n : Int) (w : World) (h0 : -9223372036854775808 ≤ n) (h1 : n ≤ 9223372036854775807) (he : Env w) :
    Calls Tryd.prog 30 #[.int .i64 n] w fun e w' => e = .returned (.string (mk (Lib.itoa n))) ∧ Below w.heap.size w w' := by
  refine (Tryd.strconv_Itoa n h0 h1 w he.tab).mono ?_
  rintro e w' ⟨rfl, k, os, rfl⟩
  exact ⟨rfl, Lib.below_grow _ w (Nat.le_refl _) k os⟩
theorem what_letters {k w : By} (h : whatOf k = some w) : w.length ≤ 3 ∧ k.length ≤ 6 ∧ ∀ c ∈ w, c = 105 ∨ c = 115 ∨ c = 110 ∨ c = 100 ∨ c = 111 := by
  have hall : ∀ l : By, (l.all fun c => c == 105 || c == 115 || c == 110 || c == 100 || c == 111) = true → ∀ c ∈ l, c = 105 ∨ c = 115 ∨ c = 110 ∨ c = 100 ∨ c = 111 := fun l e x hx => by
    have := List.all_eq_true.1 e x hx
    simpa [or_assoc] using this
  rcases what_k h with ⟨rfl, rfl⟩ | ⟨rfl, rfl⟩ | ⟨rfl, rfl⟩ | ⟨rfl, rfl⟩ | ⟨rfl, rfl⟩ | ⟨rfl, rfl⟩ | ⟨rfl, rfl⟩ <;> exact ⟨by decide, by decide, hall _ (by decide)⟩
theorem check_bounds {d : Dp} (h : checkD d = true) : (0 ≤ d.i ∧ d.i ≤ 1000000) ∧ (0 ≤ d.s ∧ d.s ≤ 1) ∧ (0 ≤ d.n ∧ d.n ≤ 1000000) ∧ d.d.length ≤ 2048 := by
  obtain ⟨w, hw, hi, hs, hd, hn, ho⟩ := check_parts h
  unfold numB at hi hn
  simp only [Bool.and_eq_true, decide_eq_true_eq] at hi hn
  refine ⟨by omega, by omega, by omega, ?_⟩
  rcases hd with hd | hd
  · rw [hd]; simp
  · exact hd.1
theorem field_len {d : Dp} (h : checkD d = true) (c : UInt8) : (fieldD d c).length ≤ 4200 := by
  obtain ⟨hi, hs, hn, hd⟩ := check_bounds h
  have hit : ∀ n : Int, 0 ≤ n → n ≤ 1000000 → (Lib.itoa n).length ≤ 4200 := fun n h0 h1 => by
    have := itoa_len n.toNat (by omega)
    rw [Int.toNat_of_nonneg h0] at this
    omega
  unfold fieldD
  split
  · exact hit _ hi.1 hi.2
  · split
    · exact hit _ hs.1 (by omega)
    · split
      · exact hit _ hn.1 hn.2
      · split
        · rw [hexB_len]; omega
        · split <;> simp
theorem line_len {d : Dp} (h : checkD d = true) : (lineD d).length ≤ 20000 := by
  obtain ⟨w, hw, _⟩ := check_parts h
  obtain ⟨h1, h2, _⟩ := what_letters hw
  unfold lineD
  rw [hw, Option.getD_some, List.length_append]
  have : ∀ l : By, (l.flatMap (fun c => 32 :: fieldD d c)).length ≤ l.length * 4201 := fun l => by
    induction l with
    | nil => simp
    | cons c l ih =>
      rw [List.flatMap_cons, List.length_append, List.length_cons, List.length_cons]
      have := field_len h c
      omega
  have := this w
  omega
theorem join_sp (a : By) (fs : List By) : Lib.join (a :: fs) [32] = a ++ fs.flatMap (32 :: ·) := by
  unfold Lib.join
  induction fs generalizing a with
  | nil => simp [List.intercalate]
  | cons f fs ih =>
    have := ih f
    simp only [List.intercalate, List.intersperse, List.flatten_cons] at this ⊢
    rw [this]
    simp
theorem line_join (d : Dp) (w : By) (h : whatOf d.k = some w) : Lib.join (d.k :: w.map (fieldD d)) [32] = lineD d := by
  rw [join_sp]
  unfold lineD
  rw [h, Option.getD_some, List.flatMap_map]
end Go.Proofs.YtkodepckfdpaiaaDoor
