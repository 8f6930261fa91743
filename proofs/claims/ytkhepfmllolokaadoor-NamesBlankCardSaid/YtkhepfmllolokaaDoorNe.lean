/- A range over strings.SplitSeq at one byte, as one law of the walk: each piece goes once through the body; conditions: the body keeps the iterator's three variables. -/
import Derived.Test.YtkhepfmllolokaaDoorNd
namespace Go.Proofs.YtkhepfmllolokaaDoor
set_option linter.unusedSimpArgs false
set_option linter.unusedVariables false
open Go.RowKit Go.Shelf
theorem set_other (W : World) (b k : Nat) (v : Value) (h : k ≠ b) : (W.setCell ⟨b, 0, none⟩ v).heap[k]? = W.heap[k]? := by
  unfold World.setCell
  simp [Array.getElem?_modify, Ne.symm h]
theorem Keep3.put {a b c L : Nat} {W W' : World} (h : Keep3 a b c W W') (o : Obj) (ha : a ≠ L) (hb : b ≠ L) (hc : c ≠ L) : Keep3 a b c W (W'.putObj L o) :=
  ⟨(World.putObj_heap_other ha).trans h.1, (World.putObj_heap_other hb).trans h.2.1, (World.putObj_heap_other hc).trans h.2.2⟩
theorem Keep3.put0 {a b c L : Nat} (W : World) (o : Obj) (ha : a ≠ L) (hb : b ≠ L) (hc : c ≠ L) : Keep3 a b c W (W.putObj L o) := (Keep3.refl a b c W).put o ha hb hc
abbrev mark (D : Nat) : Deferred := { target := .collected D, args := #[] }
set_option maxHeartbeats 1000000 in
theorem rangeSplit {ps : Tmp} {assign body : Code} {g : Operand} {Q : Exit → Act → World → Prop} {a : Act} {w : World} (b1 bp bv : Nat) (h12 : b1 ≠ bp) (h13 : b1 ≠ bv) (s : ByteArray) (c : UInt8) (hs : s.size ≤ 1000000)
    (hl1 : b1 < w.heap.size) (hl2 : bp < w.heap.size) (hl3 : bv < w.heap.size)
    (hg : a.eval g = .func (.func 46) #[] #[.pointer (some ⟨bp, 0, none⟩), .pointer (some ⟨b1, 0, none⟩), .pointer (some ⟨bv, 0, none⟩)])
    (hb1 : Blk w b1 #[.string s] 9) (hb2 : Blk w bp #[.string ⟨#[c]⟩] 9) (hb3 : Blk w bv #[.int .i64 0] 3)
    (I : List ByteArray → World → Prop) (Ix : Code → List ByteArray → World → Prop) (hI : OwnFrom w.heap.size I) (hIx : ∀ c, OwnFrom w.heap.size (Ix c))
    (hIs : ∀ pre W v, I pre W → I pre (W.setCell ⟨b1, 0, none⟩ v)) (h0 : I [] w) (a₁ : ByteArray → Act)
    (hassign : ∀ (l : Nat) (x : ByteArray) (W : World) (K : Act → World → Prop), K (a₁ x) W →
      assign.wpIn (Fence.wide.inRound l) 3 Tryd.prog (Exit.then K (fun _ _ _ => False)) { tmps := a.tmps.setIfInBounds ps (.string x), defers := [] } W)
    (hbody : ∀ (l : Nat) (pre : List ByteArray) (x : ByteArray) (W : World), I pre W → x.size ≤ 1000000 → (∃ rest, splitC c (bs s) = bss (pre ++ [x]) ++ rest) → body.wpIn (Fence.wide.inRound l) 3 Tryd.prog (ownPostK (Keep3 b1 bp bv) I Ix (pre ++ [x]) W) (a₁ x) W)
    (hdone : ∀ (xs : List ByteArray) (W : World), bss xs = splitC c (bs s) → I xs W → W.heap[w.heap.size]? = some (.deferred (some [])) → Q .normal { a with defers := mark w.heap.size :: a.defers } W)
    (hstop : ∀ (c' : Code) (pre : List ByteArray) (W : World), (∃ rest, splitC c (bs s) = bss pre ++ rest) → Ix c' pre W → W.heap[w.heap.size]? = some (.deferred (some [])) → c'.wpIn Fence.wide 5 Tryd.prog Q { a with defers := mark w.heap.size :: a.defers } W) :
    (Code.rangeFunc g #[ps] assign body).wpIn Fence.wide 5 Tryd.prog Q a w := by
  refine wpIn_rangeFunc ?_
  intro fn hfn
  obtain ⟨rec, hrec⟩ : ∃ rec : LoopState → Option Code → Loop, rec = fun st pe => { state := st, pending := pe, fn, tmps := a.tmps, params := #[ps], assign, body, defers := w.heap.size } := ⟨_, rfl⟩
  obtain ⟨W1, hW1⟩ : ∃ W1, (w.alloc (.deferred (some []))).alloc (.loop (rec .ready none)) = W1 := ⟨_, rfl⟩
  have kept : ∀ k, k < w.heap.size → W1.heap[k]? = w.heap[k]? := fun k hk => by
    rw [← hW1]; exact (Below.heap_alloc _ _ k (by simp; omega)).trans (Below.heap_alloc _ _ k hk)
  have hL1 : W1.heap[w.heap.size + 1]? = some (.loop (rec .ready none)) := by
    rw [← hW1]; have := World.alloc_heap_new (w.alloc (.deferred (some []))) (.loop (rec .ready none)); rwa [World.size_alloc] at this
  have hK1 : W1.heap[w.heap.size]? = some (.deferred (some [])) := by
    rw [← hW1]; exact (Below.heap_alloc _ _ _ (by simp)).trans (World.alloc_heap_new w _)
  have hI1 : I [] W1 := by rw [← hW1]; exact hI.alloc _ (hI.alloc _ h0)
  refine ⟨w.heap.size + 1, [mark w.heap.size], W1, { target := .fn (.func 46) #[.pointer (some ⟨bp, 0, none⟩), .pointer (some ⟨b1, 0, none⟩), .pointer (some ⟨bv, 0, none⟩)], args := #[.func (.yield (w.heap.size + 1)) #[] #[]] }, W1, 46,
    #[.func (.yield (w.heap.size + 1)) #[] #[], .pointer (some ⟨bp, 0, none⟩), .pointer (some ⟨b1, 0, none⟩), .pointer (some ⟨bv, 0, none⟩)], W1, ?_, ?_, fun _ _ => trivial, ?_, fun _ => by omega, ?_⟩
  · rw [← hW1, hrec]; exact run_enterLoop_outer _ _ _ _ _
  · simp only [resolve, hg]
    simp [go_sem]
  · have e := enters_of Tryd.func46 (by kernel_rfl) rfl
    simp [invoke, go_sem, e]
  · refine (split_in 4 (by omega) (w.heap.size + 1) b1 bp bv h12 h13 s c hs
      (fun pre W => I pre W ∧ W.heap[w.heap.size + 1]? = some (.loop (rec .ready none)) ∧ W.heap[w.heap.size]? = some (.deferred (some [])))
      (fun pre W => ∃ c, Ix c pre W ∧ W.heap[w.heap.size + 1]? = some (.loop (rec .done (some c))) ∧ W.heap[w.heap.size]? = some (.deferred (some [])))
      (fun pre W v h => ⟨hIs pre W v h.1, (set_other W b1 _ v (by omega)).trans h.2.1, (set_other W b1 _ v (by omega)).trans h.2.2⟩) ?_ W1 ((kept _ hl1).trans hb1) ((kept _ hl2).trans hb2) ((kept _ hl3).trans hb3) ⟨hI1, hL1, hK1⟩).mono ?_
    · rintro pre x W ⟨hi, hl, hk⟩ hx hpre
      have hlt : w.heap.size + 1 < W.heap.size := (Array.getElem?_eq_some_iff.1 hl).1
      have hy := run_yield (P := Tryd.prog) (args := #[.string x]) hl (by rw [hrec]; rfl)
      rw [hrec] at hy
      have hz1 : (#[ps].zip #[Value.string x]).foldl (fun t (p, v) => t.setIfInBounds p v) a.tmps = a.tmps.setIfInBounds ps (.string x) := by simp
      simp only [hz1] at hy
      refine ⟨fn, _, assign, body, hy, ?_⟩
      show RoundIn Fence.wide 3 _ _ _ _ _ _ _ _
      refine roundIn_of_wpIn hfn ?_
      refine hassign _ x W _ ?_
      refine ⟨_, run_beginRound hl (by rw [hrec]), ?_⟩
      have hl2' : (W.putObj (w.heap.size + 1) (.loop { rec .ready none with state := .busy })).heap[w.heap.size + 1]? = some (.loop { rec .ready none with state := .busy }) := World.putObj_heap_same hlt
      have hk2 : (W.putObj (w.heap.size + 1) (.loop { rec .ready none with state := .busy })).heap[w.heap.size]? = some (.deferred (some [])) := (World.putObj_heap_other (by omega)).trans hk
      have hw2 : Keep3 b1 bp bv W (W.putObj (w.heap.size + 1) (.loop { rec .ready none with state := .busy })) := Keep3.put0 W _ (by omega) (by omega) (by omega)
      refine wpIn_mono (hbody _ pre x _ (hI.putObj _ hi (by omega) hl rfl) hx hpre) ?_
      have fin : ∀ (jump : Option Code) (W3 : World), KeepsOthers (W.putObj (w.heap.size + 1) (.loop { rec .ready none with state := .busy })) W3 →
          (Instr.endRound (w.heap.size + 1) jump).run Tryd.prog W3 = .ok (.bool jump.isNone) (W3.putObj (w.heap.size + 1) (.loop (rec (if jump.isNone then .ready else .done) jump))) ∧
          W3.heap[w.heap.size + 1]? = some (.loop { rec .ready none with state := .busy }) ∧
          (W3.putObj (w.heap.size + 1) (.loop (rec (if jump.isNone then .ready else .done) jump))).heap[w.heap.size + 1]? = some (.loop (rec (if jump.isNone then .ready else .done) jump)) ∧
          (W3.putObj (w.heap.size + 1) (.loop (rec (if jump.isNone then .ready else .done) jump))).heap[w.heap.size]? = some (.deferred (some [])) := fun jump W3 hk3 => by
        have hl3 := hk3.same _ _ hl2' rfl
        have he := run_endRound (P := Tryd.prog) jump hl3
        rw [hrec] at he hl3 ⊢
        exact ⟨he, hl3, World.putObj_heap_same (Array.getElem?_eq_some_iff.1 hl3).1, (World.putObj_heap_other (by omega)).trans (hk3.same _ _ hk2 rfl)⟩
      rintro e a3 W3 hp
      cases e with
      | normal =>
        obtain ⟨hk3, hkp3, hi3⟩ := hp
        obtain ⟨hr, hl3, hl4, hk4⟩ := fin none W3 hk3
        exact ⟨_, _, hr, .inl ⟨rfl, ⟨hI.putObj _ hi3 (by omega) hl3 rfl, hl4, hk4⟩, (hw2.trans hkp3).put _ (by omega) (by omega) (by omega)⟩⟩
      | ret =>
        obtain ⟨hk3, hi3⟩ := hp
        obtain ⟨hr, hl3, hl4, hk4⟩ := fin (some .ret) W3 hk3
        exact ⟨_, _, hr, .inr ⟨rfl, .ret, (hIx _).putObj _ hi3 (by omega) hl3 rfl, hl4, hk4⟩⟩
      | exit id =>
        obtain ⟨hk3, hi3⟩ := hp
        obtain ⟨hr, hl3, hl4, hk4⟩ := fin (some (.exit id)) W3 hk3
        exact ⟨_, _, hr, .inr ⟨rfl, .exit id, (hIx _).putObj _ hi3 (by omega) hl3 rfl, hl4, hk4⟩⟩
      | goto t =>
        obtain ⟨hk3, hi3⟩ := hp
        obtain ⟨hr, hl3, hl4, hk4⟩ := fin (some (.goto t)) W3 hk3
        exact ⟨_, _, hr, .inr ⟨rfl, .goto t, (hIx _).putObj _ hi3 (by omega) hl3 rfl, hl4, hk4⟩⟩
      | panic ch => exact hp.elim
      | outgrown => exact hp.elim
    · rintro e W2 ⟨⟨v, rfl⟩, (⟨xs, hS, hi, hl, hk⟩ | ⟨pre, rest, hSp, c', hi, hl, hk⟩)⟩
      · exact ⟨none, _, by have := run_endLoop (P := Tryd.prog) hl (by rw [hrec]; simp); rw [hrec] at this; exact this, hdone xs _ hS (hI.putObj _ hi (by omega) hl rfl) ((World.putObj_heap_other (by omega)).trans hk)⟩
      · exact ⟨some c', _, by have := run_endLoop (P := Tryd.prog) hl (by rw [hrec]; simp); rw [hrec] at this; exact this, hstop c' pre _ ⟨rest, hSp⟩ ((hIx c').putObj _ hi (by omega) hl rfl) ((World.putObj_heap_other (by omega)).trans hk)⟩
end Go.Proofs.YtkhepfmllolokaaDoor
