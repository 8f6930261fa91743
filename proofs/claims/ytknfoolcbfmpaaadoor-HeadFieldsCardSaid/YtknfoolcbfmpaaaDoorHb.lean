/- Heads and fields in memory; whether a head may be, by the program; conditions: the fields can be read, strings of lengths that a world can hold. -/
import Derived.Test.YtknfoolcbfmpaaaDoorHa
namespace Go.Proofs.YtknfoolcbfmpaaaDoor
set_option linter.unusedSimpArgs false
set_option linter.unusedVariables false
open Go.RowKit
structure Fd where
  nm : ByteArray
  vl : ByteArray
  deriving DecidableEq
@[reducible] def Fd.val (f : Fd) : Value := .agg #[.string f.nm, .string f.vl]
@[reducible] def Fd.cells (f : Fd) : Array Value := #[.string f.nm, .string f.vl]
/-- A slice of fields that is read. -/
def Fds (w : World) (A : Option Addr) (l : List Fd) : Prop := ∀ i (h : i < l.length), ∃ b off, A = some ⟨b, off, none⟩ ∧
  w.cell? ⟨b, off + i * 2, none⟩ = some (.string l[i].nm) ∧ w.cell? ⟨b, off + i * 2 + 1, none⟩ = some (.string l[i].vl)
theorem Fds.below {w w1 : World} {A : Option Addr} {l : List Fd} (h : Fds w A l) (hb : Below w.heap.size w w1) : Fds w1 A l := fun i hi => by
  obtain ⟨b, off, e, h1, h2⟩ := h i hi
  have hc := (bcell hb).1 b
  exact ⟨b, off, e, (hc _ (cell_lt h1)).trans h1, (hc _ (cell_lt h2)).trans h2⟩
theorem Fds.nil (w : World) (A : Option Addr) : Fds w A [] := fun i hi => absurd hi (Nat.not_lt_zero _)
structure Hd where
  a : ByteArray
  b : ByteArray
  c : ByteArray
  A : Option Addr
  k : Nat
  fs : List Fd
@[reducible] def Hd.val (h : Hd) : Value := .agg #[.string h.a, .string h.b, .string h.c, .slice h.A h.fs.length h.k]
@[reducible] def Hd.cells (h : Hd) : Array Value := #[.string h.a, .string h.b, .string h.c, .slice h.A h.fs.length h.k]
/-- A head whose fields can be read; texts are not too great. -/
structure Hd.Ok (h : Hd) (w : World) : Prop where
  fl : h.fs.length ≤ 60
  la : h.a.size ≤ 100000
  lb : h.b.size ≤ 100000
  lc : h.c.size ≤ 100000
  fz : ∀ f ∈ h.fs, f.nm.size ≤ 100000 ∧ f.vl.size ≤ 100000
  fd : Fds w h.A h.fs
theorem Hd.Ok.below {h : Hd} {w w1 : World} (k : h.Ok w) (hb : Below w.heap.size w w1) : h.Ok w1 := ⟨k.fl, k.la, k.lb, k.lc, k.fz, k.fd.below hb⟩
/-- What a head is, apart from memory. -/
structure Pd where
  a : List UInt8
  b : List UInt8
  c : List UInt8
  fs : List (List UInt8 × List UInt8)
  deriving DecidableEq
def Fd.pd (f : Fd) : List UInt8 × List UInt8 := (bs f.nm, bs f.vl)
def Hd.pd (h : Hd) : Pd := ⟨bs h.a, bs h.b, bs h.c, h.fs.map Fd.pd⟩
def oddB (f : List UInt8 × List UInt8) : Bool := !tokB f.1 || !valueB f.2
def formP (h : Pd) : Bool := wordB h.a && wordB h.b && valueB h.c && !h.fs.any oddB
def sizeP (h : Pd) : Nat := h.a.length + h.b.length + h.c.length + 6 + (h.fs.map fun f => f.1.length + f.2.length + 4).sum
def checkP (h : Pd) : Int := if formP h = false then 52 else if 32 < h.fs.length ∨ 2048 < sizeP h then 51 else 0
theorem odd_calls (f : Fd) (w : World) (h1 : f.nm.size ≤ maxLen) (h2 : f.vl.size ≤ maxLen) :
    Calls Tryd.prog 31 #[f.val] w fun e w' => e = .returned (.bool (oddB f.pd)) ∧ Below w.heap.size w w' := by
  have ht := fun w => Token_calls f.nm w h1
  have hv := fun w => value_calls f.vl w h2
  have HO : Hid (oddB f.pd = (!tokB (bs f.nm) || !valueB (bs f.vl))) := Lib.hid rfl
  cases hk : tokB (bs f.nm) with
  | false =>
    rw [hk] at ht HO
    clear hk hv
    go_enter Tryd.func31, Tryd.ntmps31
    go_wp2_with (go_at_call 23; refine (ht _).mono ?_; rintro e w' ⟨rfl, rfl⟩)
    go_ret
    exact ⟨ret_bool (by rw [HO.out]; rfl), below_alloc1 _ _⟩
  | true =>
    rw [hk] at ht HO
    generalize valueB (bs f.vl) = q at hv HO
    clear hk
    go_enter Tryd.func31, Tryd.ntmps31
    go_wp2_with (first
      | (go_at_call 23; refine (ht _).mono ?_; rintro e w' ⟨rfl, rfl⟩)
      | (go_at_call 32; refine (hv _).mono ?_; rintro e w'' ⟨rfl, hb⟩; have HB := Lib.hid (bt (below_alloc1 _ _) hb); clear hb))
    go_ret
    exact ⟨ret_bool (by rw [HO.out]; rfl), HB.out⟩
set_option maxHeartbeats 2000000 in
theorem indexOdd_calls (A : Option Addr) (l : List Fd) (c : Nat) (w : World) (hl : l.length ≤ 1000) (hz : ∀ f ∈ l, f.nm.size ≤ maxLen ∧ f.vl.size ≤ maxLen) (hA : Fds w A l) :
    Calls Tryd.prog 54 #[.slice A l.length c, .func (.func 31) #[] #[]] w fun e w' => (∃ n : Int, e = .returned (.int .i64 n) ∧ decide (0 ≤ n) = (l.map Fd.pd).any oddB) ∧ Below w.heap.size w w' := by
  have hf := fun (k : Nat) (hk : k < l.length) w => odd_calls l[k] w (hz _ (List.getElem_mem hk)).1 (hz _ (List.getElem_mem hk)).2
  have HA := Lib.hid hA
  have HN : Hid (∀ k (h : k < l.length), oddB l[k].pd = true → (l.map Fd.pd).any oddB = true) := Lib.hid fun k h e => by
    rw [List.any_map]
    exact List.any_eq_true.2 ⟨l[k], List.getElem_mem h, e⟩
  clear hA hz
  go_enter Tryd.func54, Tryd.ntmps54
  go_wp2
  go_loopg [8] l.length (fun gh v8 wx => ∃ k : Nat, v8 = .int .i64 k ∧ k + gh = l.length ∧ Hid ((l.take k).any (fun f => oddB f.pd) = false) ∧ Hid (Below w.heap.size w wx))
  case atStart => exact ⟨0, rfl, by omega, Lib.hid rfl, Lib.hid (Below.refl _ _)⟩
  case round =>
    obtain ⟨k, rfl, hk, hall, HB⟩ := hrel
    by_cases hlt : k < l.length
    · obtain ⟨b, off, rfl, h0, h1⟩ := (HA.out.below HB.out) k hlt
      have hfk := hf k hlt
      cases hin : oddB l[k].pd
      all_goals
        have HI := Lib.hid hin
        rw [hin] at hfk
        clear hin
        go_wp2_with (go_at_call 31; refine (hfk _).mono ?_; rintro e w' ⟨rfl, hb⟩; replace HB := Lib.hid (bt HB.out hb); clear hb)
        first
          | (go_ret
             exact ⟨⟨_, rfl, by rw [HN.out k hlt HI.out]; exact decide_eq_true (by omega)⟩, HB.out⟩)
          | (go_roundg (l.length - (k + 1))
             case measure => omega
             case rel => exact ⟨k + 1, by go_num, by omega, Lib.hid (by rw [any_take l k hlt, hall.out, HI.out]; rfl), HB⟩)
    · have hall' := hall.out
      rw [List.take_of_length_le (by omega)] at hall'
      have HE := Lib.hid hall'; clear hall' hall
      go_wp2
      go_ret
      exact ⟨⟨-1, rfl, by rw [List.any_map]; exact (HE.out).symm⟩, HB.out⟩
theorem containsOdd_calls (A : Option Addr) (l : List Fd) (c : Nat) (w : World) (hl : l.length ≤ 1000) (hz : ∀ f ∈ l, f.nm.size ≤ maxLen ∧ f.vl.size ≤ maxLen) (hA : Fds w A l) :
    Calls Tryd.prog 34 #[.slice A l.length c, .func (.func 31) #[] #[]] w fun e w' => e = .returned (.bool ((l.map Fd.pd).any oddB)) ∧ Below w.heap.size w w' := by
  have hi := indexOdd_calls A l c w hl hz hA
  clear hz hA hl
  go_enter Tryd.func34, Tryd.ntmps34
  go_wp2_with (go_at_call 54; refine hi.mono ?_; rintro e w' ⟨⟨n, rfl, hn⟩, hb⟩; have HB := Lib.hid hb; have HN := Lib.hid hn; clear hb hn)
  go_ret
  exact ⟨ret_bool HN.out, HB.out⟩
end Go.Proofs.YtknfoolcbfmpaaaDoor
