/-
  NARROWER THAN 'FOR EVERY INPUT', by the rows' own cells (each row's printed sentence says how): BasePuts: laid · BaseGets: laid · BaseApart: laid · BaseSizes: laid · BaseFours: laid · BaseTurned: laid · BaseHas: laid · BaseOnes: laid.
  DERIVED. THE GIVEN ROWS OF THIS SEAT. 8 by the template 'for every input the law returns true; each argument reads behind the call as it read before'; 0 by the template 'total and deterministic' (their statements: YtjlkdfgboklmhaaDoorTotals.lean).
  GIVEN WITH THE SEED: the statements are not yours to turn. If you find one false, say at which input.
  Laid BY PROGRAM, IN A SANDBOX (cutbox-rows.mjs): the forced cells as the released guide's own fill.sh prints them over the translation f8754807d518afc4… (all of the seat's roots in one cut). By AI agents, Wed Nov 11 2026. No macro, syntax, notation, axiom, sorry.
-/
import Derived.Test.YtjlkdfgboklmhaaDoorChecked
import GoSem.PinnedTables
import GoSem.Claim
import GoSem.ClaimJoined
import GoSem.ClaimMapViews
import Derived.JoinedTies
import Derived.KernelRfl
namespace Go.Proofs.YtjlkdfgboklmhaaDoor
/- THE CELL 'sum', in the pinned program and in every row, IS THE sha256 OF THE DUMP (.gsa) THAT YtjlkdfgboklmhaaDoorProg.lean LOADS. Nothing in Lean hashes anything: it is a label: what it is worth is what the hold of that sum in a sandbox is worth. -/
noncomputable def Tryd.pinned : Pinned := { name := "ytjlkdfgboklmhaadoor", sum := "f8754807d518afc4cc96536225b48d4492770e8dcfdd4312e6169713d0837f08", checked := Tryd.checked }
namespace Rows
def none {H : Type} : Left H := { results := [], args := [] }

/- WHAT THE LISTED PACKAGE-LEVEL VARIABLES READ AS WHEN THE CALL BEGINS. Each datum BY PROGRAM (the guide's laid-datum.mjs) off the statement by which the dump's own 'gosem.cut.vars' lays the variable. In a bare row this is a premise. The card (YtjlkdfgboklmhaaDoorCards.lean) ties it to the program's text. -/
def laid_unicode_utf8_acceptRanges {H : Type} : DataW H := .agg [.agg [.lit (.int .u8 128), .lit (.int .u8 191)], .agg [.lit (.int .u8 160), .lit (.int .u8 191)], .agg [.lit (.int .u8 128), .lit (.int .u8 159)], .agg [.lit (.int .u8 144), .lit (.int .u8 191)], .agg [.lit (.int .u8 128), .lit (.int .u8 143)], .agg [.lit (.int .u8 0), .lit (.int .u8 0)], .agg [.lit (.int .u8 0), .lit (.int .u8 0)], .agg [.lit (.int .u8 0), .lit (.int .u8 0)], .agg [.lit (.int .u8 0), .lit (.int .u8 0)], .agg [.lit (.int .u8 0), .lit (.int .u8 0)], .agg [.lit (.int .u8 0), .lit (.int .u8 0)], .agg [.lit (.int .u8 0), .lit (.int .u8 0)], .agg [.lit (.int .u8 0), .lit (.int .u8 0)], .agg [.lit (.int .u8 0), .lit (.int .u8 0)], .agg [.lit (.int .u8 0), .lit (.int .u8 0)], .agg [.lit (.int .u8 0), .lit (.int .u8 0)]]
/-- One of Go's own tables, pinned by name: the form's constant. -/
def laid_unicode_utf8_first : DataW Unit := Go.Pinned.utf8First

/-- 'pendentivelaw02.BasePuts': WHATEVER THE INPUT: true; the input reads as it did. -/
def basePutsSpec : ChangeSpec := { name := "basePuts", fn := fun _ => fun
  | [d] => { results := [.lit (.bool true)], args := [d] }
  | _ => none }
def basePutsRow : OpenClaim := { program := "ytjlkdfgboklmhaadoor", sum := "f8754807d518afc4cc96536225b48d4492770e8dcfdd4312e6169713d0837f08", func := "pendentive/pendentivelaw02.BasePuts", spec := "basePuts", inPlace := ["internal/bytealg.IndexByteString", "internal/bytealg.IndexString", "internal/abi.NoEscape"], unfollowed := true, recurses := true, named := ["unicode/utf8.first", "unicode/utf8.acceptRanges", "internal/bytealg.MaxLen"], apart := false, laid := [("unicode/utf8.acceptRanges", laid_unicode_utf8_acceptRanges), ("unicode/utf8.first", laid_unicode_utf8_first)] }
def BasePutsSaid : Prop := basePutsRow.holds Tryd.pinned (OpenSpec.ofChange basePutsSpec)

/-- ITS FALSE NEIGHBOUR: 'it returns false'. Refute it at one input. -/
def basePutsWrong : ChangeSpec := { name := "basePuts", fn := fun _ => fun
  | [d] => { results := [.lit (.bool false)], args := [d] }
  | _ => none }
def BasePutsWrongFalsely : Prop := basePutsRow.holds Tryd.pinned (OpenSpec.ofChange basePutsWrong)

/-- 'pendentivelaw02.BaseGets': WHATEVER THE INPUT: true; the input reads as it did. -/
def baseGetsSpec : ChangeSpec := { name := "baseGets", fn := fun _ => fun
  | [d1, d2] => { results := [.lit (.bool true)], args := [d1, d2] }
  | _ => none }
def baseGetsRow : OpenClaim := { program := "ytjlkdfgboklmhaadoor", sum := "f8754807d518afc4cc96536225b48d4492770e8dcfdd4312e6169713d0837f08", func := "pendentive/pendentivelaw02.BaseGets", spec := "baseGets", inPlace := ["internal/bytealg.IndexByteString", "internal/bytealg.IndexString", "internal/abi.NoEscape"], unfollowed := true, recurses := true, named := ["unicode/utf8.first", "unicode/utf8.acceptRanges", "internal/bytealg.MaxLen"], apart := false, laid := [("unicode/utf8.acceptRanges", laid_unicode_utf8_acceptRanges), ("unicode/utf8.first", laid_unicode_utf8_first)] }
def BaseGetsSaid : Prop := baseGetsRow.holds Tryd.pinned (OpenSpec.ofChange baseGetsSpec)

/-- ITS FALSE NEIGHBOUR: 'it returns false'. Refute it at one input. -/
def baseGetsWrong : ChangeSpec := { name := "baseGets", fn := fun _ => fun
  | [d1, d2] => { results := [.lit (.bool false)], args := [d1, d2] }
  | _ => none }
def BaseGetsWrongFalsely : Prop := baseGetsRow.holds Tryd.pinned (OpenSpec.ofChange baseGetsWrong)

/-- 'pendentivelaw02.BaseApart': WHATEVER THE INPUT: true; the input reads as it did. -/
def baseApartSpec : ChangeSpec := { name := "baseApart", fn := fun _ => fun
  | [d1, d2] => { results := [.lit (.bool true)], args := [d1, d2] }
  | _ => none }
def baseApartRow : OpenClaim := { program := "ytjlkdfgboklmhaadoor", sum := "f8754807d518afc4cc96536225b48d4492770e8dcfdd4312e6169713d0837f08", func := "pendentive/pendentivelaw02.BaseApart", spec := "baseApart", inPlace := ["internal/bytealg.IndexByteString", "internal/bytealg.IndexString", "internal/abi.NoEscape"], unfollowed := true, recurses := true, named := ["unicode/utf8.first", "unicode/utf8.acceptRanges", "internal/bytealg.MaxLen"], apart := false, laid := [("unicode/utf8.acceptRanges", laid_unicode_utf8_acceptRanges), ("unicode/utf8.first", laid_unicode_utf8_first)] }
def BaseApartSaid : Prop := baseApartRow.holds Tryd.pinned (OpenSpec.ofChange baseApartSpec)

/-- ITS FALSE NEIGHBOUR: 'it returns false'. Refute it at one input. -/
def baseApartWrong : ChangeSpec := { name := "baseApart", fn := fun _ => fun
  | [d1, d2] => { results := [.lit (.bool false)], args := [d1, d2] }
  | _ => none }
def BaseApartWrongFalsely : Prop := baseApartRow.holds Tryd.pinned (OpenSpec.ofChange baseApartWrong)

/-- 'pendentivelaw02.BaseSizes': WHATEVER THE INPUT: true; the input reads as it did. -/
def baseSizesSpec : ChangeSpec := { name := "baseSizes", fn := fun _ => fun
  | [d] => { results := [.lit (.bool true)], args := [d] }
  | _ => none }
def baseSizesRow : OpenClaim := { program := "ytjlkdfgboklmhaadoor", sum := "f8754807d518afc4cc96536225b48d4492770e8dcfdd4312e6169713d0837f08", func := "pendentive/pendentivelaw02.BaseSizes", spec := "baseSizes", inPlace := ["internal/bytealg.IndexByteString", "internal/bytealg.IndexString", "internal/abi.NoEscape"], unfollowed := true, recurses := true, named := ["unicode/utf8.first", "unicode/utf8.acceptRanges", "internal/bytealg.MaxLen"], apart := false, laid := [("unicode/utf8.acceptRanges", laid_unicode_utf8_acceptRanges), ("unicode/utf8.first", laid_unicode_utf8_first)] }
def BaseSizesSaid : Prop := baseSizesRow.holds Tryd.pinned (OpenSpec.ofChange baseSizesSpec)

/-- ITS FALSE NEIGHBOUR: 'it returns false'. Refute it at one input. -/
def baseSizesWrong : ChangeSpec := { name := "baseSizes", fn := fun _ => fun
  | [d] => { results := [.lit (.bool false)], args := [d] }
  | _ => none }
def BaseSizesWrongFalsely : Prop := baseSizesRow.holds Tryd.pinned (OpenSpec.ofChange baseSizesWrong)

/-- 'pendentivelaw02.BaseFours': WHATEVER THE INPUT: true; the input reads as it did. -/
def baseFoursSpec : ChangeSpec := { name := "baseFours", fn := fun _ => fun
  | [d] => { results := [.lit (.bool true)], args := [d] }
  | _ => none }
def baseFoursRow : OpenClaim := { program := "ytjlkdfgboklmhaadoor", sum := "f8754807d518afc4cc96536225b48d4492770e8dcfdd4312e6169713d0837f08", func := "pendentive/pendentivelaw02.BaseFours", spec := "baseFours", inPlace := ["internal/bytealg.IndexByteString", "internal/bytealg.IndexString", "internal/abi.NoEscape"], unfollowed := true, recurses := true, named := ["unicode/utf8.first", "unicode/utf8.acceptRanges", "internal/bytealg.MaxLen"], apart := false, laid := [("unicode/utf8.acceptRanges", laid_unicode_utf8_acceptRanges), ("unicode/utf8.first", laid_unicode_utf8_first)] }
def BaseFoursSaid : Prop := baseFoursRow.holds Tryd.pinned (OpenSpec.ofChange baseFoursSpec)

/-- ITS FALSE NEIGHBOUR: 'it returns false'. Refute it at one input. -/
def baseFoursWrong : ChangeSpec := { name := "baseFours", fn := fun _ => fun
  | [d] => { results := [.lit (.bool false)], args := [d] }
  | _ => none }
def BaseFoursWrongFalsely : Prop := baseFoursRow.holds Tryd.pinned (OpenSpec.ofChange baseFoursWrong)

/-- 'pendentivelaw02.BaseTurned': WHATEVER THE INPUT: true; the input reads as it did. -/
def baseTurnedSpec : ChangeSpec := { name := "baseTurned", fn := fun _ => fun
  | [d1, d2, d3] => { results := [.lit (.bool true)], args := [d1, d2, d3] }
  | _ => none }
def baseTurnedRow : OpenClaim := { program := "ytjlkdfgboklmhaadoor", sum := "f8754807d518afc4cc96536225b48d4492770e8dcfdd4312e6169713d0837f08", func := "pendentive/pendentivelaw02.BaseTurned", spec := "baseTurned", inPlace := ["internal/bytealg.IndexByteString", "internal/bytealg.IndexString", "internal/abi.NoEscape"], unfollowed := true, recurses := true, named := ["unicode/utf8.first", "unicode/utf8.acceptRanges", "internal/bytealg.MaxLen"], apart := false, laid := [("unicode/utf8.acceptRanges", laid_unicode_utf8_acceptRanges), ("unicode/utf8.first", laid_unicode_utf8_first)] }
def BaseTurnedSaid : Prop := baseTurnedRow.holds Tryd.pinned (OpenSpec.ofChange baseTurnedSpec)

/-- ITS FALSE NEIGHBOUR: 'it returns false'. Refute it at one input. -/
def baseTurnedWrong : ChangeSpec := { name := "baseTurned", fn := fun _ => fun
  | [d1, d2, d3] => { results := [.lit (.bool false)], args := [d1, d2, d3] }
  | _ => none }
def BaseTurnedWrongFalsely : Prop := baseTurnedRow.holds Tryd.pinned (OpenSpec.ofChange baseTurnedWrong)

/-- 'pendentivelaw02.BaseHas': WHATEVER THE INPUT: true; the input reads as it did. -/
def baseHasSpec : ChangeSpec := { name := "baseHas", fn := fun _ => fun
  | [d] => { results := [.lit (.bool true)], args := [d] }
  | _ => none }
def baseHasRow : OpenClaim := { program := "ytjlkdfgboklmhaadoor", sum := "f8754807d518afc4cc96536225b48d4492770e8dcfdd4312e6169713d0837f08", func := "pendentive/pendentivelaw02.BaseHas", spec := "baseHas", inPlace := ["internal/bytealg.IndexByteString", "internal/bytealg.IndexString", "internal/abi.NoEscape"], unfollowed := true, recurses := true, named := ["unicode/utf8.first", "unicode/utf8.acceptRanges", "internal/bytealg.MaxLen"], apart := false, laid := [("unicode/utf8.acceptRanges", laid_unicode_utf8_acceptRanges), ("unicode/utf8.first", laid_unicode_utf8_first)] }
def BaseHasSaid : Prop := baseHasRow.holds Tryd.pinned (OpenSpec.ofChange baseHasSpec)

/-- ITS FALSE NEIGHBOUR: 'it returns false'. Refute it at one input. -/
def baseHasWrong : ChangeSpec := { name := "baseHas", fn := fun _ => fun
  | [d] => { results := [.lit (.bool false)], args := [d] }
  | _ => none }
def BaseHasWrongFalsely : Prop := baseHasRow.holds Tryd.pinned (OpenSpec.ofChange baseHasWrong)

/-- 'pendentivelaw02.BaseOnes': WHATEVER THE INPUT: true; the input reads as it did. -/
def baseOnesSpec : ChangeSpec := { name := "baseOnes", fn := fun _ => fun
  | [d1, d2] => { results := [.lit (.bool true)], args := [d1, d2] }
  | _ => none }
def baseOnesRow : OpenClaim := { program := "ytjlkdfgboklmhaadoor", sum := "f8754807d518afc4cc96536225b48d4492770e8dcfdd4312e6169713d0837f08", func := "pendentive/pendentivelaw02.BaseOnes", spec := "baseOnes", inPlace := ["internal/abi.NoEscape", "internal/bytealg.IndexByteString", "internal/bytealg.IndexString"], unfollowed := true, recurses := true, named := ["unicode/utf8.first", "unicode/utf8.acceptRanges", "internal/bytealg.MaxLen"], apart := false, laid := [("unicode/utf8.acceptRanges", laid_unicode_utf8_acceptRanges), ("unicode/utf8.first", laid_unicode_utf8_first)] }
def BaseOnesSaid : Prop := baseOnesRow.holds Tryd.pinned (OpenSpec.ofChange baseOnesSpec)

/-- ITS FALSE NEIGHBOUR: 'it returns false'. Refute it at one input. -/
def baseOnesWrong : ChangeSpec := { name := "baseOnes", fn := fun _ => fun
  | [d1, d2] => { results := [.lit (.bool false)], args := [d1, d2] }
  | _ => none }
def BaseOnesWrongFalsely : Prop := baseOnesRow.holds Tryd.pinned (OpenSpec.ofChange baseOnesWrong)

/- THE SECOND FORM. 'bulk': how many values and letters a reading holds, each counted each time it is reached (what is shared counts as often as it is met; a slice's spare places count too). A statement '..UptoSaid' is the law's where the arguments, and the package variables that the reading takes, are together of bulk at most 1048576: NARROWER than '..Said'. Prove '..Said' where nothing that the law and all that it calls make is longer than what came in: it says more and counts as full. Else prove '..UptoSaid'. A law counts once. -/
mutual
def uptoBulk {H : Type} : DataW H → Nat
  | .lit (.string bytes) => bytes.length + 1
  | .lit _ => 1
  | .nil => 1
  | .ptr d => uptoBulk d + 1
  | .slice elems spare => uptoBulkAll elems + uptoBulkAll spare + 1
  | .agg parts => uptoBulkAll parts + 1
  | .iface _ d => uptoBulk d + 1
  | .map entries => uptoBulkEntries entries + 1
  | .held _ => 1
def uptoBulkAll {H : Type} : List (DataW H) → Nat
  | [] => 0
  | d :: r => uptoBulk d + uptoBulkAll r
def uptoBulkEntries {H : Type} : List (Lit × DataW H) → Nat
  | [] => 0
  | x :: r => uptoBulkEntry x + uptoBulkEntries r
def uptoBulkEntry {H : Type} : Lit × DataW H → Nat
  | (.string bytes, d) => bytes.length + uptoBulk d + 1
  | (_, d) => uptoBulk d + 1
 end
def uptoSmall : (H : Type) → List (DataW H) → Bool := fun _ ds => decide (uptoBulkAll ds ≤ 1048576)
def OpenSpec.upto (s : _root_.Go.ChangeSpec) : _root_.Go.OpenSpec := { _root_.Go.OpenSpec.ofChange s with cond := some uptoSmall }

/-- 'pendentivelaw02.BasePuts', WHERE WHAT IT READS IS OF BULK AT MOST 1048576: true; the input reads as it did. -/
def basePutsUptoRow : OpenClaim := { program := "ytjlkdfgboklmhaadoor", sum := "f8754807d518afc4cc96536225b48d4492770e8dcfdd4312e6169713d0837f08", func := "pendentive/pendentivelaw02.BasePuts", spec := "basePuts", inPlace := ["internal/bytealg.IndexByteString", "internal/bytealg.IndexString", "internal/abi.NoEscape"], unfollowed := true, recurses := true, named := ["unicode/utf8.first", "unicode/utf8.acceptRanges", "internal/bytealg.MaxLen"], apart := false, laid := [("unicode/utf8.acceptRanges", laid_unicode_utf8_acceptRanges), ("unicode/utf8.first", laid_unicode_utf8_first)], narrowed := true }
def BasePutsUptoSaid : Prop := basePutsUptoRow.holds Tryd.pinned (OpenSpec.upto basePutsSpec)

/-- 'pendentivelaw02.BaseGets', WHERE WHAT IT READS IS OF BULK AT MOST 1048576: true; the input reads as it did. -/
def baseGetsUptoRow : OpenClaim := { program := "ytjlkdfgboklmhaadoor", sum := "f8754807d518afc4cc96536225b48d4492770e8dcfdd4312e6169713d0837f08", func := "pendentive/pendentivelaw02.BaseGets", spec := "baseGets", inPlace := ["internal/bytealg.IndexByteString", "internal/bytealg.IndexString", "internal/abi.NoEscape"], unfollowed := true, recurses := true, named := ["unicode/utf8.first", "unicode/utf8.acceptRanges", "internal/bytealg.MaxLen"], apart := false, laid := [("unicode/utf8.acceptRanges", laid_unicode_utf8_acceptRanges), ("unicode/utf8.first", laid_unicode_utf8_first)], narrowed := true }
def BaseGetsUptoSaid : Prop := baseGetsUptoRow.holds Tryd.pinned (OpenSpec.upto baseGetsSpec)

/-- 'pendentivelaw02.BaseApart', WHERE WHAT IT READS IS OF BULK AT MOST 1048576: true; the input reads as it did. -/
def baseApartUptoRow : OpenClaim := { program := "ytjlkdfgboklmhaadoor", sum := "f8754807d518afc4cc96536225b48d4492770e8dcfdd4312e6169713d0837f08", func := "pendentive/pendentivelaw02.BaseApart", spec := "baseApart", inPlace := ["internal/bytealg.IndexByteString", "internal/bytealg.IndexString", "internal/abi.NoEscape"], unfollowed := true, recurses := true, named := ["unicode/utf8.first", "unicode/utf8.acceptRanges", "internal/bytealg.MaxLen"], apart := false, laid := [("unicode/utf8.acceptRanges", laid_unicode_utf8_acceptRanges), ("unicode/utf8.first", laid_unicode_utf8_first)], narrowed := true }
def BaseApartUptoSaid : Prop := baseApartUptoRow.holds Tryd.pinned (OpenSpec.upto baseApartSpec)

/-- 'pendentivelaw02.BaseSizes', WHERE WHAT IT READS IS OF BULK AT MOST 1048576: true; the input reads as it did. -/
def baseSizesUptoRow : OpenClaim := { program := "ytjlkdfgboklmhaadoor", sum := "f8754807d518afc4cc96536225b48d4492770e8dcfdd4312e6169713d0837f08", func := "pendentive/pendentivelaw02.BaseSizes", spec := "baseSizes", inPlace := ["internal/bytealg.IndexByteString", "internal/bytealg.IndexString", "internal/abi.NoEscape"], unfollowed := true, recurses := true, named := ["unicode/utf8.first", "unicode/utf8.acceptRanges", "internal/bytealg.MaxLen"], apart := false, laid := [("unicode/utf8.acceptRanges", laid_unicode_utf8_acceptRanges), ("unicode/utf8.first", laid_unicode_utf8_first)], narrowed := true }
def BaseSizesUptoSaid : Prop := baseSizesUptoRow.holds Tryd.pinned (OpenSpec.upto baseSizesSpec)

/-- 'pendentivelaw02.BaseFours', WHERE WHAT IT READS IS OF BULK AT MOST 1048576: true; the input reads as it did. -/
def baseFoursUptoRow : OpenClaim := { program := "ytjlkdfgboklmhaadoor", sum := "f8754807d518afc4cc96536225b48d4492770e8dcfdd4312e6169713d0837f08", func := "pendentive/pendentivelaw02.BaseFours", spec := "baseFours", inPlace := ["internal/bytealg.IndexByteString", "internal/bytealg.IndexString", "internal/abi.NoEscape"], unfollowed := true, recurses := true, named := ["unicode/utf8.first", "unicode/utf8.acceptRanges", "internal/bytealg.MaxLen"], apart := false, laid := [("unicode/utf8.acceptRanges", laid_unicode_utf8_acceptRanges), ("unicode/utf8.first", laid_unicode_utf8_first)], narrowed := true }
def BaseFoursUptoSaid : Prop := baseFoursUptoRow.holds Tryd.pinned (OpenSpec.upto baseFoursSpec)

/-- 'pendentivelaw02.BaseTurned', WHERE WHAT IT READS IS OF BULK AT MOST 1048576: true; the input reads as it did. -/
def baseTurnedUptoRow : OpenClaim := { program := "ytjlkdfgboklmhaadoor", sum := "f8754807d518afc4cc96536225b48d4492770e8dcfdd4312e6169713d0837f08", func := "pendentive/pendentivelaw02.BaseTurned", spec := "baseTurned", inPlace := ["internal/bytealg.IndexByteString", "internal/bytealg.IndexString", "internal/abi.NoEscape"], unfollowed := true, recurses := true, named := ["unicode/utf8.first", "unicode/utf8.acceptRanges", "internal/bytealg.MaxLen"], apart := false, laid := [("unicode/utf8.acceptRanges", laid_unicode_utf8_acceptRanges), ("unicode/utf8.first", laid_unicode_utf8_first)], narrowed := true }
def BaseTurnedUptoSaid : Prop := baseTurnedUptoRow.holds Tryd.pinned (OpenSpec.upto baseTurnedSpec)

/-- 'pendentivelaw02.BaseHas', WHERE WHAT IT READS IS OF BULK AT MOST 1048576: true; the input reads as it did. -/
def baseHasUptoRow : OpenClaim := { program := "ytjlkdfgboklmhaadoor", sum := "f8754807d518afc4cc96536225b48d4492770e8dcfdd4312e6169713d0837f08", func := "pendentive/pendentivelaw02.BaseHas", spec := "baseHas", inPlace := ["internal/bytealg.IndexByteString", "internal/bytealg.IndexString", "internal/abi.NoEscape"], unfollowed := true, recurses := true, named := ["unicode/utf8.first", "unicode/utf8.acceptRanges", "internal/bytealg.MaxLen"], apart := false, laid := [("unicode/utf8.acceptRanges", laid_unicode_utf8_acceptRanges), ("unicode/utf8.first", laid_unicode_utf8_first)], narrowed := true }
def BaseHasUptoSaid : Prop := baseHasUptoRow.holds Tryd.pinned (OpenSpec.upto baseHasSpec)

/-- 'pendentivelaw02.BaseOnes', WHERE WHAT IT READS IS OF BULK AT MOST 1048576: true; the input reads as it did. -/
def baseOnesUptoRow : OpenClaim := { program := "ytjlkdfgboklmhaadoor", sum := "f8754807d518afc4cc96536225b48d4492770e8dcfdd4312e6169713d0837f08", func := "pendentive/pendentivelaw02.BaseOnes", spec := "baseOnes", inPlace := ["internal/abi.NoEscape", "internal/bytealg.IndexByteString", "internal/bytealg.IndexString"], unfollowed := true, recurses := true, named := ["unicode/utf8.first", "unicode/utf8.acceptRanges", "internal/bytealg.MaxLen"], apart := false, laid := [("unicode/utf8.acceptRanges", laid_unicode_utf8_acceptRanges), ("unicode/utf8.first", laid_unicode_utf8_first)], narrowed := true }
def BaseOnesUptoSaid : Prop := baseOnesUptoRow.holds Tryd.pinned (OpenSpec.upto baseOnesSpec)

end Rows
end Go.Proofs.YtjlkdfgboklmhaaDoor
