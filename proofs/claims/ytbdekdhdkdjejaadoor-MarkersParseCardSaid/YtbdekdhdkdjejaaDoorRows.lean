/-
  NARROWER THAN 'FOR EVERY INPUT', by the rows' own cells (each row's printed sentence says how): MarkersShow: laid · MarkersParse: laid · MarkersQuote: laid · MarkersInverse: laid · MarkersClean: laid · MarkersParts: laid · MarkersRoundTrip: laid · MarkersExact: laid.
  DERIVED. THE GIVEN ROWS OF THIS SEAT. 8 by the template 'for every input the law returns true; each argument reads behind the call as it read before'; 0 by the template 'total and deterministic' (their statements: YtbdekdhdkdjejaaDoorTotals.lean).
  GIVEN WITH THE SEED: the statements are not yours to turn. If you find one false, say at which input.
  Laid BY PROGRAM, IN A SANDBOX (cutbox-rows.mjs): the forced cells as the released guide's own fill.sh prints them over the translation 9146a09e1555e1c7… (all of the seat's roots in one cut). By AI agents, Wed Nov 11 2026. No macro, syntax, notation, axiom, sorry.
-/
import Derived.Test.YtbdekdhdkdjejaaDoorChecked
import GoSem.PinnedTables
import GoSem.Claim
import GoSem.ClaimJoined
import GoSem.ClaimMapViews
import Derived.JoinedTies
import Derived.KernelRfl
namespace Go.Proofs.YtbdekdhdkdjejaaDoor
/- THE CELL 'sum', in the pinned program and in every row, IS THE sha256 OF THE DUMP (.gsa) THAT YtbdekdhdkdjejaaDoorProg.lean LOADS. Nothing in Lean hashes anything: it is a label: what it is worth is what the hold of that sum in a sandbox is worth. -/
noncomputable def Tryd.pinned : Pinned := { name := "ytbdekdhdkdjejaadoor", sum := "9146a09e1555e1c7c7ec354c38df21f351028b2f5dd732d46744b608361b83cc", checked := Tryd.checked }
namespace Rows
def none {H : Type} : Left H := { results := [], args := [] }

/- WHAT THE LISTED PACKAGE-LEVEL VARIABLES READ AS WHEN THE CALL BEGINS. Each datum BY PROGRAM (the guide's laid-datum.mjs) off the statement by which the dump's own 'gosem.cut.vars' lays the variable. In a bare row this is a premise. The card (YtbdekdhdkdjejaaDoorCards.lean) ties it to the program's text. -/
def laid_unicode_utf8_acceptRanges {H : Type} : DataW H := .agg [.agg [.lit (.int .u8 128), .lit (.int .u8 191)], .agg [.lit (.int .u8 160), .lit (.int .u8 191)], .agg [.lit (.int .u8 128), .lit (.int .u8 159)], .agg [.lit (.int .u8 144), .lit (.int .u8 191)], .agg [.lit (.int .u8 128), .lit (.int .u8 143)], .agg [.lit (.int .u8 0), .lit (.int .u8 0)], .agg [.lit (.int .u8 0), .lit (.int .u8 0)], .agg [.lit (.int .u8 0), .lit (.int .u8 0)], .agg [.lit (.int .u8 0), .lit (.int .u8 0)], .agg [.lit (.int .u8 0), .lit (.int .u8 0)], .agg [.lit (.int .u8 0), .lit (.int .u8 0)], .agg [.lit (.int .u8 0), .lit (.int .u8 0)], .agg [.lit (.int .u8 0), .lit (.int .u8 0)], .agg [.lit (.int .u8 0), .lit (.int .u8 0)], .agg [.lit (.int .u8 0), .lit (.int .u8 0)], .agg [.lit (.int .u8 0), .lit (.int .u8 0)]]
/-- One of Go's own tables, pinned by name: the form's constant. -/
def laid_unicode_utf8_first : DataW Unit := Go.Pinned.utf8First

/-- 'quiltlaw22.MarkersShow': WHATEVER THE INPUT: true; the input reads as it did. -/
def markersShowSpec : ChangeSpec := { name := "markersShow", fn := fun _ => fun
  | [d] => { results := [.lit (.bool true)], args := [d] }
  | _ => none }
def markersShowRow : OpenClaim := { program := "ytbdekdhdkdjejaadoor", sum := "9146a09e1555e1c7c7ec354c38df21f351028b2f5dd732d46744b608361b83cc", func := "quilt/quiltlaw22.MarkersShow", spec := "markersShow", inPlace := ["internal/bytealg.IndexByteString", "internal/bytealg.IndexString", "internal/abi.NoEscape"], unfollowed := true, recurses := true, named := ["unicode/utf8.first", "unicode/utf8.acceptRanges", "internal/bytealg.MaxLen"], apart := false, laid := [("unicode/utf8.acceptRanges", laid_unicode_utf8_acceptRanges), ("unicode/utf8.first", laid_unicode_utf8_first)] }
def MarkersShowSaid : Prop := markersShowRow.holds Tryd.pinned (OpenSpec.ofChange markersShowSpec)

/-- ITS FALSE NEIGHBOUR: 'it returns false'. Refute it at one input. -/
def markersShowWrong : ChangeSpec := { name := "markersShow", fn := fun _ => fun
  | [d] => { results := [.lit (.bool false)], args := [d] }
  | _ => none }
def MarkersShowWrongFalsely : Prop := markersShowRow.holds Tryd.pinned (OpenSpec.ofChange markersShowWrong)

/-- 'quiltlaw22.MarkersParse': WHATEVER THE INPUT: true; the input reads as it did. -/
def markersParseSpec : ChangeSpec := { name := "markersParse", fn := fun _ => fun
  | [d] => { results := [.lit (.bool true)], args := [d] }
  | _ => none }
def markersParseRow : OpenClaim := { program := "ytbdekdhdkdjejaadoor", sum := "9146a09e1555e1c7c7ec354c38df21f351028b2f5dd732d46744b608361b83cc", func := "quilt/quiltlaw22.MarkersParse", spec := "markersParse", inPlace := ["internal/bytealg.IndexByteString", "internal/bytealg.IndexString", "internal/abi.NoEscape"], unfollowed := true, recurses := true, named := ["unicode/utf8.first", "unicode/utf8.acceptRanges", "internal/bytealg.MaxLen"], apart := false, laid := [("unicode/utf8.acceptRanges", laid_unicode_utf8_acceptRanges), ("unicode/utf8.first", laid_unicode_utf8_first)] }
def MarkersParseSaid : Prop := markersParseRow.holds Tryd.pinned (OpenSpec.ofChange markersParseSpec)

/-- ITS FALSE NEIGHBOUR: 'it returns false'. Refute it at one input. -/
def markersParseWrong : ChangeSpec := { name := "markersParse", fn := fun _ => fun
  | [d] => { results := [.lit (.bool false)], args := [d] }
  | _ => none }
def MarkersParseWrongFalsely : Prop := markersParseRow.holds Tryd.pinned (OpenSpec.ofChange markersParseWrong)

/-- 'quiltlaw22.MarkersQuote': WHATEVER THE INPUT: true; the input reads as it did. -/
def markersQuoteSpec : ChangeSpec := { name := "markersQuote", fn := fun _ => fun
  | [d] => { results := [.lit (.bool true)], args := [d] }
  | _ => none }
def markersQuoteRow : OpenClaim := { program := "ytbdekdhdkdjejaadoor", sum := "9146a09e1555e1c7c7ec354c38df21f351028b2f5dd732d46744b608361b83cc", func := "quilt/quiltlaw22.MarkersQuote", spec := "markersQuote", inPlace := ["internal/bytealg.IndexByteString", "internal/bytealg.IndexString", "internal/abi.NoEscape"], unfollowed := true, recurses := true, named := ["unicode/utf8.first", "unicode/utf8.acceptRanges", "internal/bytealg.MaxLen"], apart := false, laid := [("unicode/utf8.acceptRanges", laid_unicode_utf8_acceptRanges), ("unicode/utf8.first", laid_unicode_utf8_first)] }
def MarkersQuoteSaid : Prop := markersQuoteRow.holds Tryd.pinned (OpenSpec.ofChange markersQuoteSpec)

/-- ITS FALSE NEIGHBOUR: 'it returns false'. Refute it at one input. -/
def markersQuoteWrong : ChangeSpec := { name := "markersQuote", fn := fun _ => fun
  | [d] => { results := [.lit (.bool false)], args := [d] }
  | _ => none }
def MarkersQuoteWrongFalsely : Prop := markersQuoteRow.holds Tryd.pinned (OpenSpec.ofChange markersQuoteWrong)

/-- 'quiltlaw22.MarkersInverse': WHATEVER THE INPUT: true; the input reads as it did. -/
def markersInverseSpec : ChangeSpec := { name := "markersInverse", fn := fun _ => fun
  | [d1, d2] => { results := [.lit (.bool true)], args := [d1, d2] }
  | _ => none }
def markersInverseRow : OpenClaim := { program := "ytbdekdhdkdjejaadoor", sum := "9146a09e1555e1c7c7ec354c38df21f351028b2f5dd732d46744b608361b83cc", func := "quilt/quiltlaw22.MarkersInverse", spec := "markersInverse", inPlace := ["internal/bytealg.IndexByteString", "internal/bytealg.IndexString", "internal/abi.NoEscape"], unfollowed := true, recurses := true, named := ["unicode/utf8.first", "unicode/utf8.acceptRanges", "internal/bytealg.MaxLen"], apart := false, laid := [("unicode/utf8.acceptRanges", laid_unicode_utf8_acceptRanges), ("unicode/utf8.first", laid_unicode_utf8_first)] }
def MarkersInverseSaid : Prop := markersInverseRow.holds Tryd.pinned (OpenSpec.ofChange markersInverseSpec)

/-- ITS FALSE NEIGHBOUR: 'it returns false'. Refute it at one input. -/
def markersInverseWrong : ChangeSpec := { name := "markersInverse", fn := fun _ => fun
  | [d1, d2] => { results := [.lit (.bool false)], args := [d1, d2] }
  | _ => none }
def MarkersInverseWrongFalsely : Prop := markersInverseRow.holds Tryd.pinned (OpenSpec.ofChange markersInverseWrong)

/-- 'quiltlaw22.MarkersClean': WHATEVER THE INPUT: true; the input reads as it did. -/
def markersCleanSpec : ChangeSpec := { name := "markersClean", fn := fun _ => fun
  | [d] => { results := [.lit (.bool true)], args := [d] }
  | _ => none }
def markersCleanRow : OpenClaim := { program := "ytbdekdhdkdjejaadoor", sum := "9146a09e1555e1c7c7ec354c38df21f351028b2f5dd732d46744b608361b83cc", func := "quilt/quiltlaw22.MarkersClean", spec := "markersClean", inPlace := ["internal/bytealg.IndexByteString", "internal/bytealg.IndexString", "internal/abi.NoEscape"], unfollowed := true, recurses := true, named := ["unicode/utf8.first", "unicode/utf8.acceptRanges", "internal/bytealg.MaxLen"], apart := false, laid := [("unicode/utf8.acceptRanges", laid_unicode_utf8_acceptRanges), ("unicode/utf8.first", laid_unicode_utf8_first)] }
def MarkersCleanSaid : Prop := markersCleanRow.holds Tryd.pinned (OpenSpec.ofChange markersCleanSpec)

/-- ITS FALSE NEIGHBOUR: 'it returns false'. Refute it at one input. -/
def markersCleanWrong : ChangeSpec := { name := "markersClean", fn := fun _ => fun
  | [d] => { results := [.lit (.bool false)], args := [d] }
  | _ => none }
def MarkersCleanWrongFalsely : Prop := markersCleanRow.holds Tryd.pinned (OpenSpec.ofChange markersCleanWrong)

/-- 'quiltlaw22.MarkersParts': WHATEVER THE INPUT: true; the input reads as it did. -/
def markersPartsSpec : ChangeSpec := { name := "markersParts", fn := fun _ => fun
  | [d] => { results := [.lit (.bool true)], args := [d] }
  | _ => none }
def markersPartsRow : OpenClaim := { program := "ytbdekdhdkdjejaadoor", sum := "9146a09e1555e1c7c7ec354c38df21f351028b2f5dd732d46744b608361b83cc", func := "quilt/quiltlaw22.MarkersParts", spec := "markersParts", inPlace := ["internal/bytealg.IndexByteString", "internal/bytealg.IndexString", "internal/abi.NoEscape"], unfollowed := true, recurses := true, named := ["unicode/utf8.first", "unicode/utf8.acceptRanges", "internal/bytealg.MaxLen"], apart := false, laid := [("unicode/utf8.acceptRanges", laid_unicode_utf8_acceptRanges), ("unicode/utf8.first", laid_unicode_utf8_first)] }
def MarkersPartsSaid : Prop := markersPartsRow.holds Tryd.pinned (OpenSpec.ofChange markersPartsSpec)

/-- ITS FALSE NEIGHBOUR: 'it returns false'. Refute it at one input. -/
def markersPartsWrong : ChangeSpec := { name := "markersParts", fn := fun _ => fun
  | [d] => { results := [.lit (.bool false)], args := [d] }
  | _ => none }
def MarkersPartsWrongFalsely : Prop := markersPartsRow.holds Tryd.pinned (OpenSpec.ofChange markersPartsWrong)

/-- 'quiltlaw22.MarkersRoundTrip': WHATEVER THE INPUT: true; the input reads as it did. -/
def markersRoundTripSpec : ChangeSpec := { name := "markersRoundTrip", fn := fun _ => fun
  | [d] => { results := [.lit (.bool true)], args := [d] }
  | _ => none }
def markersRoundTripRow : OpenClaim := { program := "ytbdekdhdkdjejaadoor", sum := "9146a09e1555e1c7c7ec354c38df21f351028b2f5dd732d46744b608361b83cc", func := "quilt/quiltlaw22.MarkersRoundTrip", spec := "markersRoundTrip", inPlace := ["internal/bytealg.IndexByteString", "internal/bytealg.IndexString", "internal/abi.NoEscape"], unfollowed := true, recurses := true, named := ["unicode/utf8.first", "unicode/utf8.acceptRanges", "internal/bytealg.MaxLen"], apart := false, laid := [("unicode/utf8.acceptRanges", laid_unicode_utf8_acceptRanges), ("unicode/utf8.first", laid_unicode_utf8_first)] }
def MarkersRoundTripSaid : Prop := markersRoundTripRow.holds Tryd.pinned (OpenSpec.ofChange markersRoundTripSpec)

/-- ITS FALSE NEIGHBOUR: 'it returns false'. Refute it at one input. -/
def markersRoundTripWrong : ChangeSpec := { name := "markersRoundTrip", fn := fun _ => fun
  | [d] => { results := [.lit (.bool false)], args := [d] }
  | _ => none }
def MarkersRoundTripWrongFalsely : Prop := markersRoundTripRow.holds Tryd.pinned (OpenSpec.ofChange markersRoundTripWrong)

/-- 'quiltlaw22.MarkersExact': WHATEVER THE INPUT: true; the input reads as it did. -/
def markersExactSpec : ChangeSpec := { name := "markersExact", fn := fun _ => fun
  | [d] => { results := [.lit (.bool true)], args := [d] }
  | _ => none }
def markersExactRow : OpenClaim := { program := "ytbdekdhdkdjejaadoor", sum := "9146a09e1555e1c7c7ec354c38df21f351028b2f5dd732d46744b608361b83cc", func := "quilt/quiltlaw22.MarkersExact", spec := "markersExact", inPlace := ["internal/bytealg.IndexByteString", "internal/bytealg.IndexString", "internal/abi.NoEscape"], unfollowed := true, recurses := true, named := ["unicode/utf8.first", "unicode/utf8.acceptRanges", "internal/bytealg.MaxLen"], apart := false, laid := [("unicode/utf8.acceptRanges", laid_unicode_utf8_acceptRanges), ("unicode/utf8.first", laid_unicode_utf8_first)] }
def MarkersExactSaid : Prop := markersExactRow.holds Tryd.pinned (OpenSpec.ofChange markersExactSpec)

/-- ITS FALSE NEIGHBOUR: 'it returns false'. Refute it at one input. -/
def markersExactWrong : ChangeSpec := { name := "markersExact", fn := fun _ => fun
  | [d] => { results := [.lit (.bool false)], args := [d] }
  | _ => none }
def MarkersExactWrongFalsely : Prop := markersExactRow.holds Tryd.pinned (OpenSpec.ofChange markersExactWrong)

/- THE SECOND FORM. 'bulk': how many values and letters a reading holds, each counted each time it is reached (what is shared counts as often as it is met; a slice's spare places count too). A statement '..UptoSaid' is the law's where the arguments, and the package variables that the reading takes, are together of bulk at most 1048576: NARROWER than '..Said'. Prove '..Said' where nothing that the law and all that it calls make is longer than what came in: it says more and counts as full. Else prove '..UptoSaid'. A law counts once. -/
mutual
def uptoBulk {H : Type} : DataW H → Nat
  | .lit (.string bytes) => bytes.length + 1
  | .lit _ => 1
  | .nil => 1
  | .ptr d => uptoBulk d + 1
  | .slice elems spare => uptoBulkAll elems + uptoBulkAll spare + 1
  | .agg parts => uptoBulkAll parts + 1
  | .iface _ d => uptoBulk d + 1
  | .map entries => uptoBulkEntries entries + 1
  | .held _ => 1
def uptoBulkAll {H : Type} : List (DataW H) → Nat
  | [] => 0
  | d :: r => uptoBulk d + uptoBulkAll r
def uptoBulkEntries {H : Type} : List (Lit × DataW H) → Nat
  | [] => 0
  | x :: r => uptoBulkEntry x + uptoBulkEntries r
def uptoBulkEntry {H : Type} : Lit × DataW H → Nat
  | (.string bytes, d) => bytes.length + uptoBulk d + 1
  | (_, d) => uptoBulk d + 1
 end
def uptoSmall : (H : Type) → List (DataW H) → Bool := fun _ ds => decide (uptoBulkAll ds ≤ 1048576)
def OpenSpec.upto (s : _root_.Go.ChangeSpec) : _root_.Go.OpenSpec := { _root_.Go.OpenSpec.ofChange s with cond := some uptoSmall }

/-- 'quiltlaw22.MarkersShow', WHERE WHAT IT READS IS OF BULK AT MOST 1048576: true; the input reads as it did. -/
def markersShowUptoRow : OpenClaim := { program := "ytbdekdhdkdjejaadoor", sum := "9146a09e1555e1c7c7ec354c38df21f351028b2f5dd732d46744b608361b83cc", func := "quilt/quiltlaw22.MarkersShow", spec := "markersShow", inPlace := ["internal/bytealg.IndexByteString", "internal/bytealg.IndexString", "internal/abi.NoEscape"], unfollowed := true, recurses := true, named := ["unicode/utf8.first", "unicode/utf8.acceptRanges", "internal/bytealg.MaxLen"], apart := false, laid := [("unicode/utf8.acceptRanges", laid_unicode_utf8_acceptRanges), ("unicode/utf8.first", laid_unicode_utf8_first)], narrowed := true }
def MarkersShowUptoSaid : Prop := markersShowUptoRow.holds Tryd.pinned (OpenSpec.upto markersShowSpec)

/-- 'quiltlaw22.MarkersParse', WHERE WHAT IT READS IS OF BULK AT MOST 1048576: true; the input reads as it did. -/
def markersParseUptoRow : OpenClaim := { program := "ytbdekdhdkdjejaadoor", sum := "9146a09e1555e1c7c7ec354c38df21f351028b2f5dd732d46744b608361b83cc", func := "quilt/quiltlaw22.MarkersParse", spec := "markersParse", inPlace := ["internal/bytealg.IndexByteString", "internal/bytealg.IndexString", "internal/abi.NoEscape"], unfollowed := true, recurses := true, named := ["unicode/utf8.first", "unicode/utf8.acceptRanges", "internal/bytealg.MaxLen"], apart := false, laid := [("unicode/utf8.acceptRanges", laid_unicode_utf8_acceptRanges), ("unicode/utf8.first", laid_unicode_utf8_first)], narrowed := true }
def MarkersParseUptoSaid : Prop := markersParseUptoRow.holds Tryd.pinned (OpenSpec.upto markersParseSpec)

/-- 'quiltlaw22.MarkersQuote', WHERE WHAT IT READS IS OF BULK AT MOST 1048576: true; the input reads as it did. -/
def markersQuoteUptoRow : OpenClaim := { program := "ytbdekdhdkdjejaadoor", sum := "9146a09e1555e1c7c7ec354c38df21f351028b2f5dd732d46744b608361b83cc", func := "quilt/quiltlaw22.MarkersQuote", spec := "markersQuote", inPlace := ["internal/bytealg.IndexByteString", "internal/bytealg.IndexString", "internal/abi.NoEscape"], unfollowed := true, recurses := true, named := ["unicode/utf8.first", "unicode/utf8.acceptRanges", "internal/bytealg.MaxLen"], apart := false, laid := [("unicode/utf8.acceptRanges", laid_unicode_utf8_acceptRanges), ("unicode/utf8.first", laid_unicode_utf8_first)], narrowed := true }
def MarkersQuoteUptoSaid : Prop := markersQuoteUptoRow.holds Tryd.pinned (OpenSpec.upto markersQuoteSpec)

/-- 'quiltlaw22.MarkersInverse', WHERE WHAT IT READS IS OF BULK AT MOST 1048576: true; the input reads as it did. -/
def markersInverseUptoRow : OpenClaim := { program := "ytbdekdhdkdjejaadoor", sum := "9146a09e1555e1c7c7ec354c38df21f351028b2f5dd732d46744b608361b83cc", func := "quilt/quiltlaw22.MarkersInverse", spec := "markersInverse", inPlace := ["internal/bytealg.IndexByteString", "internal/bytealg.IndexString", "internal/abi.NoEscape"], unfollowed := true, recurses := true, named := ["unicode/utf8.first", "unicode/utf8.acceptRanges", "internal/bytealg.MaxLen"], apart := false, laid := [("unicode/utf8.acceptRanges", laid_unicode_utf8_acceptRanges), ("unicode/utf8.first", laid_unicode_utf8_first)], narrowed := true }
def MarkersInverseUptoSaid : Prop := markersInverseUptoRow.holds Tryd.pinned (OpenSpec.upto markersInverseSpec)

/-- 'quiltlaw22.MarkersClean', WHERE WHAT IT READS IS OF BULK AT MOST 1048576: true; the input reads as it did. -/
def markersCleanUptoRow : OpenClaim := { program := "ytbdekdhdkdjejaadoor", sum := "9146a09e1555e1c7c7ec354c38df21f351028b2f5dd732d46744b608361b83cc", func := "quilt/quiltlaw22.MarkersClean", spec := "markersClean", inPlace := ["internal/bytealg.IndexByteString", "internal/bytealg.IndexString", "internal/abi.NoEscape"], unfollowed := true, recurses := true, named := ["unicode/utf8.first", "unicode/utf8.acceptRanges", "internal/bytealg.MaxLen"], apart := false, laid := [("unicode/utf8.acceptRanges", laid_unicode_utf8_acceptRanges), ("unicode/utf8.first", laid_unicode_utf8_first)], narrowed := true }
def MarkersCleanUptoSaid : Prop := markersCleanUptoRow.holds Tryd.pinned (OpenSpec.upto markersCleanSpec)

/-- 'quiltlaw22.MarkersParts', WHERE WHAT IT READS IS OF BULK AT MOST 1048576: true; the input reads as it did. -/
def markersPartsUptoRow : OpenClaim := { program := "ytbdekdhdkdjejaadoor", sum := "9146a09e1555e1c7c7ec354c38df21f351028b2f5dd732d46744b608361b83cc", func := "quilt/quiltlaw22.MarkersParts", spec := "markersParts", inPlace := ["internal/bytealg.IndexByteString", "internal/bytealg.IndexString", "internal/abi.NoEscape"], unfollowed := true, recurses := true, named := ["unicode/utf8.first", "unicode/utf8.acceptRanges", "internal/bytealg.MaxLen"], apart := false, laid := [("unicode/utf8.acceptRanges", laid_unicode_utf8_acceptRanges), ("unicode/utf8.first", laid_unicode_utf8_first)], narrowed := true }
def MarkersPartsUptoSaid : Prop := markersPartsUptoRow.holds Tryd.pinned (OpenSpec.upto markersPartsSpec)

/-- 'quiltlaw22.MarkersRoundTrip', WHERE WHAT IT READS IS OF BULK AT MOST 1048576: true; the input reads as it did. -/
def markersRoundTripUptoRow : OpenClaim := { program := "ytbdekdhdkdjejaadoor", sum := "9146a09e1555e1c7c7ec354c38df21f351028b2f5dd732d46744b608361b83cc", func := "quilt/quiltlaw22.MarkersRoundTrip", spec := "markersRoundTrip", inPlace := ["internal/bytealg.IndexByteString", "internal/bytealg.IndexString", "internal/abi.NoEscape"], unfollowed := true, recurses := true, named := ["unicode/utf8.first", "unicode/utf8.acceptRanges", "internal/bytealg.MaxLen"], apart := false, laid := [("unicode/utf8.acceptRanges", laid_unicode_utf8_acceptRanges), ("unicode/utf8.first", laid_unicode_utf8_first)], narrowed := true }
def MarkersRoundTripUptoSaid : Prop := markersRoundTripUptoRow.holds Tryd.pinned (OpenSpec.upto markersRoundTripSpec)

/-- 'quiltlaw22.MarkersExact', WHERE WHAT IT READS IS OF BULK AT MOST 1048576: true; the input reads as it did. -/
def markersExactUptoRow : OpenClaim := { program := "ytbdekdhdkdjejaadoor", sum := "9146a09e1555e1c7c7ec354c38df21f351028b2f5dd732d46744b608361b83cc", func := "quilt/quiltlaw22.MarkersExact", spec := "markersExact", inPlace := ["internal/bytealg.IndexByteString", "internal/bytealg.IndexString", "internal/abi.NoEscape"], unfollowed := true, recurses := true, named := ["unicode/utf8.first", "unicode/utf8.acceptRanges", "internal/bytealg.MaxLen"], apart := false, laid := [("unicode/utf8.acceptRanges", laid_unicode_utf8_acceptRanges), ("unicode/utf8.first", laid_unicode_utf8_first)], narrowed := true }
def MarkersExactUptoSaid : Prop := markersExactUptoRow.holds Tryd.pinned (OpenSpec.upto markersExactSpec)

end Rows
end Go.Proofs.YtbdekdhdkdjejaaDoor
