/-
  No cell of these rows narrows 'for every input' (looked for: loops, veiled, ifaces, maps, wideKeys, modest, calm, conditions, laid).
  DERIVED. THE GIVEN ROWS OF THIS SEAT. 8 by the template 'for every input the law returns true; each argument reads behind the call as it read before'; 0 by the template 'total and deterministic' (their statements: YtiipiaebclljeaaTotals.lean).
  GIVEN WITH THE SEED: the statements are not yours to turn. If you find one false, say at which input.
  Laid BY PROGRAM, IN A SANDBOX (cutbox-rows.mjs): the forced cells as the released guide's own fill.sh prints them over the translation 9345c37efbbef33c… (all of the seat's roots in one cut). By AI agents, Wed Nov 11 2026. No macro, syntax, notation, axiom, sorry.
-/
import Derived.Test.YtiipiaebclljeaaChecked
import GoSem.Claim
import GoSem.ClaimJoined
import GoSem.ClaimMapViews
import Derived.JoinedTies
import Derived.KernelRfl
namespace Go.Proofs.Ytiipiaebclljeaa
/- THE CELL 'sum', in the pinned program and in every row, IS THE sha256 OF THE DUMP (.gsa) THAT YtiipiaebclljeaaProg.lean LOADS. Nothing in Lean hashes anything: it is a label: what it is worth is what the hold of that sum in a sandbox is worth. -/
noncomputable def Try.pinned : Pinned := { name := "ytiipiaebclljeaa", sum := "9345c37efbbef33c602b4689579a99414d9dd4a5cf4575acf5e7a144d9312edc", checked := Try.checked }
namespace Rows
def none {H : Type} : Left H := { results := [], args := [] }

/-- 'quiltlaw04.LinesWords': WHATEVER THE INPUT: true; the input reads as it did. -/
def linesWordsSpec : ChangeSpec := { name := "linesWords", fn := fun _ => fun
  | [d1, d2, d3] => { results := [.lit (.bool true)], args := [d1, d2, d3] }
  | _ => none }
def linesWordsRow : OpenClaim := { program := "ytiipiaebclljeaa", sum := "9345c37efbbef33c602b4689579a99414d9dd4a5cf4575acf5e7a144d9312edc", func := "quilt/quiltlaw04.LinesWords", spec := "linesWords", inPlace := ["internal/bytealg.IndexByteString"], unfollowed := true, recurses := true, apart := false }
def LinesWordsSaid : Prop := linesWordsRow.holds Try.pinned (OpenSpec.ofChange linesWordsSpec)

/-- ITS FALSE NEIGHBOUR: 'it returns false'. Refute it at one input. -/
def linesWordsWrong : ChangeSpec := { name := "linesWords", fn := fun _ => fun
  | [d1, d2, d3] => { results := [.lit (.bool false)], args := [d1, d2, d3] }
  | _ => none }
def LinesWordsWrongFalsely : Prop := linesWordsRow.holds Try.pinned (OpenSpec.ofChange linesWordsWrong)

/-- 'quiltlaw04.LinesWhole': WHATEVER THE INPUT: true; the input reads as it did. -/
def linesWholeSpec : ChangeSpec := { name := "linesWhole", fn := fun _ => fun
  | [d] => { results := [.lit (.bool true)], args := [d] }
  | _ => none }
def linesWholeRow : OpenClaim := { program := "ytiipiaebclljeaa", sum := "9345c37efbbef33c602b4689579a99414d9dd4a5cf4575acf5e7a144d9312edc", func := "quilt/quiltlaw04.LinesWhole", spec := "linesWhole", inPlace := ["internal/bytealg.IndexByteString"], unfollowed := true, recurses := true, apart := false }
def LinesWholeSaid : Prop := linesWholeRow.holds Try.pinned (OpenSpec.ofChange linesWholeSpec)

/-- ITS FALSE NEIGHBOUR: 'it returns false'. Refute it at one input. -/
def linesWholeWrong : ChangeSpec := { name := "linesWhole", fn := fun _ => fun
  | [d] => { results := [.lit (.bool false)], args := [d] }
  | _ => none }
def LinesWholeWrongFalsely : Prop := linesWholeRow.holds Try.pinned (OpenSpec.ofChange linesWholeWrong)

/-- 'quiltlaw04.LinesEnds': WHATEVER THE INPUT: true; the input reads as it did. -/
def linesEndsSpec : ChangeSpec := { name := "linesEnds", fn := fun _ => fun
  | [d1, d2] => { results := [.lit (.bool true)], args := [d1, d2] }
  | _ => none }
def linesEndsRow : OpenClaim := { program := "ytiipiaebclljeaa", sum := "9345c37efbbef33c602b4689579a99414d9dd4a5cf4575acf5e7a144d9312edc", func := "quilt/quiltlaw04.LinesEnds", spec := "linesEnds", inPlace := ["internal/bytealg.IndexByteString"], unfollowed := true, recurses := true, apart := false }
def LinesEndsSaid : Prop := linesEndsRow.holds Try.pinned (OpenSpec.ofChange linesEndsSpec)

/-- ITS FALSE NEIGHBOUR: 'it returns false'. Refute it at one input. -/
def linesEndsWrong : ChangeSpec := { name := "linesEnds", fn := fun _ => fun
  | [d1, d2] => { results := [.lit (.bool false)], args := [d1, d2] }
  | _ => none }
def LinesEndsWrongFalsely : Prop := linesEndsRow.holds Try.pinned (OpenSpec.ofChange linesEndsWrong)

/-- 'quiltlaw04.LinesConcat': WHATEVER THE INPUT: true; the input reads as it did. -/
def linesConcatSpec : ChangeSpec := { name := "linesConcat", fn := fun _ => fun
  | [d1, d2] => { results := [.lit (.bool true)], args := [d1, d2] }
  | _ => none }
def linesConcatRow : OpenClaim := { program := "ytiipiaebclljeaa", sum := "9345c37efbbef33c602b4689579a99414d9dd4a5cf4575acf5e7a144d9312edc", func := "quilt/quiltlaw04.LinesConcat", spec := "linesConcat", inPlace := ["internal/bytealg.IndexByteString"], unfollowed := true, recurses := true, apart := false }
def LinesConcatSaid : Prop := linesConcatRow.holds Try.pinned (OpenSpec.ofChange linesConcatSpec)

/-- ITS FALSE NEIGHBOUR: 'it returns false'. Refute it at one input. -/
def linesConcatWrong : ChangeSpec := { name := "linesConcat", fn := fun _ => fun
  | [d1, d2] => { results := [.lit (.bool false)], args := [d1, d2] }
  | _ => none }
def LinesConcatWrongFalsely : Prop := linesConcatRow.holds Try.pinned (OpenSpec.ofChange linesConcatWrong)

/-- 'quiltlaw04.LinesSplit': WHATEVER THE INPUT: true; the input reads as it did. -/
def linesSplitSpec : ChangeSpec := { name := "linesSplit", fn := fun _ => fun
  | [d] => { results := [.lit (.bool true)], args := [d] }
  | _ => none }
def linesSplitRow : OpenClaim := { program := "ytiipiaebclljeaa", sum := "9345c37efbbef33c602b4689579a99414d9dd4a5cf4575acf5e7a144d9312edc", func := "quilt/quiltlaw04.LinesSplit", spec := "linesSplit", inPlace := ["internal/bytealg.IndexByteString"], unfollowed := true, recurses := true, apart := false }
def LinesSplitSaid : Prop := linesSplitRow.holds Try.pinned (OpenSpec.ofChange linesSplitSpec)

/-- ITS FALSE NEIGHBOUR: 'it returns false'. Refute it at one input. -/
def linesSplitWrong : ChangeSpec := { name := "linesSplit", fn := fun _ => fun
  | [d] => { results := [.lit (.bool false)], args := [d] }
  | _ => none }
def LinesSplitWrongFalsely : Prop := linesSplitRow.holds Try.pinned (OpenSpec.ofChange linesSplitWrong)

/-- 'quiltlaw04.LinesJoin': WHATEVER THE INPUT: true; the input reads as it did. -/
def linesJoinSpec : ChangeSpec := { name := "linesJoin", fn := fun _ => fun
  | [d] => { results := [.lit (.bool true)], args := [d] }
  | _ => none }
def linesJoinRow : OpenClaim := { program := "ytiipiaebclljeaa", sum := "9345c37efbbef33c602b4689579a99414d9dd4a5cf4575acf5e7a144d9312edc", func := "quilt/quiltlaw04.LinesJoin", spec := "linesJoin", inPlace := ["internal/bytealg.IndexByteString", "internal/abi.NoEscape"], unfollowed := true, recurses := true, apart := false }
def LinesJoinSaid : Prop := linesJoinRow.holds Try.pinned (OpenSpec.ofChange linesJoinSpec)

/-- ITS FALSE NEIGHBOUR: 'it returns false'. Refute it at one input. -/
def linesJoinWrong : ChangeSpec := { name := "linesJoin", fn := fun _ => fun
  | [d] => { results := [.lit (.bool false)], args := [d] }
  | _ => none }
def LinesJoinWrongFalsely : Prop := linesJoinRow.holds Try.pinned (OpenSpec.ofChange linesJoinWrong)

/-- 'quiltlaw04.LinesMany': WHATEVER THE INPUT: true; the input reads as it did. -/
def linesManySpec : ChangeSpec := { name := "linesMany", fn := fun _ => fun
  | [d1, d2] => { results := [.lit (.bool true)], args := [d1, d2] }
  | _ => none }
def linesManyRow : OpenClaim := { program := "ytiipiaebclljeaa", sum := "9345c37efbbef33c602b4689579a99414d9dd4a5cf4575acf5e7a144d9312edc", func := "quilt/quiltlaw04.LinesMany", spec := "linesMany", inPlace := ["internal/bytealg.IndexByteString", "internal/abi.NoEscape"], unfollowed := true, recurses := true, apart := false }
def LinesManySaid : Prop := linesManyRow.holds Try.pinned (OpenSpec.ofChange linesManySpec)

/-- ITS FALSE NEIGHBOUR: 'it returns false'. Refute it at one input. -/
def linesManyWrong : ChangeSpec := { name := "linesMany", fn := fun _ => fun
  | [d1, d2] => { results := [.lit (.bool false)], args := [d1, d2] }
  | _ => none }
def LinesManyWrongFalsely : Prop := linesManyRow.holds Try.pinned (OpenSpec.ofChange linesManyWrong)

/-- 'quiltlaw04.LinesRoundTrip': WHATEVER THE INPUT: true; the input reads as it did. -/
def linesRoundTripSpec : ChangeSpec := { name := "linesRoundTrip", fn := fun _ => fun
  | [d1, d2] => { results := [.lit (.bool true)], args := [d1, d2] }
  | _ => none }
def linesRoundTripRow : OpenClaim := { program := "ytiipiaebclljeaa", sum := "9345c37efbbef33c602b4689579a99414d9dd4a5cf4575acf5e7a144d9312edc", func := "quilt/quiltlaw04.LinesRoundTrip", spec := "linesRoundTrip", inPlace := ["internal/bytealg.IndexByteString", "internal/abi.NoEscape"], unfollowed := true, recurses := true, apart := false }
def LinesRoundTripSaid : Prop := linesRoundTripRow.holds Try.pinned (OpenSpec.ofChange linesRoundTripSpec)

/-- ITS FALSE NEIGHBOUR: 'it returns false'. Refute it at one input. -/
def linesRoundTripWrong : ChangeSpec := { name := "linesRoundTrip", fn := fun _ => fun
  | [d1, d2] => { results := [.lit (.bool false)], args := [d1, d2] }
  | _ => none }
def LinesRoundTripWrongFalsely : Prop := linesRoundTripRow.holds Try.pinned (OpenSpec.ofChange linesRoundTripWrong)

/- THE SECOND FORM. 'bulk': how many values and letters a reading holds, each counted each time it is reached (what is shared counts as often as it is met; a slice's spare places count too). A statement '..UptoSaid' is the law's where the arguments, and the package variables that the reading takes, are together of bulk at most 1048576: NARROWER than '..Said'. Prove '..Said' where nothing that the law and all that it calls make is longer than what came in: it says more and counts as full. Else prove '..UptoSaid'. A law counts once. -/
mutual
def uptoBulk {H : Type} : DataW H → Nat
  | .lit (.string bytes) => bytes.length + 1
  | .lit _ => 1
  | .nil => 1
  | .ptr d => uptoBulk d + 1
  | .slice elems spare => uptoBulkAll elems + uptoBulkAll spare + 1
  | .agg parts => uptoBulkAll parts + 1
  | .iface _ d => uptoBulk d + 1
  | .map entries => uptoBulkEntries entries + 1
  | .held _ => 1
def uptoBulkAll {H : Type} : List (DataW H) → Nat
  | [] => 0
  | d :: r => uptoBulk d + uptoBulkAll r
def uptoBulkEntries {H : Type} : List (Lit × DataW H) → Nat
  | [] => 0
  | x :: r => uptoBulkEntry x + uptoBulkEntries r
def uptoBulkEntry {H : Type} : Lit × DataW H → Nat
  | (.string bytes, d) => bytes.length + uptoBulk d + 1
  | (_, d) => uptoBulk d + 1
 end
def uptoSmall : (H : Type) → List (DataW H) → Bool := fun _ ds => decide (uptoBulkAll ds ≤ 1048576)
def OpenSpec.upto (s : _root_.Go.ChangeSpec) : _root_.Go.OpenSpec := { _root_.Go.OpenSpec.ofChange s with cond := some uptoSmall }

/-- 'quiltlaw04.LinesWords', WHERE WHAT IT READS IS OF BULK AT MOST 1048576: true; the input reads as it did. -/
def linesWordsUptoRow : OpenClaim := { program := "ytiipiaebclljeaa", sum := "9345c37efbbef33c602b4689579a99414d9dd4a5cf4575acf5e7a144d9312edc", func := "quilt/quiltlaw04.LinesWords", spec := "linesWords", inPlace := ["internal/bytealg.IndexByteString"], unfollowed := true, recurses := true, apart := false, narrowed := true }
def LinesWordsUptoSaid : Prop := linesWordsUptoRow.holds Try.pinned (OpenSpec.upto linesWordsSpec)

/-- 'quiltlaw04.LinesWhole', WHERE WHAT IT READS IS OF BULK AT MOST 1048576: true; the input reads as it did. -/
def linesWholeUptoRow : OpenClaim := { program := "ytiipiaebclljeaa", sum := "9345c37efbbef33c602b4689579a99414d9dd4a5cf4575acf5e7a144d9312edc", func := "quilt/quiltlaw04.LinesWhole", spec := "linesWhole", inPlace := ["internal/bytealg.IndexByteString"], unfollowed := true, recurses := true, apart := false, narrowed := true }
def LinesWholeUptoSaid : Prop := linesWholeUptoRow.holds Try.pinned (OpenSpec.upto linesWholeSpec)

/-- 'quiltlaw04.LinesEnds', WHERE WHAT IT READS IS OF BULK AT MOST 1048576: true; the input reads as it did. -/
def linesEndsUptoRow : OpenClaim := { program := "ytiipiaebclljeaa", sum := "9345c37efbbef33c602b4689579a99414d9dd4a5cf4575acf5e7a144d9312edc", func := "quilt/quiltlaw04.LinesEnds", spec := "linesEnds", inPlace := ["internal/bytealg.IndexByteString"], unfollowed := true, recurses := true, apart := false, narrowed := true }
def LinesEndsUptoSaid : Prop := linesEndsUptoRow.holds Try.pinned (OpenSpec.upto linesEndsSpec)

/-- 'quiltlaw04.LinesConcat', WHERE WHAT IT READS IS OF BULK AT MOST 1048576: true; the input reads as it did. -/
def linesConcatUptoRow : OpenClaim := { program := "ytiipiaebclljeaa", sum := "9345c37efbbef33c602b4689579a99414d9dd4a5cf4575acf5e7a144d9312edc", func := "quilt/quiltlaw04.LinesConcat", spec := "linesConcat", inPlace := ["internal/bytealg.IndexByteString"], unfollowed := true, recurses := true, apart := false, narrowed := true }
def LinesConcatUptoSaid : Prop := linesConcatUptoRow.holds Try.pinned (OpenSpec.upto linesConcatSpec)

/-- 'quiltlaw04.LinesSplit', WHERE WHAT IT READS IS OF BULK AT MOST 1048576: true; the input reads as it did. -/
def linesSplitUptoRow : OpenClaim := { program := "ytiipiaebclljeaa", sum := "9345c37efbbef33c602b4689579a99414d9dd4a5cf4575acf5e7a144d9312edc", func := "quilt/quiltlaw04.LinesSplit", spec := "linesSplit", inPlace := ["internal/bytealg.IndexByteString"], unfollowed := true, recurses := true, apart := false, narrowed := true }
def LinesSplitUptoSaid : Prop := linesSplitUptoRow.holds Try.pinned (OpenSpec.upto linesSplitSpec)

/-- 'quiltlaw04.LinesJoin', WHERE WHAT IT READS IS OF BULK AT MOST 1048576: true; the input reads as it did. -/
def linesJoinUptoRow : OpenClaim := { program := "ytiipiaebclljeaa", sum := "9345c37efbbef33c602b4689579a99414d9dd4a5cf4575acf5e7a144d9312edc", func := "quilt/quiltlaw04.LinesJoin", spec := "linesJoin", inPlace := ["internal/bytealg.IndexByteString", "internal/abi.NoEscape"], unfollowed := true, recurses := true, apart := false, narrowed := true }
def LinesJoinUptoSaid : Prop := linesJoinUptoRow.holds Try.pinned (OpenSpec.upto linesJoinSpec)

/-- 'quiltlaw04.LinesMany', WHERE WHAT IT READS IS OF BULK AT MOST 1048576: true; the input reads as it did. -/
def linesManyUptoRow : OpenClaim := { program := "ytiipiaebclljeaa", sum := "9345c37efbbef33c602b4689579a99414d9dd4a5cf4575acf5e7a144d9312edc", func := "quilt/quiltlaw04.LinesMany", spec := "linesMany", inPlace := ["internal/bytealg.IndexByteString", "internal/abi.NoEscape"], unfollowed := true, recurses := true, apart := false, narrowed := true }
def LinesManyUptoSaid : Prop := linesManyUptoRow.holds Try.pinned (OpenSpec.upto linesManySpec)

/-- 'quiltlaw04.LinesRoundTrip', WHERE WHAT IT READS IS OF BULK AT MOST 1048576: true; the input reads as it did. -/
def linesRoundTripUptoRow : OpenClaim := { program := "ytiipiaebclljeaa", sum := "9345c37efbbef33c602b4689579a99414d9dd4a5cf4575acf5e7a144d9312edc", func := "quilt/quiltlaw04.LinesRoundTrip", spec := "linesRoundTrip", inPlace := ["internal/bytealg.IndexByteString", "internal/abi.NoEscape"], unfollowed := true, recurses := true, apart := false, narrowed := true }
def LinesRoundTripUptoSaid : Prop := linesRoundTripUptoRow.holds Try.pinned (OpenSpec.upto linesRoundTripSpec)

end Rows
end Go.Proofs.Ytiipiaebclljeaa
