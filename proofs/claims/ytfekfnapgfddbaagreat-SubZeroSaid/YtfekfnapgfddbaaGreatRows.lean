/-
  No cell of these rows narrows 'for every input' (looked for: loops, veiled, ifaces, maps, wideKeys, modest, calm, conditions, laid).
  DERIVED. THE GIVEN ROWS OF THIS SEAT. 16 by the template 'for every input the law returns true; each argument reads behind the call as it read before'; 0 by the template 'total and deterministic' (their statements: YtfekfnapgfddbaaGreatTotals.lean).
  GIVEN WITH THE SEED: the statements are not yours to turn. If you find one false, say at which input.
  Laid BY PROGRAM, IN A SANDBOX (cutbox-rows.mjs): the forced cells as the released guide's own fill.sh prints them over the translation 36d2fb0e9de6d44a… (all of the seat's roots in one cut). By AI agents, Wed Nov 11 2026. No macro, syntax, notation, axiom, sorry.
-/
import Derived.Test.YtfekfnapgfddbaaGreatChecked
import GoSem.Claim
import GoSem.ClaimJoined
import GoSem.ClaimMapViews
import Derived.JoinedTies
import Derived.KernelRfl
namespace Go.Proofs.YtfekfnapgfddbaaGreat
/- THE CELL 'sum', in the pinned program and in every row, IS THE sha256 OF THE DUMP (.gsa) THAT YtfekfnapgfddbaaGreatProg.lean LOADS. Nothing in Lean hashes anything: it is a label: what it is worth is what the hold of that sum in a sandbox is worth. -/
noncomputable def Tryz.pinned : Pinned := { name := "ytfekfnapgfddbaagreat", sum := "36d2fb0e9de6d44aaef0537614032abb63ec09c548331e6e54c62e677b8c5b40", checked := Tryz.checked }
namespace Rows
def none {H : Type} : Left H := { results := [], args := [] }

/-- 'topiarylaw17.NavTakes': WHATEVER THE INPUT: true; the input reads as it did. -/
def navTakesSpec : ChangeSpec := { name := "navTakes", fn := fun _ => fun
  | [d1, d2, d3] => { results := [.lit (.bool true)], args := [d1, d2, d3] }
  | _ => none }
def navTakesRow : OpenClaim := { program := "ytfekfnapgfddbaagreat", sum := "36d2fb0e9de6d44aaef0537614032abb63ec09c548331e6e54c62e677b8c5b40", func := "topiary/topiarylaw17.NavTakes", spec := "navTakes", unfollowed := true, recurses := true, apart := false }
def NavTakesSaid : Prop := navTakesRow.holds Tryz.pinned (OpenSpec.ofChange navTakesSpec)

/-- ITS FALSE NEIGHBOUR: 'it returns false'. Refute it at one input. -/
def navTakesWrong : ChangeSpec := { name := "navTakes", fn := fun _ => fun
  | [d1, d2, d3] => { results := [.lit (.bool false)], args := [d1, d2, d3] }
  | _ => none }
def NavTakesWrongFalsely : Prop := navTakesRow.holds Tryz.pinned (OpenSpec.ofChange navTakesWrong)

/-- 'topiarylaw18.SubRanges': WHATEVER THE INPUT: true; the input reads as it did. -/
def subRangesSpec : ChangeSpec := { name := "subRanges", fn := fun _ => fun
  | [d1, d2] => { results := [.lit (.bool true)], args := [d1, d2] }
  | _ => none }
def subRangesRow : OpenClaim := { program := "ytfekfnapgfddbaagreat", sum := "36d2fb0e9de6d44aaef0537614032abb63ec09c548331e6e54c62e677b8c5b40", func := "topiary/topiarylaw18.SubRanges", spec := "subRanges", unfollowed := true, recurses := true, apart := false }
def SubRangesSaid : Prop := subRangesRow.holds Tryz.pinned (OpenSpec.ofChange subRangesSpec)

/-- ITS FALSE NEIGHBOUR: 'it returns false'. Refute it at one input. -/
def subRangesWrong : ChangeSpec := { name := "subRanges", fn := fun _ => fun
  | [d1, d2] => { results := [.lit (.bool false)], args := [d1, d2] }
  | _ => none }
def SubRangesWrongFalsely : Prop := subRangesRow.holds Tryz.pinned (OpenSpec.ofChange subRangesWrong)

/-- 'topiarylaw18.SubOwn': WHATEVER THE INPUT: true; the input reads as it did. -/
def subOwnSpec : ChangeSpec := { name := "subOwn", fn := fun _ => fun
  | [d1, d2] => { results := [.lit (.bool true)], args := [d1, d2] }
  | _ => none }
def subOwnRow : OpenClaim := { program := "ytfekfnapgfddbaagreat", sum := "36d2fb0e9de6d44aaef0537614032abb63ec09c548331e6e54c62e677b8c5b40", func := "topiary/topiarylaw18.SubOwn", spec := "subOwn", unfollowed := true, recurses := true, apart := false }
def SubOwnSaid : Prop := subOwnRow.holds Tryz.pinned (OpenSpec.ofChange subOwnSpec)

/-- ITS FALSE NEIGHBOUR: 'it returns false'. Refute it at one input. -/
def subOwnWrong : ChangeSpec := { name := "subOwn", fn := fun _ => fun
  | [d1, d2] => { results := [.lit (.bool false)], args := [d1, d2] }
  | _ => none }
def SubOwnWrongFalsely : Prop := subOwnRow.holds Tryz.pinned (OpenSpec.ofChange subOwnWrong)

/-- 'topiarylaw18.SubPaths': WHATEVER THE INPUT: true; the input reads as it did. -/
def subPathsSpec : ChangeSpec := { name := "subPaths", fn := fun _ => fun
  | [d1, d2] => { results := [.lit (.bool true)], args := [d1, d2] }
  | _ => none }
def subPathsRow : OpenClaim := { program := "ytfekfnapgfddbaagreat", sum := "36d2fb0e9de6d44aaef0537614032abb63ec09c548331e6e54c62e677b8c5b40", func := "topiary/topiarylaw18.SubPaths", spec := "subPaths", unfollowed := true, recurses := true, apart := false }
def SubPathsSaid : Prop := subPathsRow.holds Tryz.pinned (OpenSpec.ofChange subPathsSpec)

/-- ITS FALSE NEIGHBOUR: 'it returns false'. Refute it at one input. -/
def subPathsWrong : ChangeSpec := { name := "subPaths", fn := fun _ => fun
  | [d1, d2] => { results := [.lit (.bool false)], args := [d1, d2] }
  | _ => none }
def SubPathsWrongFalsely : Prop := subPathsRow.holds Tryz.pinned (OpenSpec.ofChange subPathsWrong)

/-- 'topiarylaw18.SubSplits': WHATEVER THE INPUT: true; the input reads as it did. -/
def subSplitsSpec : ChangeSpec := { name := "subSplits", fn := fun _ => fun
  | [d1, d2] => { results := [.lit (.bool true)], args := [d1, d2] }
  | _ => none }
def subSplitsRow : OpenClaim := { program := "ytfekfnapgfddbaagreat", sum := "36d2fb0e9de6d44aaef0537614032abb63ec09c548331e6e54c62e677b8c5b40", func := "topiary/topiarylaw18.SubSplits", spec := "subSplits", unfollowed := true, recurses := true, apart := false }
def SubSplitsSaid : Prop := subSplitsRow.holds Tryz.pinned (OpenSpec.ofChange subSplitsSpec)

/-- ITS FALSE NEIGHBOUR: 'it returns false'. Refute it at one input. -/
def subSplitsWrong : ChangeSpec := { name := "subSplits", fn := fun _ => fun
  | [d1, d2] => { results := [.lit (.bool false)], args := [d1, d2] }
  | _ => none }
def SubSplitsWrongFalsely : Prop := subSplitsRow.holds Tryz.pinned (OpenSpec.ofChange subSplitsWrong)

/-- 'topiarylaw09.FmAny': WHATEVER THE INPUT: true; the input reads as it did. -/
def fmAnySpec : ChangeSpec := { name := "fmAny", fn := fun _ => fun
  | [d1, d2, d3] => { results := [.lit (.bool true)], args := [d1, d2, d3] }
  | _ => none }
def fmAnyRow : OpenClaim := { program := "ytfekfnapgfddbaagreat", sum := "36d2fb0e9de6d44aaef0537614032abb63ec09c548331e6e54c62e677b8c5b40", func := "topiary/topiarylaw09.FmAny", spec := "fmAny", unfollowed := true, recurses := true, apart := false }
def FmAnySaid : Prop := fmAnyRow.holds Tryz.pinned (OpenSpec.ofChange fmAnySpec)

/-- ITS FALSE NEIGHBOUR: 'it returns false'. Refute it at one input. -/
def fmAnyWrong : ChangeSpec := { name := "fmAny", fn := fun _ => fun
  | [d1, d2, d3] => { results := [.lit (.bool false)], args := [d1, d2, d3] }
  | _ => none }
def FmAnyWrongFalsely : Prop := fmAnyRow.holds Tryz.pinned (OpenSpec.ofChange fmAnyWrong)

/-- 'topiarylaw17.NavLabels': WHATEVER THE INPUT: true; the input reads as it did. -/
def navLabelsSpec : ChangeSpec := { name := "navLabels", fn := fun _ => fun
  | [d1, d2] => { results := [.lit (.bool true)], args := [d1, d2] }
  | _ => none }
def navLabelsRow : OpenClaim := { program := "ytfekfnapgfddbaagreat", sum := "36d2fb0e9de6d44aaef0537614032abb63ec09c548331e6e54c62e677b8c5b40", func := "topiary/topiarylaw17.NavLabels", spec := "navLabels", unfollowed := true, recurses := true, apart := false }
def NavLabelsSaid : Prop := navLabelsRow.holds Tryz.pinned (OpenSpec.ofChange navLabelsSpec)

/-- ITS FALSE NEIGHBOUR: 'it returns false'. Refute it at one input. -/
def navLabelsWrong : ChangeSpec := { name := "navLabels", fn := fun _ => fun
  | [d1, d2] => { results := [.lit (.bool false)], args := [d1, d2] }
  | _ => none }
def NavLabelsWrongFalsely : Prop := navLabelsRow.holds Tryz.pinned (OpenSpec.ofChange navLabelsWrong)

/-- 'topiarylaw09.FmLoads': WHATEVER THE INPUT: true; the input reads as it did. -/
def fmLoadsSpec : ChangeSpec := { name := "fmLoads", fn := fun _ => fun
  | [d1, d2, d3] => { results := [.lit (.bool true)], args := [d1, d2, d3] }
  | _ => none }
def fmLoadsRow : OpenClaim := { program := "ytfekfnapgfddbaagreat", sum := "36d2fb0e9de6d44aaef0537614032abb63ec09c548331e6e54c62e677b8c5b40", func := "topiary/topiarylaw09.FmLoads", spec := "fmLoads", unfollowed := true, recurses := true, apart := false }
def FmLoadsSaid : Prop := fmLoadsRow.holds Tryz.pinned (OpenSpec.ofChange fmLoadsSpec)

/-- ITS FALSE NEIGHBOUR: 'it returns false'. Refute it at one input. -/
def fmLoadsWrong : ChangeSpec := { name := "fmLoads", fn := fun _ => fun
  | [d1, d2, d3] => { results := [.lit (.bool false)], args := [d1, d2, d3] }
  | _ => none }
def FmLoadsWrongFalsely : Prop := fmLoadsRow.holds Tryz.pinned (OpenSpec.ofChange fmLoadsWrong)

/-- 'topiarylaw17.NavNodes': WHATEVER THE INPUT: true; the input reads as it did. -/
def navNodesSpec : ChangeSpec := { name := "navNodes", fn := fun _ => fun
  | [d1, d2] => { results := [.lit (.bool true)], args := [d1, d2] }
  | _ => none }
def navNodesRow : OpenClaim := { program := "ytfekfnapgfddbaagreat", sum := "36d2fb0e9de6d44aaef0537614032abb63ec09c548331e6e54c62e677b8c5b40", func := "topiary/topiarylaw17.NavNodes", spec := "navNodes", unfollowed := true, recurses := true, apart := false }
def NavNodesSaid : Prop := navNodesRow.holds Tryz.pinned (OpenSpec.ofChange navNodesSpec)

/-- ITS FALSE NEIGHBOUR: 'it returns false'. Refute it at one input. -/
def navNodesWrong : ChangeSpec := { name := "navNodes", fn := fun _ => fun
  | [d1, d2] => { results := [.lit (.bool false)], args := [d1, d2] }
  | _ => none }
def NavNodesWrongFalsely : Prop := navNodesRow.holds Tryz.pinned (OpenSpec.ofChange navNodesWrong)

/-- 'topiarylaw17.NavRows': WHATEVER THE INPUT: true; the input reads as it did. -/
def navRowsSpec : ChangeSpec := { name := "navRows", fn := fun _ => fun
  | [d1, d2] => { results := [.lit (.bool true)], args := [d1, d2] }
  | _ => none }
def navRowsRow : OpenClaim := { program := "ytfekfnapgfddbaagreat", sum := "36d2fb0e9de6d44aaef0537614032abb63ec09c548331e6e54c62e677b8c5b40", func := "topiary/topiarylaw17.NavRows", spec := "navRows", unfollowed := true, recurses := true, apart := false }
def NavRowsSaid : Prop := navRowsRow.holds Tryz.pinned (OpenSpec.ofChange navRowsSpec)

/-- ITS FALSE NEIGHBOUR: 'it returns false'. Refute it at one input. -/
def navRowsWrong : ChangeSpec := { name := "navRows", fn := fun _ => fun
  | [d1, d2] => { results := [.lit (.bool false)], args := [d1, d2] }
  | _ => none }
def NavRowsWrongFalsely : Prop := navRowsRow.holds Tryz.pinned (OpenSpec.ofChange navRowsWrong)

/-- 'topiarylaw18.SubBelow': WHATEVER THE INPUT: true; the input reads as it did. -/
def subBelowSpec : ChangeSpec := { name := "subBelow", fn := fun _ => fun
  | [d1, d2, d3] => { results := [.lit (.bool true)], args := [d1, d2, d3] }
  | _ => none }
def subBelowRow : OpenClaim := { program := "ytfekfnapgfddbaagreat", sum := "36d2fb0e9de6d44aaef0537614032abb63ec09c548331e6e54c62e677b8c5b40", func := "topiary/topiarylaw18.SubBelow", spec := "subBelow", unfollowed := true, recurses := true, apart := false }
def SubBelowSaid : Prop := subBelowRow.holds Tryz.pinned (OpenSpec.ofChange subBelowSpec)

/-- ITS FALSE NEIGHBOUR: 'it returns false'. Refute it at one input. -/
def subBelowWrong : ChangeSpec := { name := "subBelow", fn := fun _ => fun
  | [d1, d2, d3] => { results := [.lit (.bool false)], args := [d1, d2, d3] }
  | _ => none }
def SubBelowWrongFalsely : Prop := subBelowRow.holds Tryz.pinned (OpenSpec.ofChange subBelowWrong)

/-- 'topiarylaw18.SubZero': WHATEVER THE INPUT: true; the input reads as it did. -/
def subZeroSpec : ChangeSpec := { name := "subZero", fn := fun _ => fun
  | [d] => { results := [.lit (.bool true)], args := [d] }
  | _ => none }
def subZeroRow : OpenClaim := { program := "ytfekfnapgfddbaagreat", sum := "36d2fb0e9de6d44aaef0537614032abb63ec09c548331e6e54c62e677b8c5b40", func := "topiary/topiarylaw18.SubZero", spec := "subZero", unfollowed := true, recurses := true, apart := false }
def SubZeroSaid : Prop := subZeroRow.holds Tryz.pinned (OpenSpec.ofChange subZeroSpec)

/-- ITS FALSE NEIGHBOUR: 'it returns false'. Refute it at one input. -/
def subZeroWrong : ChangeSpec := { name := "subZero", fn := fun _ => fun
  | [d] => { results := [.lit (.bool false)], args := [d] }
  | _ => none }
def SubZeroWrongFalsely : Prop := subZeroRow.holds Tryz.pinned (OpenSpec.ofChange subZeroWrong)

/-- 'topiarylaw17.NavZero': WHATEVER THE INPUT: true; the input reads as it did. -/
def navZeroSpec : ChangeSpec := { name := "navZero", fn := fun _ => fun
  | [d] => { results := [.lit (.bool true)], args := [d] }
  | _ => none }
def navZeroRow : OpenClaim := { program := "ytfekfnapgfddbaagreat", sum := "36d2fb0e9de6d44aaef0537614032abb63ec09c548331e6e54c62e677b8c5b40", func := "topiary/topiarylaw17.NavZero", spec := "navZero", unfollowed := true, recurses := true, apart := false }
def NavZeroSaid : Prop := navZeroRow.holds Tryz.pinned (OpenSpec.ofChange navZeroSpec)

/-- ITS FALSE NEIGHBOUR: 'it returns false'. Refute it at one input. -/
def navZeroWrong : ChangeSpec := { name := "navZero", fn := fun _ => fun
  | [d] => { results := [.lit (.bool false)], args := [d] }
  | _ => none }
def NavZeroWrongFalsely : Prop := navZeroRow.holds Tryz.pinned (OpenSpec.ofChange navZeroWrong)

/-- 'topiarylaw20.EvalPlaces': WHATEVER THE INPUT: true; the input reads as it did. -/
def evalPlacesSpec : ChangeSpec := { name := "evalPlaces", fn := fun _ => fun
  | [d1, d2] => { results := [.lit (.bool true)], args := [d1, d2] }
  | _ => none }
def evalPlacesRow : OpenClaim := { program := "ytfekfnapgfddbaagreat", sum := "36d2fb0e9de6d44aaef0537614032abb63ec09c548331e6e54c62e677b8c5b40", func := "topiary/topiarylaw20.EvalPlaces", spec := "evalPlaces", unfollowed := true, recurses := true, apart := false }
def EvalPlacesSaid : Prop := evalPlacesRow.holds Tryz.pinned (OpenSpec.ofChange evalPlacesSpec)

/-- ITS FALSE NEIGHBOUR: 'it returns false'. Refute it at one input. -/
def evalPlacesWrong : ChangeSpec := { name := "evalPlaces", fn := fun _ => fun
  | [d1, d2] => { results := [.lit (.bool false)], args := [d1, d2] }
  | _ => none }
def EvalPlacesWrongFalsely : Prop := evalPlacesRow.holds Tryz.pinned (OpenSpec.ofChange evalPlacesWrong)

/-- 'topiarylaw20.EvalAll': WHATEVER THE INPUT: true; the input reads as it did. -/
def evalAllSpec : ChangeSpec := { name := "evalAll", fn := fun _ => fun
  | [d] => { results := [.lit (.bool true)], args := [d] }
  | _ => none }
def evalAllRow : OpenClaim := { program := "ytfekfnapgfddbaagreat", sum := "36d2fb0e9de6d44aaef0537614032abb63ec09c548331e6e54c62e677b8c5b40", func := "topiary/topiarylaw20.EvalAll", spec := "evalAll", unfollowed := true, recurses := true, apart := false }
def EvalAllSaid : Prop := evalAllRow.holds Tryz.pinned (OpenSpec.ofChange evalAllSpec)

/-- ITS FALSE NEIGHBOUR: 'it returns false'. Refute it at one input. -/
def evalAllWrong : ChangeSpec := { name := "evalAll", fn := fun _ => fun
  | [d] => { results := [.lit (.bool false)], args := [d] }
  | _ => none }
def EvalAllWrongFalsely : Prop := evalAllRow.holds Tryz.pinned (OpenSpec.ofChange evalAllWrong)

/-- 'topiarylaw20.EvalZero': WHATEVER THE INPUT: true; the input reads as it did. -/
def evalZeroSpec : ChangeSpec := { name := "evalZero", fn := fun _ => fun
  | [d1, d2] => { results := [.lit (.bool true)], args := [d1, d2] }
  | _ => none }
def evalZeroRow : OpenClaim := { program := "ytfekfnapgfddbaagreat", sum := "36d2fb0e9de6d44aaef0537614032abb63ec09c548331e6e54c62e677b8c5b40", func := "topiary/topiarylaw20.EvalZero", spec := "evalZero", unfollowed := true, recurses := true, apart := false }
def EvalZeroSaid : Prop := evalZeroRow.holds Tryz.pinned (OpenSpec.ofChange evalZeroSpec)

/-- ITS FALSE NEIGHBOUR: 'it returns false'. Refute it at one input. -/
def evalZeroWrong : ChangeSpec := { name := "evalZero", fn := fun _ => fun
  | [d1, d2] => { results := [.lit (.bool false)], args := [d1, d2] }
  | _ => none }
def EvalZeroWrongFalsely : Prop := evalZeroRow.holds Tryz.pinned (OpenSpec.ofChange evalZeroWrong)

/- THE SECOND FORM. 'bulk': how many values and letters a reading holds, each counted each time it is reached (what is shared counts as often as it is met; a slice's spare places count too). A statement '..UptoSaid' is the law's where the arguments, and the package variables that the reading takes, are together of bulk at most 1048576: NARROWER than '..Said'. Prove '..Said' where nothing that the law and all that it calls make is longer than what came in: it says more and counts as full. Else prove '..UptoSaid'. A law counts once. -/
mutual
def uptoBulk {H : Type} : DataW H → Nat
  | .lit (.string bytes) => bytes.length + 1
  | .lit _ => 1
  | .nil => 1
  | .ptr d => uptoBulk d + 1
  | .slice elems spare => uptoBulkAll elems + uptoBulkAll spare + 1
  | .agg parts => uptoBulkAll parts + 1
  | .iface _ d => uptoBulk d + 1
  | .map entries => uptoBulkEntries entries + 1
  | .held _ => 1
def uptoBulkAll {H : Type} : List (DataW H) → Nat
  | [] => 0
  | d :: r => uptoBulk d + uptoBulkAll r
def uptoBulkEntries {H : Type} : List (Lit × DataW H) → Nat
  | [] => 0
  | x :: r => uptoBulkEntry x + uptoBulkEntries r
def uptoBulkEntry {H : Type} : Lit × DataW H → Nat
  | (.string bytes, d) => bytes.length + uptoBulk d + 1
  | (_, d) => uptoBulk d + 1
 end
def uptoSmall : (H : Type) → List (DataW H) → Bool := fun _ ds => decide (uptoBulkAll ds ≤ 1048576)
def OpenSpec.upto (s : _root_.Go.ChangeSpec) : _root_.Go.OpenSpec := { _root_.Go.OpenSpec.ofChange s with cond := some uptoSmall }

/-- 'topiarylaw17.NavTakes', WHERE WHAT IT READS IS OF BULK AT MOST 1048576: true; the input reads as it did. -/
def navTakesUptoRow : OpenClaim := { program := "ytfekfnapgfddbaagreat", sum := "36d2fb0e9de6d44aaef0537614032abb63ec09c548331e6e54c62e677b8c5b40", func := "topiary/topiarylaw17.NavTakes", spec := "navTakes", unfollowed := true, recurses := true, apart := false, narrowed := true }
def NavTakesUptoSaid : Prop := navTakesUptoRow.holds Tryz.pinned (OpenSpec.upto navTakesSpec)

/-- 'topiarylaw18.SubRanges', WHERE WHAT IT READS IS OF BULK AT MOST 1048576: true; the input reads as it did. -/
def subRangesUptoRow : OpenClaim := { program := "ytfekfnapgfddbaagreat", sum := "36d2fb0e9de6d44aaef0537614032abb63ec09c548331e6e54c62e677b8c5b40", func := "topiary/topiarylaw18.SubRanges", spec := "subRanges", unfollowed := true, recurses := true, apart := false, narrowed := true }
def SubRangesUptoSaid : Prop := subRangesUptoRow.holds Tryz.pinned (OpenSpec.upto subRangesSpec)

/-- 'topiarylaw18.SubOwn', WHERE WHAT IT READS IS OF BULK AT MOST 1048576: true; the input reads as it did. -/
def subOwnUptoRow : OpenClaim := { program := "ytfekfnapgfddbaagreat", sum := "36d2fb0e9de6d44aaef0537614032abb63ec09c548331e6e54c62e677b8c5b40", func := "topiary/topiarylaw18.SubOwn", spec := "subOwn", unfollowed := true, recurses := true, apart := false, narrowed := true }
def SubOwnUptoSaid : Prop := subOwnUptoRow.holds Tryz.pinned (OpenSpec.upto subOwnSpec)

/-- 'topiarylaw18.SubPaths', WHERE WHAT IT READS IS OF BULK AT MOST 1048576: true; the input reads as it did. -/
def subPathsUptoRow : OpenClaim := { program := "ytfekfnapgfddbaagreat", sum := "36d2fb0e9de6d44aaef0537614032abb63ec09c548331e6e54c62e677b8c5b40", func := "topiary/topiarylaw18.SubPaths", spec := "subPaths", unfollowed := true, recurses := true, apart := false, narrowed := true }
def SubPathsUptoSaid : Prop := subPathsUptoRow.holds Tryz.pinned (OpenSpec.upto subPathsSpec)

/-- 'topiarylaw18.SubSplits', WHERE WHAT IT READS IS OF BULK AT MOST 1048576: true; the input reads as it did. -/
def subSplitsUptoRow : OpenClaim := { program := "ytfekfnapgfddbaagreat", sum := "36d2fb0e9de6d44aaef0537614032abb63ec09c548331e6e54c62e677b8c5b40", func := "topiary/topiarylaw18.SubSplits", spec := "subSplits", unfollowed := true, recurses := true, apart := false, narrowed := true }
def SubSplitsUptoSaid : Prop := subSplitsUptoRow.holds Tryz.pinned (OpenSpec.upto subSplitsSpec)

/-- 'topiarylaw09.FmAny', WHERE WHAT IT READS IS OF BULK AT MOST 1048576: true; the input reads as it did. -/
def fmAnyUptoRow : OpenClaim := { program := "ytfekfnapgfddbaagreat", sum := "36d2fb0e9de6d44aaef0537614032abb63ec09c548331e6e54c62e677b8c5b40", func := "topiary/topiarylaw09.FmAny", spec := "fmAny", unfollowed := true, recurses := true, apart := false, narrowed := true }
def FmAnyUptoSaid : Prop := fmAnyUptoRow.holds Tryz.pinned (OpenSpec.upto fmAnySpec)

/-- 'topiarylaw17.NavLabels', WHERE WHAT IT READS IS OF BULK AT MOST 1048576: true; the input reads as it did. -/
def navLabelsUptoRow : OpenClaim := { program := "ytfekfnapgfddbaagreat", sum := "36d2fb0e9de6d44aaef0537614032abb63ec09c548331e6e54c62e677b8c5b40", func := "topiary/topiarylaw17.NavLabels", spec := "navLabels", unfollowed := true, recurses := true, apart := false, narrowed := true }
def NavLabelsUptoSaid : Prop := navLabelsUptoRow.holds Tryz.pinned (OpenSpec.upto navLabelsSpec)

/-- 'topiarylaw09.FmLoads', WHERE WHAT IT READS IS OF BULK AT MOST 1048576: true; the input reads as it did. -/
def fmLoadsUptoRow : OpenClaim := { program := "ytfekfnapgfddbaagreat", sum := "36d2fb0e9de6d44aaef0537614032abb63ec09c548331e6e54c62e677b8c5b40", func := "topiary/topiarylaw09.FmLoads", spec := "fmLoads", unfollowed := true, recurses := true, apart := false, narrowed := true }
def FmLoadsUptoSaid : Prop := fmLoadsUptoRow.holds Tryz.pinned (OpenSpec.upto fmLoadsSpec)

/-- 'topiarylaw17.NavNodes', WHERE WHAT IT READS IS OF BULK AT MOST 1048576: true; the input reads as it did. -/
def navNodesUptoRow : OpenClaim := { program := "ytfekfnapgfddbaagreat", sum := "36d2fb0e9de6d44aaef0537614032abb63ec09c548331e6e54c62e677b8c5b40", func := "topiary/topiarylaw17.NavNodes", spec := "navNodes", unfollowed := true, recurses := true, apart := false, narrowed := true }
def NavNodesUptoSaid : Prop := navNodesUptoRow.holds Tryz.pinned (OpenSpec.upto navNodesSpec)

/-- 'topiarylaw17.NavRows', WHERE WHAT IT READS IS OF BULK AT MOST 1048576: true; the input reads as it did. -/
def navRowsUptoRow : OpenClaim := { program := "ytfekfnapgfddbaagreat", sum := "36d2fb0e9de6d44aaef0537614032abb63ec09c548331e6e54c62e677b8c5b40", func := "topiary/topiarylaw17.NavRows", spec := "navRows", unfollowed := true, recurses := true, apart := false, narrowed := true }
def NavRowsUptoSaid : Prop := navRowsUptoRow.holds Tryz.pinned (OpenSpec.upto navRowsSpec)

/-- 'topiarylaw18.SubBelow', WHERE WHAT IT READS IS OF BULK AT MOST 1048576: true; the input reads as it did. -/
def subBelowUptoRow : OpenClaim := { program := "ytfekfnapgfddbaagreat", sum := "36d2fb0e9de6d44aaef0537614032abb63ec09c548331e6e54c62e677b8c5b40", func := "topiary/topiarylaw18.SubBelow", spec := "subBelow", unfollowed := true, recurses := true, apart := false, narrowed := true }
def SubBelowUptoSaid : Prop := subBelowUptoRow.holds Tryz.pinned (OpenSpec.upto subBelowSpec)

/-- 'topiarylaw18.SubZero', WHERE WHAT IT READS IS OF BULK AT MOST 1048576: true; the input reads as it did. -/
def subZeroUptoRow : OpenClaim := { program := "ytfekfnapgfddbaagreat", sum := "36d2fb0e9de6d44aaef0537614032abb63ec09c548331e6e54c62e677b8c5b40", func := "topiary/topiarylaw18.SubZero", spec := "subZero", unfollowed := true, recurses := true, apart := false, narrowed := true }
def SubZeroUptoSaid : Prop := subZeroUptoRow.holds Tryz.pinned (OpenSpec.upto subZeroSpec)

/-- 'topiarylaw17.NavZero', WHERE WHAT IT READS IS OF BULK AT MOST 1048576: true; the input reads as it did. -/
def navZeroUptoRow : OpenClaim := { program := "ytfekfnapgfddbaagreat", sum := "36d2fb0e9de6d44aaef0537614032abb63ec09c548331e6e54c62e677b8c5b40", func := "topiary/topiarylaw17.NavZero", spec := "navZero", unfollowed := true, recurses := true, apart := false, narrowed := true }
def NavZeroUptoSaid : Prop := navZeroUptoRow.holds Tryz.pinned (OpenSpec.upto navZeroSpec)

/-- 'topiarylaw20.EvalPlaces', WHERE WHAT IT READS IS OF BULK AT MOST 1048576: true; the input reads as it did. -/
def evalPlacesUptoRow : OpenClaim := { program := "ytfekfnapgfddbaagreat", sum := "36d2fb0e9de6d44aaef0537614032abb63ec09c548331e6e54c62e677b8c5b40", func := "topiary/topiarylaw20.EvalPlaces", spec := "evalPlaces", unfollowed := true, recurses := true, apart := false, narrowed := true }
def EvalPlacesUptoSaid : Prop := evalPlacesUptoRow.holds Tryz.pinned (OpenSpec.upto evalPlacesSpec)

/-- 'topiarylaw20.EvalAll', WHERE WHAT IT READS IS OF BULK AT MOST 1048576: true; the input reads as it did. -/
def evalAllUptoRow : OpenClaim := { program := "ytfekfnapgfddbaagreat", sum := "36d2fb0e9de6d44aaef0537614032abb63ec09c548331e6e54c62e677b8c5b40", func := "topiary/topiarylaw20.EvalAll", spec := "evalAll", unfollowed := true, recurses := true, apart := false, narrowed := true }
def EvalAllUptoSaid : Prop := evalAllUptoRow.holds Tryz.pinned (OpenSpec.upto evalAllSpec)

/-- 'topiarylaw20.EvalZero', WHERE WHAT IT READS IS OF BULK AT MOST 1048576: true; the input reads as it did. -/
def evalZeroUptoRow : OpenClaim := { program := "ytfekfnapgfddbaagreat", sum := "36d2fb0e9de6d44aaef0537614032abb63ec09c548331e6e54c62e677b8c5b40", func := "topiary/topiarylaw20.EvalZero", spec := "evalZero", unfollowed := true, recurses := true, apart := false, narrowed := true }
def EvalZeroUptoSaid : Prop := evalZeroUptoRow.holds Tryz.pinned (OpenSpec.upto evalZeroSpec)

end Rows
end Go.Proofs.YtfekfnapgfddbaaGreat
