/-
  No cell of these rows narrows 'for every input' (looked for: loops, veiled, ifaces, maps, wideKeys, modest, calm, conditions, laid).
  DERIVED. THE GIVEN ROWS OF THIS SEAT. 17 by the template 'for every input the law returns true; each argument reads behind the call as it read before'; 0 by the template 'total and deterministic' (their statements: YtinlmodkdjpocaaTotals.lean).
  GIVEN WITH THE SEED: the statements are not yours to turn. If you find one false, say at which input.
  Laid BY PROGRAM, IN A SANDBOX (cutbox-rows.mjs): the forced cells as the released guide's own fill.sh prints them over the translation ac4ba962c317e372… (all of the seat's roots in one cut). By AI agents, Wed Nov 11 2026. No macro, syntax, notation, axiom, sorry.
-/
import Derived.Test.YtinlmodkdjpocaaChecked
import GoSem.Claim
import GoSem.ClaimJoined
import GoSem.ClaimMapViews
import Derived.JoinedTies
import Derived.KernelRfl
namespace Go.Proofs.Ytinlmodkdjpocaa
/- THE CELL 'sum', in the pinned program and in every row, IS THE sha256 OF THE DUMP (.gsa) THAT YtinlmodkdjpocaaProg.lean LOADS. Nothing in Lean hashes anything: it is a label: what it is worth is what the hold of that sum in a sandbox is worth. -/
noncomputable def Try.pinned : Pinned := { name := "ytinlmodkdjpocaa", sum := "ac4ba962c317e37201008aeff9bd54999b6649133fe51891ee5cce68fae958c4", checked := Try.checked }
namespace Rows
def none {H : Type} : Left H := { results := [], args := [] }

/-- 'concordancelaw9.TextSyms': WHATEVER THE INPUT: true; the input reads as it did. -/
def textSymsSpec : ChangeSpec := { name := "textSyms", fn := fun _ => fun
  | [d] => { results := [.lit (.bool true)], args := [d] }
  | _ => none }
def textSymsRow : OpenClaim := { program := "ytinlmodkdjpocaa", sum := "ac4ba962c317e37201008aeff9bd54999b6649133fe51891ee5cce68fae958c4", func := "concordance/concordancelaw9.TextSyms", spec := "textSyms", inPlace := ["internal/bytealg.IndexByte", "internal/bytealg.Index"], unfollowed := true, recurses := true, named := ["internal/bytealg.MaxLen"], apart := false }
def TextSymsSaid : Prop := textSymsRow.holds Try.pinned (OpenSpec.ofChange textSymsSpec)

/-- ITS FALSE NEIGHBOUR: 'it returns false'. Refute it at one input. -/
def textSymsWrong : ChangeSpec := { name := "textSyms", fn := fun _ => fun
  | [d] => { results := [.lit (.bool false)], args := [d] }
  | _ => none }
def TextSymsWrongFalsely : Prop := textSymsRow.holds Try.pinned (OpenSpec.ofChange textSymsWrong)

/-- 'concordancelaw9.TextNested': WHATEVER THE INPUT: true; the input reads as it did. -/
def textNestedSpec : ChangeSpec := { name := "textNested", fn := fun _ => fun
  | [d1, d2, d3] => { results := [.lit (.bool true)], args := [d1, d2, d3] }
  | _ => none }
def textNestedRow : OpenClaim := { program := "ytinlmodkdjpocaa", sum := "ac4ba962c317e37201008aeff9bd54999b6649133fe51891ee5cce68fae958c4", func := "concordance/concordancelaw9.TextNested", spec := "textNested", inPlace := ["internal/bytealg.IndexByte", "internal/bytealg.Index"], unfollowed := true, recurses := true, named := ["internal/bytealg.MaxLen"], apart := false }
def TextNestedSaid : Prop := textNestedRow.holds Try.pinned (OpenSpec.ofChange textNestedSpec)

/-- ITS FALSE NEIGHBOUR: 'it returns false'. Refute it at one input. -/
def textNestedWrong : ChangeSpec := { name := "textNested", fn := fun _ => fun
  | [d1, d2, d3] => { results := [.lit (.bool false)], args := [d1, d2, d3] }
  | _ => none }
def TextNestedWrongFalsely : Prop := textNestedRow.holds Try.pinned (OpenSpec.ofChange textNestedWrong)

/-- 'concordancelaw9.TextFinds': WHATEVER THE INPUT: true; the input reads as it did. -/
def textFindsSpec : ChangeSpec := { name := "textFinds", fn := fun _ => fun
  | [d1, d2, d3] => { results := [.lit (.bool true)], args := [d1, d2, d3] }
  | _ => none }
def textFindsRow : OpenClaim := { program := "ytinlmodkdjpocaa", sum := "ac4ba962c317e37201008aeff9bd54999b6649133fe51891ee5cce68fae958c4", func := "concordance/concordancelaw9.TextFinds", spec := "textFinds", inPlace := ["internal/bytealg.IndexByte", "internal/bytealg.Index"], unfollowed := true, recurses := true, named := ["internal/bytealg.MaxLen"], apart := false }
def TextFindsSaid : Prop := textFindsRow.holds Try.pinned (OpenSpec.ofChange textFindsSpec)

/-- ITS FALSE NEIGHBOUR: 'it returns false'. Refute it at one input. -/
def textFindsWrong : ChangeSpec := { name := "textFinds", fn := fun _ => fun
  | [d1, d2, d3] => { results := [.lit (.bool false)], args := [d1, d2, d3] }
  | _ => none }
def TextFindsWrongFalsely : Prop := textFindsRow.holds Try.pinned (OpenSpec.ofChange textFindsWrong)

/-- 'concordancelaw9.TextBounds': WHATEVER THE INPUT: true; the input reads as it did. -/
def textBoundsSpec : ChangeSpec := { name := "textBounds", fn := fun _ => fun
  | [d1, d2, d3] => { results := [.lit (.bool true)], args := [d1, d2, d3] }
  | _ => none }
def textBoundsRow : OpenClaim := { program := "ytinlmodkdjpocaa", sum := "ac4ba962c317e37201008aeff9bd54999b6649133fe51891ee5cce68fae958c4", func := "concordance/concordancelaw9.TextBounds", spec := "textBounds", inPlace := ["internal/bytealg.IndexByte", "internal/bytealg.Index"], unfollowed := true, recurses := true, named := ["internal/bytealg.MaxLen"], apart := false }
def TextBoundsSaid : Prop := textBoundsRow.holds Try.pinned (OpenSpec.ofChange textBoundsSpec)

/-- ITS FALSE NEIGHBOUR: 'it returns false'. Refute it at one input. -/
def textBoundsWrong : ChangeSpec := { name := "textBounds", fn := fun _ => fun
  | [d1, d2, d3] => { results := [.lit (.bool false)], args := [d1, d2, d3] }
  | _ => none }
def TextBoundsWrongFalsely : Prop := textBoundsRow.holds Try.pinned (OpenSpec.ofChange textBoundsWrong)

/-- 'concordancelaw9.TextPlaces': WHATEVER THE INPUT: true; the input reads as it did. -/
def textPlacesSpec : ChangeSpec := { name := "textPlaces", fn := fun _ => fun
  | [d] => { results := [.lit (.bool true)], args := [d] }
  | _ => none }
def textPlacesRow : OpenClaim := { program := "ytinlmodkdjpocaa", sum := "ac4ba962c317e37201008aeff9bd54999b6649133fe51891ee5cce68fae958c4", func := "concordance/concordancelaw9.TextPlaces", spec := "textPlaces", inPlace := ["internal/bytealg.IndexByte", "internal/bytealg.Index"], unfollowed := true, recurses := true, named := ["internal/bytealg.MaxLen"], apart := false }
def TextPlacesSaid : Prop := textPlacesRow.holds Try.pinned (OpenSpec.ofChange textPlacesSpec)

/-- ITS FALSE NEIGHBOUR: 'it returns false'. Refute it at one input. -/
def textPlacesWrong : ChangeSpec := { name := "textPlaces", fn := fun _ => fun
  | [d] => { results := [.lit (.bool false)], args := [d] }
  | _ => none }
def TextPlacesWrongFalsely : Prop := textPlacesRow.holds Try.pinned (OpenSpec.ofChange textPlacesWrong)

/-- 'concordancelaw12.BackNests': WHATEVER THE INPUT: true; the input reads as it did. -/
def backNestsSpec : ChangeSpec := { name := "backNests", fn := fun _ => fun
  | [d1, d2] => { results := [.lit (.bool true)], args := [d1, d2] }
  | _ => none }
def backNestsRow : OpenClaim := { program := "ytinlmodkdjpocaa", sum := "ac4ba962c317e37201008aeff9bd54999b6649133fe51891ee5cce68fae958c4", func := "concordance/concordancelaw12.BackNests", spec := "backNests", unfollowed := true, recurses := true, apart := false }
def BackNestsSaid : Prop := backNestsRow.holds Try.pinned (OpenSpec.ofChange backNestsSpec)

/-- ITS FALSE NEIGHBOUR: 'it returns false'. Refute it at one input. -/
def backNestsWrong : ChangeSpec := { name := "backNests", fn := fun _ => fun
  | [d1, d2] => { results := [.lit (.bool false)], args := [d1, d2] }
  | _ => none }
def BackNestsWrongFalsely : Prop := backNestsRow.holds Try.pinned (OpenSpec.ofChange backNestsWrong)

/-- 'concordancelaw12.BackSame': WHATEVER THE INPUT: true; the input reads as it did. -/
def backSameSpec : ChangeSpec := { name := "backSame", fn := fun _ => fun
  | [d1, d2] => { results := [.lit (.bool true)], args := [d1, d2] }
  | _ => none }
def backSameRow : OpenClaim := { program := "ytinlmodkdjpocaa", sum := "ac4ba962c317e37201008aeff9bd54999b6649133fe51891ee5cce68fae958c4", func := "concordance/concordancelaw12.BackSame", spec := "backSame", unfollowed := true, recurses := true, apart := false }
def BackSameSaid : Prop := backSameRow.holds Try.pinned (OpenSpec.ofChange backSameSpec)

/-- ITS FALSE NEIGHBOUR: 'it returns false'. Refute it at one input. -/
def backSameWrong : ChangeSpec := { name := "backSame", fn := fun _ => fun
  | [d1, d2] => { results := [.lit (.bool false)], args := [d1, d2] }
  | _ => none }
def BackSameWrongFalsely : Prop := backSameRow.holds Try.pinned (OpenSpec.ofChange backSameWrong)

/-- 'concordancelaw14.FmTells': WHATEVER THE INPUT: true; the input reads as it did. -/
def fmTellsSpec : ChangeSpec := { name := "fmTells", fn := fun _ => fun
  | [d1, d2, d3, d4, d5, d6] => { results := [.lit (.bool true)], args := [d1, d2, d3, d4, d5, d6] }
  | _ => none }
def fmTellsRow : OpenClaim := { program := "ytinlmodkdjpocaa", sum := "ac4ba962c317e37201008aeff9bd54999b6649133fe51891ee5cce68fae958c4", func := "concordance/concordancelaw14.FmTells", spec := "fmTells", unfollowed := true, recurses := true, apart := false }
def FmTellsSaid : Prop := fmTellsRow.holds Try.pinned (OpenSpec.ofChange fmTellsSpec)

/-- ITS FALSE NEIGHBOUR: 'it returns false'. Refute it at one input. -/
def fmTellsWrong : ChangeSpec := { name := "fmTells", fn := fun _ => fun
  | [d1, d2, d3, d4, d5, d6] => { results := [.lit (.bool false)], args := [d1, d2, d3, d4, d5, d6] }
  | _ => none }
def FmTellsWrongFalsely : Prop := fmTellsRow.holds Try.pinned (OpenSpec.ofChange fmTellsWrong)

/-- 'concordancelaw12.BackRanges': WHATEVER THE INPUT: true; the input reads as it did. -/
def backRangesSpec : ChangeSpec := { name := "backRanges", fn := fun _ => fun
  | [d1, d2] => { results := [.lit (.bool true)], args := [d1, d2] }
  | _ => none }
def backRangesRow : OpenClaim := { program := "ytinlmodkdjpocaa", sum := "ac4ba962c317e37201008aeff9bd54999b6649133fe51891ee5cce68fae958c4", func := "concordance/concordancelaw12.BackRanges", spec := "backRanges", unfollowed := true, recurses := true, apart := false }
def BackRangesSaid : Prop := backRangesRow.holds Try.pinned (OpenSpec.ofChange backRangesSpec)

/-- ITS FALSE NEIGHBOUR: 'it returns false'. Refute it at one input. -/
def backRangesWrong : ChangeSpec := { name := "backRanges", fn := fun _ => fun
  | [d1, d2] => { results := [.lit (.bool false)], args := [d1, d2] }
  | _ => none }
def BackRangesWrongFalsely : Prop := backRangesRow.holds Try.pinned (OpenSpec.ofChange backRangesWrong)

/-- 'concordancelaw12.BackSteps': WHATEVER THE INPUT: true; the input reads as it did. -/
def backStepsSpec : ChangeSpec := { name := "backSteps", fn := fun _ => fun
  | [d] => { results := [.lit (.bool true)], args := [d] }
  | _ => none }
def backStepsRow : OpenClaim := { program := "ytinlmodkdjpocaa", sum := "ac4ba962c317e37201008aeff9bd54999b6649133fe51891ee5cce68fae958c4", func := "concordance/concordancelaw12.BackSteps", spec := "backSteps", unfollowed := true, recurses := true, apart := false }
def BackStepsSaid : Prop := backStepsRow.holds Try.pinned (OpenSpec.ofChange backStepsSpec)

/-- ITS FALSE NEIGHBOUR: 'it returns false'. Refute it at one input. -/
def backStepsWrong : ChangeSpec := { name := "backSteps", fn := fun _ => fun
  | [d] => { results := [.lit (.bool false)], args := [d] }
  | _ => none }
def BackStepsWrongFalsely : Prop := backStepsRow.holds Try.pinned (OpenSpec.ofChange backStepsWrong)

/-- 'concordancelaw12.BackWalks': WHATEVER THE INPUT: true; the input reads as it did. -/
def backWalksSpec : ChangeSpec := { name := "backWalks", fn := fun _ => fun
  | [d1, d2, d3] => { results := [.lit (.bool true)], args := [d1, d2, d3] }
  | _ => none }
def backWalksRow : OpenClaim := { program := "ytinlmodkdjpocaa", sum := "ac4ba962c317e37201008aeff9bd54999b6649133fe51891ee5cce68fae958c4", func := "concordance/concordancelaw12.BackWalks", spec := "backWalks", unfollowed := true, recurses := true, apart := false }
def BackWalksSaid : Prop := backWalksRow.holds Try.pinned (OpenSpec.ofChange backWalksSpec)

/-- ITS FALSE NEIGHBOUR: 'it returns false'. Refute it at one input. -/
def backWalksWrong : ChangeSpec := { name := "backWalks", fn := fun _ => fun
  | [d1, d2, d3] => { results := [.lit (.bool false)], args := [d1, d2, d3] }
  | _ => none }
def BackWalksWrongFalsely : Prop := backWalksRow.holds Try.pinned (OpenSpec.ofChange backWalksWrong)

/-- 'concordancelaw13.WalkLong': WHATEVER THE INPUT: true; the input reads as it did. -/
def walkLongSpec : ChangeSpec := { name := "walkLong", fn := fun _ => fun
  | [d1, d2] => { results := [.lit (.bool true)], args := [d1, d2] }
  | _ => none }
def walkLongRow : OpenClaim := { program := "ytinlmodkdjpocaa", sum := "ac4ba962c317e37201008aeff9bd54999b6649133fe51891ee5cce68fae958c4", func := "concordance/concordancelaw13.WalkLong", spec := "walkLong", unfollowed := true, recurses := true, apart := false }
def WalkLongSaid : Prop := walkLongRow.holds Try.pinned (OpenSpec.ofChange walkLongSpec)

/-- ITS FALSE NEIGHBOUR: 'it returns false'. Refute it at one input. -/
def walkLongWrong : ChangeSpec := { name := "walkLong", fn := fun _ => fun
  | [d1, d2] => { results := [.lit (.bool false)], args := [d1, d2] }
  | _ => none }
def WalkLongWrongFalsely : Prop := walkLongRow.holds Try.pinned (OpenSpec.ofChange walkLongWrong)

/-- 'concordancelaw13.WalkPlaces': WHATEVER THE INPUT: true; the input reads as it did. -/
def walkPlacesSpec : ChangeSpec := { name := "walkPlaces", fn := fun _ => fun
  | [d1, d2, d3, d4] => { results := [.lit (.bool true)], args := [d1, d2, d3, d4] }
  | _ => none }
def walkPlacesRow : OpenClaim := { program := "ytinlmodkdjpocaa", sum := "ac4ba962c317e37201008aeff9bd54999b6649133fe51891ee5cce68fae958c4", func := "concordance/concordancelaw13.WalkPlaces", spec := "walkPlaces", unfollowed := true, recurses := true, apart := false }
def WalkPlacesSaid : Prop := walkPlacesRow.holds Try.pinned (OpenSpec.ofChange walkPlacesSpec)

/-- ITS FALSE NEIGHBOUR: 'it returns false'. Refute it at one input. -/
def walkPlacesWrong : ChangeSpec := { name := "walkPlaces", fn := fun _ => fun
  | [d1, d2, d3, d4] => { results := [.lit (.bool false)], args := [d1, d2, d3, d4] }
  | _ => none }
def WalkPlacesWrongFalsely : Prop := walkPlacesRow.holds Try.pinned (OpenSpec.ofChange walkPlacesWrong)

/-- 'concordancelaw13.WalkFrom': WHATEVER THE INPUT: true; the input reads as it did. -/
def walkFromSpec : ChangeSpec := { name := "walkFrom", fn := fun _ => fun
  | [d1, d2, d3] => { results := [.lit (.bool true)], args := [d1, d2, d3] }
  | _ => none }
def walkFromRow : OpenClaim := { program := "ytinlmodkdjpocaa", sum := "ac4ba962c317e37201008aeff9bd54999b6649133fe51891ee5cce68fae958c4", func := "concordance/concordancelaw13.WalkFrom", spec := "walkFrom", unfollowed := true, recurses := true, apart := false }
def WalkFromSaid : Prop := walkFromRow.holds Try.pinned (OpenSpec.ofChange walkFromSpec)

/-- ITS FALSE NEIGHBOUR: 'it returns false'. Refute it at one input. -/
def walkFromWrong : ChangeSpec := { name := "walkFrom", fn := fun _ => fun
  | [d1, d2, d3] => { results := [.lit (.bool false)], args := [d1, d2, d3] }
  | _ => none }
def WalkFromWrongFalsely : Prop := walkFromRow.holds Try.pinned (OpenSpec.ofChange walkFromWrong)

/-- 'concordancelaw14.FmRuns': WHATEVER THE INPUT: true; the input reads as it did. -/
def fmRunsSpec : ChangeSpec := { name := "fmRuns", fn := fun _ => fun
  | [d1, d2, d3, d4] => { results := [.lit (.bool true)], args := [d1, d2, d3, d4] }
  | _ => none }
def fmRunsRow : OpenClaim := { program := "ytinlmodkdjpocaa", sum := "ac4ba962c317e37201008aeff9bd54999b6649133fe51891ee5cce68fae958c4", func := "concordance/concordancelaw14.FmRuns", spec := "fmRuns", unfollowed := true, recurses := true, apart := false }
def FmRunsSaid : Prop := fmRunsRow.holds Try.pinned (OpenSpec.ofChange fmRunsSpec)

/-- ITS FALSE NEIGHBOUR: 'it returns false'. Refute it at one input. -/
def fmRunsWrong : ChangeSpec := { name := "fmRuns", fn := fun _ => fun
  | [d1, d2, d3, d4] => { results := [.lit (.bool false)], args := [d1, d2, d3, d4] }
  | _ => none }
def FmRunsWrongFalsely : Prop := fmRunsRow.holds Try.pinned (OpenSpec.ofChange fmRunsWrong)

/-- 'concordancelaw14.FmPieces': WHATEVER THE INPUT: true; the input reads as it did. -/
def fmPiecesSpec : ChangeSpec := { name := "fmPieces", fn := fun _ => fun
  | [d1, d2] => { results := [.lit (.bool true)], args := [d1, d2] }
  | _ => none }
def fmPiecesRow : OpenClaim := { program := "ytinlmodkdjpocaa", sum := "ac4ba962c317e37201008aeff9bd54999b6649133fe51891ee5cce68fae958c4", func := "concordance/concordancelaw14.FmPieces", spec := "fmPieces", unfollowed := true, recurses := true, apart := false }
def FmPiecesSaid : Prop := fmPiecesRow.holds Try.pinned (OpenSpec.ofChange fmPiecesSpec)

/-- ITS FALSE NEIGHBOUR: 'it returns false'. Refute it at one input. -/
def fmPiecesWrong : ChangeSpec := { name := "fmPieces", fn := fun _ => fun
  | [d1, d2] => { results := [.lit (.bool false)], args := [d1, d2] }
  | _ => none }
def FmPiecesWrongFalsely : Prop := fmPiecesRow.holds Try.pinned (OpenSpec.ofChange fmPiecesWrong)

/-- 'concordancelaw14.FmHits': WHATEVER THE INPUT: true; the input reads as it did. -/
def fmHitsSpec : ChangeSpec := { name := "fmHits", fn := fun _ => fun
  | [d1, d2, d3, d4] => { results := [.lit (.bool true)], args := [d1, d2, d3, d4] }
  | _ => none }
def fmHitsRow : OpenClaim := { program := "ytinlmodkdjpocaa", sum := "ac4ba962c317e37201008aeff9bd54999b6649133fe51891ee5cce68fae958c4", func := "concordance/concordancelaw14.FmHits", spec := "fmHits", unfollowed := true, recurses := true, apart := false }
def FmHitsSaid : Prop := fmHitsRow.holds Try.pinned (OpenSpec.ofChange fmHitsSpec)

/-- ITS FALSE NEIGHBOUR: 'it returns false'. Refute it at one input. -/
def fmHitsWrong : ChangeSpec := { name := "fmHits", fn := fun _ => fun
  | [d1, d2, d3, d4] => { results := [.lit (.bool false)], args := [d1, d2, d3, d4] }
  | _ => none }
def FmHitsWrongFalsely : Prop := fmHitsRow.holds Try.pinned (OpenSpec.ofChange fmHitsWrong)

/- THE SECOND FORM. 'bulk': how many values and letters a reading holds, each counted each time it is reached (what is shared counts as often as it is met; a slice's spare places count too). A statement '..UptoSaid' is the law's where the arguments, and the package variables that the reading takes, are together of bulk at most 1048576: NARROWER than '..Said'. Prove '..Said' where nothing that the law and all that it calls make is longer than what came in: it says more and counts as full. Else prove '..UptoSaid'. A law counts once. -/
mutual
def uptoBulk {H : Type} : DataW H → Nat
  | .lit (.string bytes) => bytes.length + 1
  | .lit _ => 1
  | .nil => 1
  | .ptr d => uptoBulk d + 1
  | .slice elems spare => uptoBulkAll elems + uptoBulkAll spare + 1
  | .agg parts => uptoBulkAll parts + 1
  | .iface _ d => uptoBulk d + 1
  | .map entries => uptoBulkEntries entries + 1
  | .held _ => 1
def uptoBulkAll {H : Type} : List (DataW H) → Nat
  | [] => 0
  | d :: r => uptoBulk d + uptoBulkAll r
def uptoBulkEntries {H : Type} : List (Lit × DataW H) → Nat
  | [] => 0
  | x :: r => uptoBulkEntry x + uptoBulkEntries r
def uptoBulkEntry {H : Type} : Lit × DataW H → Nat
  | (.string bytes, d) => bytes.length + uptoBulk d + 1
  | (_, d) => uptoBulk d + 1
 end
def uptoSmall : (H : Type) → List (DataW H) → Bool := fun _ ds => decide (uptoBulkAll ds ≤ 1048576)
def OpenSpec.upto (s : _root_.Go.ChangeSpec) : _root_.Go.OpenSpec := { _root_.Go.OpenSpec.ofChange s with cond := some uptoSmall }

/-- 'concordancelaw9.TextSyms', WHERE WHAT IT READS IS OF BULK AT MOST 1048576: true; the input reads as it did. -/
def textSymsUptoRow : OpenClaim := { program := "ytinlmodkdjpocaa", sum := "ac4ba962c317e37201008aeff9bd54999b6649133fe51891ee5cce68fae958c4", func := "concordance/concordancelaw9.TextSyms", spec := "textSyms", inPlace := ["internal/bytealg.IndexByte", "internal/bytealg.Index"], unfollowed := true, recurses := true, named := ["internal/bytealg.MaxLen"], apart := false, narrowed := true }
def TextSymsUptoSaid : Prop := textSymsUptoRow.holds Try.pinned (OpenSpec.upto textSymsSpec)

/-- 'concordancelaw9.TextNested', WHERE WHAT IT READS IS OF BULK AT MOST 1048576: true; the input reads as it did. -/
def textNestedUptoRow : OpenClaim := { program := "ytinlmodkdjpocaa", sum := "ac4ba962c317e37201008aeff9bd54999b6649133fe51891ee5cce68fae958c4", func := "concordance/concordancelaw9.TextNested", spec := "textNested", inPlace := ["internal/bytealg.IndexByte", "internal/bytealg.Index"], unfollowed := true, recurses := true, named := ["internal/bytealg.MaxLen"], apart := false, narrowed := true }
def TextNestedUptoSaid : Prop := textNestedUptoRow.holds Try.pinned (OpenSpec.upto textNestedSpec)

/-- 'concordancelaw9.TextFinds', WHERE WHAT IT READS IS OF BULK AT MOST 1048576: true; the input reads as it did. -/
def textFindsUptoRow : OpenClaim := { program := "ytinlmodkdjpocaa", sum := "ac4ba962c317e37201008aeff9bd54999b6649133fe51891ee5cce68fae958c4", func := "concordance/concordancelaw9.TextFinds", spec := "textFinds", inPlace := ["internal/bytealg.IndexByte", "internal/bytealg.Index"], unfollowed := true, recurses := true, named := ["internal/bytealg.MaxLen"], apart := false, narrowed := true }
def TextFindsUptoSaid : Prop := textFindsUptoRow.holds Try.pinned (OpenSpec.upto textFindsSpec)

/-- 'concordancelaw9.TextBounds', WHERE WHAT IT READS IS OF BULK AT MOST 1048576: true; the input reads as it did. -/
def textBoundsUptoRow : OpenClaim := { program := "ytinlmodkdjpocaa", sum := "ac4ba962c317e37201008aeff9bd54999b6649133fe51891ee5cce68fae958c4", func := "concordance/concordancelaw9.TextBounds", spec := "textBounds", inPlace := ["internal/bytealg.IndexByte", "internal/bytealg.Index"], unfollowed := true, recurses := true, named := ["internal/bytealg.MaxLen"], apart := false, narrowed := true }
def TextBoundsUptoSaid : Prop := textBoundsUptoRow.holds Try.pinned (OpenSpec.upto textBoundsSpec)

/-- 'concordancelaw9.TextPlaces', WHERE WHAT IT READS IS OF BULK AT MOST 1048576: true; the input reads as it did. -/
def textPlacesUptoRow : OpenClaim := { program := "ytinlmodkdjpocaa", sum := "ac4ba962c317e37201008aeff9bd54999b6649133fe51891ee5cce68fae958c4", func := "concordance/concordancelaw9.TextPlaces", spec := "textPlaces", inPlace := ["internal/bytealg.IndexByte", "internal/bytealg.Index"], unfollowed := true, recurses := true, named := ["internal/bytealg.MaxLen"], apart := false, narrowed := true }
def TextPlacesUptoSaid : Prop := textPlacesUptoRow.holds Try.pinned (OpenSpec.upto textPlacesSpec)

/-- 'concordancelaw12.BackNests', WHERE WHAT IT READS IS OF BULK AT MOST 1048576: true; the input reads as it did. -/
def backNestsUptoRow : OpenClaim := { program := "ytinlmodkdjpocaa", sum := "ac4ba962c317e37201008aeff9bd54999b6649133fe51891ee5cce68fae958c4", func := "concordance/concordancelaw12.BackNests", spec := "backNests", unfollowed := true, recurses := true, apart := false, narrowed := true }
def BackNestsUptoSaid : Prop := backNestsUptoRow.holds Try.pinned (OpenSpec.upto backNestsSpec)

/-- 'concordancelaw12.BackSame', WHERE WHAT IT READS IS OF BULK AT MOST 1048576: true; the input reads as it did. -/
def backSameUptoRow : OpenClaim := { program := "ytinlmodkdjpocaa", sum := "ac4ba962c317e37201008aeff9bd54999b6649133fe51891ee5cce68fae958c4", func := "concordance/concordancelaw12.BackSame", spec := "backSame", unfollowed := true, recurses := true, apart := false, narrowed := true }
def BackSameUptoSaid : Prop := backSameUptoRow.holds Try.pinned (OpenSpec.upto backSameSpec)

/-- 'concordancelaw14.FmTells', WHERE WHAT IT READS IS OF BULK AT MOST 1048576: true; the input reads as it did. -/
def fmTellsUptoRow : OpenClaim := { program := "ytinlmodkdjpocaa", sum := "ac4ba962c317e37201008aeff9bd54999b6649133fe51891ee5cce68fae958c4", func := "concordance/concordancelaw14.FmTells", spec := "fmTells", unfollowed := true, recurses := true, apart := false, narrowed := true }
def FmTellsUptoSaid : Prop := fmTellsUptoRow.holds Try.pinned (OpenSpec.upto fmTellsSpec)

/-- 'concordancelaw12.BackRanges', WHERE WHAT IT READS IS OF BULK AT MOST 1048576: true; the input reads as it did. -/
def backRangesUptoRow : OpenClaim := { program := "ytinlmodkdjpocaa", sum := "ac4ba962c317e37201008aeff9bd54999b6649133fe51891ee5cce68fae958c4", func := "concordance/concordancelaw12.BackRanges", spec := "backRanges", unfollowed := true, recurses := true, apart := false, narrowed := true }
def BackRangesUptoSaid : Prop := backRangesUptoRow.holds Try.pinned (OpenSpec.upto backRangesSpec)

/-- 'concordancelaw12.BackSteps', WHERE WHAT IT READS IS OF BULK AT MOST 1048576: true; the input reads as it did. -/
def backStepsUptoRow : OpenClaim := { program := "ytinlmodkdjpocaa", sum := "ac4ba962c317e37201008aeff9bd54999b6649133fe51891ee5cce68fae958c4", func := "concordance/concordancelaw12.BackSteps", spec := "backSteps", unfollowed := true, recurses := true, apart := false, narrowed := true }
def BackStepsUptoSaid : Prop := backStepsUptoRow.holds Try.pinned (OpenSpec.upto backStepsSpec)

/-- 'concordancelaw12.BackWalks', WHERE WHAT IT READS IS OF BULK AT MOST 1048576: true; the input reads as it did. -/
def backWalksUptoRow : OpenClaim := { program := "ytinlmodkdjpocaa", sum := "ac4ba962c317e37201008aeff9bd54999b6649133fe51891ee5cce68fae958c4", func := "concordance/concordancelaw12.BackWalks", spec := "backWalks", unfollowed := true, recurses := true, apart := false, narrowed := true }
def BackWalksUptoSaid : Prop := backWalksUptoRow.holds Try.pinned (OpenSpec.upto backWalksSpec)

/-- 'concordancelaw13.WalkLong', WHERE WHAT IT READS IS OF BULK AT MOST 1048576: true; the input reads as it did. -/
def walkLongUptoRow : OpenClaim := { program := "ytinlmodkdjpocaa", sum := "ac4ba962c317e37201008aeff9bd54999b6649133fe51891ee5cce68fae958c4", func := "concordance/concordancelaw13.WalkLong", spec := "walkLong", unfollowed := true, recurses := true, apart := false, narrowed := true }
def WalkLongUptoSaid : Prop := walkLongUptoRow.holds Try.pinned (OpenSpec.upto walkLongSpec)

/-- 'concordancelaw13.WalkPlaces', WHERE WHAT IT READS IS OF BULK AT MOST 1048576: true; the input reads as it did. -/
def walkPlacesUptoRow : OpenClaim := { program := "ytinlmodkdjpocaa", sum := "ac4ba962c317e37201008aeff9bd54999b6649133fe51891ee5cce68fae958c4", func := "concordance/concordancelaw13.WalkPlaces", spec := "walkPlaces", unfollowed := true, recurses := true, apart := false, narrowed := true }
def WalkPlacesUptoSaid : Prop := walkPlacesUptoRow.holds Try.pinned (OpenSpec.upto walkPlacesSpec)

/-- 'concordancelaw13.WalkFrom', WHERE WHAT IT READS IS OF BULK AT MOST 1048576: true; the input reads as it did. -/
def walkFromUptoRow : OpenClaim := { program := "ytinlmodkdjpocaa", sum := "ac4ba962c317e37201008aeff9bd54999b6649133fe51891ee5cce68fae958c4", func := "concordance/concordancelaw13.WalkFrom", spec := "walkFrom", unfollowed := true, recurses := true, apart := false, narrowed := true }
def WalkFromUptoSaid : Prop := walkFromUptoRow.holds Try.pinned (OpenSpec.upto walkFromSpec)

/-- 'concordancelaw14.FmRuns', WHERE WHAT IT READS IS OF BULK AT MOST 1048576: true; the input reads as it did. -/
def fmRunsUptoRow : OpenClaim := { program := "ytinlmodkdjpocaa", sum := "ac4ba962c317e37201008aeff9bd54999b6649133fe51891ee5cce68fae958c4", func := "concordance/concordancelaw14.FmRuns", spec := "fmRuns", unfollowed := true, recurses := true, apart := false, narrowed := true }
def FmRunsUptoSaid : Prop := fmRunsUptoRow.holds Try.pinned (OpenSpec.upto fmRunsSpec)

/-- 'concordancelaw14.FmPieces', WHERE WHAT IT READS IS OF BULK AT MOST 1048576: true; the input reads as it did. -/
def fmPiecesUptoRow : OpenClaim := { program := "ytinlmodkdjpocaa", sum := "ac4ba962c317e37201008aeff9bd54999b6649133fe51891ee5cce68fae958c4", func := "concordance/concordancelaw14.FmPieces", spec := "fmPieces", unfollowed := true, recurses := true, apart := false, narrowed := true }
def FmPiecesUptoSaid : Prop := fmPiecesUptoRow.holds Try.pinned (OpenSpec.upto fmPiecesSpec)

/-- 'concordancelaw14.FmHits', WHERE WHAT IT READS IS OF BULK AT MOST 1048576: true; the input reads as it did. -/
def fmHitsUptoRow : OpenClaim := { program := "ytinlmodkdjpocaa", sum := "ac4ba962c317e37201008aeff9bd54999b6649133fe51891ee5cce68fae958c4", func := "concordance/concordancelaw14.FmHits", spec := "fmHits", unfollowed := true, recurses := true, apart := false, narrowed := true }
def FmHitsUptoSaid : Prop := fmHitsUptoRow.holds Try.pinned (OpenSpec.upto fmHitsSpec)

end Rows
end Go.Proofs.Ytinlmodkdjpocaa
