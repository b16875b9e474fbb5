/-
  NARROWER THAN 'FOR EVERY INPUT', by the rows' own cells (each row's printed sentence says how): TopTurns: laid · TopPriors: laid · TopSemaphores: laid · TopReckons: laid · TopLoops: laid · TopCalls: laid · TopBlocks: laid · TopSorts: laid · TopFactors: laid · TopPlaced: laid · TopSpeaks: laid · TopAsked: laid.
  DERIVED. THE GIVEN ROWS OF THIS SEAT. 12 by the template 'for every input the law returns true; each argument reads behind the call as it read before'; 0 by the template 'total and deterministic' (their statements: YtlfbommppenlcaaGreatDoorTotals.lean).
  GIVEN WITH THE SEED: the statements are not yours to turn. If you find one false, say at which input.
  Laid BY PROGRAM, IN A SANDBOX (cutbox-rows.mjs): the forced cells as the released guide's own fill.sh prints them over the translation 7d2d7ffcb730c5f3… (all of the seat's roots in one cut). By AI agents, Wed Nov 11 2026. No macro, syntax, notation, axiom, sorry.
-/
import Derived.Test.YtlfbommppenlcaaGreatDoorChecked
import GoSem.Claim
import GoSem.ClaimJoined
import GoSem.ClaimMapViews
import Derived.JoinedTies
import Derived.KernelRfl
namespace Go.Proofs.YtlfbommppenlcaaGreatDoor
/- THE CELL 'sum', in the pinned program and in every row, IS THE sha256 OF THE DUMP (.gsa) THAT YtlfbommppenlcaaGreatDoorProg.lean LOADS. Nothing in Lean hashes anything: it is a label: what it is worth is what the hold of that sum in a sandbox is worth. -/
noncomputable def Tryz.pinned : Pinned := { name := "ytlfbommppenlcaagreatdoor", sum := "7d2d7ffcb730c5f3927c0117a1ca624d6f11e9ab81c06c960eccbdbfa0c9ec80", checked := Tryz.checked }
namespace Rows
def none {H : Type} : Left H := { results := [], args := [] }

/- WHAT THE LISTED PACKAGE-LEVEL VARIABLES READ AS WHEN THE CALL BEGINS. Each datum BY PROGRAM (the guide's laid-datum.mjs) off the statement by which the dump's own 'gosem.cut.vars' lays the variable. In a bare row this is a premise. The card (YtlfbommppenlcaaGreatDoorCards.lean) ties it to the program's text. -/
def laid_webster_code_spans {H : Type} : DataW H := .agg [.agg [.lit (.int .i64 0), .lit (.int .i64 15), .lit (.int .i64 1)], .agg [.lit (.int .i64 16), .lit (.int .i64 31), .lit (.int .i64 2)], .agg [.lit (.int .i64 32), .lit (.int .i64 63), .lit (.int .i64 3)], .agg [.lit (.int .i64 64), .lit (.int .i64 95), .lit (.int .i64 4)], .agg [.lit (.int .i64 96), .lit (.int .i64 103), .lit (.int .i64 8)], .agg [.lit (.int .i64 104), .lit (.int .i64 111), .lit (.int .i64 9)], .agg [.lit (.int .i64 176), .lit (.int .i64 191), .lit (.int .i64 25)], .agg [.lit (.int .i64 192), .lit (.int .i64 207), .lit (.int .i64 26)]]
def laid_webster_code_stores {H : Type} : DataW H := .agg [.agg [.lit (.int .i64 1), .lit (.int .i64 2), .lit (.int .i64 3), .lit (.int .i64 4)], .agg [.lit (.int .i64 5), .lit (.int .i64 6), .lit (.int .i64 0), .lit (.int .i64 7)], .agg [.lit (.int .i64 8), .lit (.int .i64 9), .lit (.int .i64 0), .lit (.int .i64 10)]]
def laid_webster_prim_counts {H : Type} : DataW H := .agg [.agg [.lit (.int .i64 1), .lit (.int .i64 1)], .agg [.lit (.int .i64 2), .lit (.int .i64 1)], .agg [.lit (.int .i64 3), .lit (.int .i64 1)], .agg [.lit (.int .i64 4), .lit (.int .i64 1)], .agg [.lit (.int .i64 5), .lit (.int .i64 1)], .agg [.lit (.int .i64 6), .lit (.int .i64 1)], .agg [.lit (.int .i64 7), .lit (.int .i64 1)], .agg [.lit (.int .i64 8), .lit (.int .i64 1)], .agg [.lit (.int .i64 9), .lit (.int .i64 1)], .agg [.lit (.int .i64 10), .lit (.int .i64 1)], .agg [.lit (.int .i64 11), .lit (.int .i64 1)], .agg [.lit (.int .i64 12), .lit (.int .i64 1)], .agg [.lit (.int .i64 14), .lit (.int .i64 1)], .agg [.lit (.int .i64 15), .lit (.int .i64 1)], .agg [.lit (.int .i64 21), .lit (.int .i64 1)], .agg [.lit (.int .i64 22), .lit (.int .i64 1)], .agg [.lit (.int .i64 29), .lit (.int .i64 1)], .agg [.lit (.int .i64 60), .lit (.int .i64 1)], .agg [.lit (.int .i64 61), .lit (.int .i64 2)], .agg [.lit (.int .i64 62), .lit (.int .i64 0)], .agg [.lit (.int .i64 70), .lit (.int .i64 0)], .agg [.lit (.int .i64 71), .lit (.int .i64 1)], .agg [.lit (.int .i64 72), .lit (.int .i64 1)], .agg [.lit (.int .i64 73), .lit (.int .i64 1)], .agg [.lit (.int .i64 74), .lit (.int .i64 2)], .agg [.lit (.int .i64 75), .lit (.int .i64 0)], .agg [.lit (.int .i64 76), .lit (.int .i64 0)], .agg [.lit (.int .i64 110), .lit (.int .i64 1)], .agg [.lit (.int .i64 111), .lit (.int .i64 0)]]
def laid_webster_interp_counts {H : Type} : DataW H := .agg [.lit (.int .i64 1), .lit (.int .i64 2), .lit (.int .i64 0), .lit (.int .i64 0), .lit (.int .i64 1), .lit (.int .i64 0), .lit (.int .i64 0), .lit (.int .i64 0), .lit (.int .i64 1), .lit (.int .i64 0), .lit (.int .i64 1), .lit (.int .i64 1), .lit (.int .i64 0), .lit (.int .i64 1), .lit (.int .i64 0), .lit (.int .i64 0)]

/-- 'webstertop.TopTurns': WHATEVER THE INPUT: true; the input reads as it did. -/
def topTurnsSpec : ChangeSpec := { name := "topTurns", fn := fun _ => fun
  | [d] => { results := [.lit (.bool true)], args := [d] }
  | _ => none }
def topTurnsRow : OpenClaim := { program := "ytlfbommppenlcaagreatdoor", sum := "7d2d7ffcb730c5f3927c0117a1ca624d6f11e9ab81c06c960eccbdbfa0c9ec80", func := "webster/webstertop.TopTurns", spec := "topTurns", unfollowed := true, recurses := true, named := ["webster/code.spans", "webster/code.stores"], plainKeys := false, apart := false, laid := [("webster/code.spans", laid_webster_code_spans), ("webster/code.stores", laid_webster_code_stores)] }
def TopTurnsSaid : Prop := topTurnsRow.holds Tryz.pinned (OpenSpec.ofChange topTurnsSpec)

/-- ITS FALSE NEIGHBOUR: 'it returns false'. Refute it at one input. -/
def topTurnsWrong : ChangeSpec := { name := "topTurns", fn := fun _ => fun
  | [d] => { results := [.lit (.bool false)], args := [d] }
  | _ => none }
def TopTurnsWrongFalsely : Prop := topTurnsRow.holds Tryz.pinned (OpenSpec.ofChange topTurnsWrong)

/-- 'webstertop.TopPriors': WHATEVER THE INPUT: true; the input reads as it did. -/
def topPriorsSpec : ChangeSpec := { name := "topPriors", fn := fun _ => fun
  | [d1, d2] => { results := [.lit (.bool true)], args := [d1, d2] }
  | _ => none }
def topPriorsRow : OpenClaim := { program := "ytlfbommppenlcaagreatdoor", sum := "7d2d7ffcb730c5f3927c0117a1ca624d6f11e9ab81c06c960eccbdbfa0c9ec80", func := "webster/webstertop.TopPriors", spec := "topPriors", unfollowed := true, recurses := true, named := ["webster/code.spans", "webster/code.stores"], plainKeys := false, apart := false, laid := [("webster/code.spans", laid_webster_code_spans), ("webster/code.stores", laid_webster_code_stores)] }
def TopPriorsSaid : Prop := topPriorsRow.holds Tryz.pinned (OpenSpec.ofChange topPriorsSpec)

/-- ITS FALSE NEIGHBOUR: 'it returns false'. Refute it at one input. -/
def topPriorsWrong : ChangeSpec := { name := "topPriors", fn := fun _ => fun
  | [d1, d2] => { results := [.lit (.bool false)], args := [d1, d2] }
  | _ => none }
def TopPriorsWrongFalsely : Prop := topPriorsRow.holds Tryz.pinned (OpenSpec.ofChange topPriorsWrong)

/-- 'webstertop.TopSemaphores': WHATEVER THE INPUT: true; the input reads as it did. -/
def topSemaphoresSpec : ChangeSpec := { name := "topSemaphores", fn := fun _ => fun
  | [d1, d2, d3] => { results := [.lit (.bool true)], args := [d1, d2, d3] }
  | _ => none }
def topSemaphoresRow : OpenClaim := { program := "ytlfbommppenlcaagreatdoor", sum := "7d2d7ffcb730c5f3927c0117a1ca624d6f11e9ab81c06c960eccbdbfa0c9ec80", func := "webster/webstertop.TopSemaphores", spec := "topSemaphores", unfollowed := true, recurses := true, named := ["webster/code.spans", "webster/code.stores"], plainKeys := false, apart := false, laid := [("webster/code.spans", laid_webster_code_spans), ("webster/code.stores", laid_webster_code_stores)] }
def TopSemaphoresSaid : Prop := topSemaphoresRow.holds Tryz.pinned (OpenSpec.ofChange topSemaphoresSpec)

/-- ITS FALSE NEIGHBOUR: 'it returns false'. Refute it at one input. -/
def topSemaphoresWrong : ChangeSpec := { name := "topSemaphores", fn := fun _ => fun
  | [d1, d2, d3] => { results := [.lit (.bool false)], args := [d1, d2, d3] }
  | _ => none }
def TopSemaphoresWrongFalsely : Prop := topSemaphoresRow.holds Tryz.pinned (OpenSpec.ofChange topSemaphoresWrong)

/-- 'webstertop.TopReckons': WHATEVER THE INPUT: true; the input reads as it did. -/
def topReckonsSpec : ChangeSpec := { name := "topReckons", fn := fun _ => fun
  | [d1, d2, d3, d4] => { results := [.lit (.bool true)], args := [d1, d2, d3, d4] }
  | _ => none }
def topReckonsRow : OpenClaim := { program := "ytlfbommppenlcaagreatdoor", sum := "7d2d7ffcb730c5f3927c0117a1ca624d6f11e9ab81c06c960eccbdbfa0c9ec80", func := "webster/webstertop.TopReckons", spec := "topReckons", unfollowed := true, recurses := true, named := ["webster/code.spans", "webster/code.stores", "webster/prim.counts", "webster/interp.counts"], plainKeys := false, apart := false, laid := [("webster/code.spans", laid_webster_code_spans), ("webster/code.stores", laid_webster_code_stores), ("webster/prim.counts", laid_webster_prim_counts), ("webster/interp.counts", laid_webster_interp_counts)] }
def TopReckonsSaid : Prop := topReckonsRow.holds Tryz.pinned (OpenSpec.ofChange topReckonsSpec)

/-- ITS FALSE NEIGHBOUR: 'it returns false'. Refute it at one input. -/
def topReckonsWrong : ChangeSpec := { name := "topReckons", fn := fun _ => fun
  | [d1, d2, d3, d4] => { results := [.lit (.bool false)], args := [d1, d2, d3, d4] }
  | _ => none }
def TopReckonsWrongFalsely : Prop := topReckonsRow.holds Tryz.pinned (OpenSpec.ofChange topReckonsWrong)

/-- 'webstertop.TopLoops': WHATEVER THE INPUT: true; the input reads as it did. -/
def topLoopsSpec : ChangeSpec := { name := "topLoops", fn := fun _ => fun
  | [d1, d2, d3, d4] => { results := [.lit (.bool true)], args := [d1, d2, d3, d4] }
  | _ => none }
def topLoopsRow : OpenClaim := { program := "ytlfbommppenlcaagreatdoor", sum := "7d2d7ffcb730c5f3927c0117a1ca624d6f11e9ab81c06c960eccbdbfa0c9ec80", func := "webster/webstertop.TopLoops", spec := "topLoops", unfollowed := true, recurses := true, named := ["webster/code.spans", "webster/code.stores", "webster/prim.counts", "webster/interp.counts"], plainKeys := false, apart := false, laid := [("webster/code.spans", laid_webster_code_spans), ("webster/code.stores", laid_webster_code_stores), ("webster/prim.counts", laid_webster_prim_counts), ("webster/interp.counts", laid_webster_interp_counts)] }
def TopLoopsSaid : Prop := topLoopsRow.holds Tryz.pinned (OpenSpec.ofChange topLoopsSpec)

/-- ITS FALSE NEIGHBOUR: 'it returns false'. Refute it at one input. -/
def topLoopsWrong : ChangeSpec := { name := "topLoops", fn := fun _ => fun
  | [d1, d2, d3, d4] => { results := [.lit (.bool false)], args := [d1, d2, d3, d4] }
  | _ => none }
def TopLoopsWrongFalsely : Prop := topLoopsRow.holds Tryz.pinned (OpenSpec.ofChange topLoopsWrong)

/-- 'webstertop.TopCalls': WHATEVER THE INPUT: true; the input reads as it did. -/
def topCallsSpec : ChangeSpec := { name := "topCalls", fn := fun _ => fun
  | [d1, d2, d3, d4, d5, d6, d7, d8] => { results := [.lit (.bool true)], args := [d1, d2, d3, d4, d5, d6, d7, d8] }
  | _ => none }
def topCallsRow : OpenClaim := { program := "ytlfbommppenlcaagreatdoor", sum := "7d2d7ffcb730c5f3927c0117a1ca624d6f11e9ab81c06c960eccbdbfa0c9ec80", func := "webster/webstertop.TopCalls", spec := "topCalls", unfollowed := true, recurses := true, named := ["webster/code.spans", "webster/code.stores", "webster/prim.counts", "webster/interp.counts"], plainKeys := false, apart := false, laid := [("webster/code.spans", laid_webster_code_spans), ("webster/code.stores", laid_webster_code_stores), ("webster/prim.counts", laid_webster_prim_counts), ("webster/interp.counts", laid_webster_interp_counts)] }
def TopCallsSaid : Prop := topCallsRow.holds Tryz.pinned (OpenSpec.ofChange topCallsSpec)

/-- ITS FALSE NEIGHBOUR: 'it returns false'. Refute it at one input. -/
def topCallsWrong : ChangeSpec := { name := "topCalls", fn := fun _ => fun
  | [d1, d2, d3, d4, d5, d6, d7, d8] => { results := [.lit (.bool false)], args := [d1, d2, d3, d4, d5, d6, d7, d8] }
  | _ => none }
def TopCallsWrongFalsely : Prop := topCallsRow.holds Tryz.pinned (OpenSpec.ofChange topCallsWrong)

/-- 'webstertop.TopBlocks': WHATEVER THE INPUT: true; the input reads as it did. -/
def topBlocksSpec : ChangeSpec := { name := "topBlocks", fn := fun _ => fun
  | [d1, d2, d3, d4] => { results := [.lit (.bool true)], args := [d1, d2, d3, d4] }
  | _ => none }
def topBlocksRow : OpenClaim := { program := "ytlfbommppenlcaagreatdoor", sum := "7d2d7ffcb730c5f3927c0117a1ca624d6f11e9ab81c06c960eccbdbfa0c9ec80", func := "webster/webstertop.TopBlocks", spec := "topBlocks", unfollowed := true, recurses := true, named := ["webster/code.spans", "webster/code.stores", "webster/prim.counts", "webster/interp.counts"], plainKeys := false, apart := false, laid := [("webster/code.spans", laid_webster_code_spans), ("webster/code.stores", laid_webster_code_stores), ("webster/prim.counts", laid_webster_prim_counts), ("webster/interp.counts", laid_webster_interp_counts)] }
def TopBlocksSaid : Prop := topBlocksRow.holds Tryz.pinned (OpenSpec.ofChange topBlocksSpec)

/-- ITS FALSE NEIGHBOUR: 'it returns false'. Refute it at one input. -/
def topBlocksWrong : ChangeSpec := { name := "topBlocks", fn := fun _ => fun
  | [d1, d2, d3, d4] => { results := [.lit (.bool false)], args := [d1, d2, d3, d4] }
  | _ => none }
def TopBlocksWrongFalsely : Prop := topBlocksRow.holds Tryz.pinned (OpenSpec.ofChange topBlocksWrong)

/-- 'webstertop.TopSorts': WHATEVER THE INPUT: true; the input reads as it did. -/
def topSortsSpec : ChangeSpec := { name := "topSorts", fn := fun _ => fun
  | [d1, d2, d3] => { results := [.lit (.bool true)], args := [d1, d2, d3] }
  | _ => none }
def topSortsRow : OpenClaim := { program := "ytlfbommppenlcaagreatdoor", sum := "7d2d7ffcb730c5f3927c0117a1ca624d6f11e9ab81c06c960eccbdbfa0c9ec80", func := "webster/webstertop.TopSorts", spec := "topSorts", unfollowed := true, recurses := true, named := ["webster/code.spans", "webster/code.stores", "webster/prim.counts", "webster/interp.counts"], plainKeys := false, apart := false, laid := [("webster/code.spans", laid_webster_code_spans), ("webster/code.stores", laid_webster_code_stores), ("webster/prim.counts", laid_webster_prim_counts), ("webster/interp.counts", laid_webster_interp_counts)] }
def TopSortsSaid : Prop := topSortsRow.holds Tryz.pinned (OpenSpec.ofChange topSortsSpec)

/-- ITS FALSE NEIGHBOUR: 'it returns false'. Refute it at one input. -/
def topSortsWrong : ChangeSpec := { name := "topSorts", fn := fun _ => fun
  | [d1, d2, d3] => { results := [.lit (.bool false)], args := [d1, d2, d3] }
  | _ => none }
def TopSortsWrongFalsely : Prop := topSortsRow.holds Tryz.pinned (OpenSpec.ofChange topSortsWrong)

/-- 'webstertop.TopFactors': WHATEVER THE INPUT: true; the input reads as it did. -/
def topFactorsSpec : ChangeSpec := { name := "topFactors", fn := fun _ => fun
  | [d1, d2, d3] => { results := [.lit (.bool true)], args := [d1, d2, d3] }
  | _ => none }
def topFactorsRow : OpenClaim := { program := "ytlfbommppenlcaagreatdoor", sum := "7d2d7ffcb730c5f3927c0117a1ca624d6f11e9ab81c06c960eccbdbfa0c9ec80", func := "webster/webstertop.TopFactors", spec := "topFactors", unfollowed := true, recurses := true, named := ["webster/code.spans", "webster/code.stores", "webster/prim.counts", "webster/interp.counts"], plainKeys := false, apart := false, laid := [("webster/code.spans", laid_webster_code_spans), ("webster/code.stores", laid_webster_code_stores), ("webster/prim.counts", laid_webster_prim_counts), ("webster/interp.counts", laid_webster_interp_counts)] }
def TopFactorsSaid : Prop := topFactorsRow.holds Tryz.pinned (OpenSpec.ofChange topFactorsSpec)

/-- ITS FALSE NEIGHBOUR: 'it returns false'. Refute it at one input. -/
def topFactorsWrong : ChangeSpec := { name := "topFactors", fn := fun _ => fun
  | [d1, d2, d3] => { results := [.lit (.bool false)], args := [d1, d2, d3] }
  | _ => none }
def TopFactorsWrongFalsely : Prop := topFactorsRow.holds Tryz.pinned (OpenSpec.ofChange topFactorsWrong)

/-- 'webstertop.TopPlaced': WHATEVER THE INPUT: true; the input reads as it did. -/
def topPlacedSpec : ChangeSpec := { name := "topPlaced", fn := fun _ => fun
  | [d1, d2, d3, d4] => { results := [.lit (.bool true)], args := [d1, d2, d3, d4] }
  | _ => none }
def topPlacedRow : OpenClaim := { program := "ytlfbommppenlcaagreatdoor", sum := "7d2d7ffcb730c5f3927c0117a1ca624d6f11e9ab81c06c960eccbdbfa0c9ec80", func := "webster/webstertop.TopPlaced", spec := "topPlaced", unfollowed := true, recurses := true, named := ["webster/code.spans", "webster/code.stores", "webster/prim.counts", "webster/interp.counts"], plainKeys := false, apart := false, laid := [("webster/code.spans", laid_webster_code_spans), ("webster/code.stores", laid_webster_code_stores), ("webster/prim.counts", laid_webster_prim_counts), ("webster/interp.counts", laid_webster_interp_counts)] }
def TopPlacedSaid : Prop := topPlacedRow.holds Tryz.pinned (OpenSpec.ofChange topPlacedSpec)

/-- ITS FALSE NEIGHBOUR: 'it returns false'. Refute it at one input. -/
def topPlacedWrong : ChangeSpec := { name := "topPlaced", fn := fun _ => fun
  | [d1, d2, d3, d4] => { results := [.lit (.bool false)], args := [d1, d2, d3, d4] }
  | _ => none }
def TopPlacedWrongFalsely : Prop := topPlacedRow.holds Tryz.pinned (OpenSpec.ofChange topPlacedWrong)

/-- 'webstertop.TopSpeaks': WHATEVER THE INPUT: true; the input reads as it did. -/
def topSpeaksSpec : ChangeSpec := { name := "topSpeaks", fn := fun _ => fun
  | [d1, d2, d3] => { results := [.lit (.bool true)], args := [d1, d2, d3] }
  | _ => none }
def topSpeaksRow : OpenClaim := { program := "ytlfbommppenlcaagreatdoor", sum := "7d2d7ffcb730c5f3927c0117a1ca624d6f11e9ab81c06c960eccbdbfa0c9ec80", func := "webster/webstertop.TopSpeaks", spec := "topSpeaks", unfollowed := true, recurses := true, named := ["webster/code.spans", "webster/code.stores", "webster/prim.counts", "webster/interp.counts"], plainKeys := false, apart := false, laid := [("webster/code.spans", laid_webster_code_spans), ("webster/code.stores", laid_webster_code_stores), ("webster/prim.counts", laid_webster_prim_counts), ("webster/interp.counts", laid_webster_interp_counts)] }
def TopSpeaksSaid : Prop := topSpeaksRow.holds Tryz.pinned (OpenSpec.ofChange topSpeaksSpec)

/-- ITS FALSE NEIGHBOUR: 'it returns false'. Refute it at one input. -/
def topSpeaksWrong : ChangeSpec := { name := "topSpeaks", fn := fun _ => fun
  | [d1, d2, d3] => { results := [.lit (.bool false)], args := [d1, d2, d3] }
  | _ => none }
def TopSpeaksWrongFalsely : Prop := topSpeaksRow.holds Tryz.pinned (OpenSpec.ofChange topSpeaksWrong)

/-- 'webstertop.TopAsked': WHATEVER THE INPUT: true; the input reads as it did. -/
def topAskedSpec : ChangeSpec := { name := "topAsked", fn := fun _ => fun
  | [d1, d2, d3] => { results := [.lit (.bool true)], args := [d1, d2, d3] }
  | _ => none }
def topAskedRow : OpenClaim := { program := "ytlfbommppenlcaagreatdoor", sum := "7d2d7ffcb730c5f3927c0117a1ca624d6f11e9ab81c06c960eccbdbfa0c9ec80", func := "webster/webstertop.TopAsked", spec := "topAsked", unfollowed := true, recurses := true, named := ["webster/code.spans", "webster/code.stores", "webster/prim.counts", "webster/interp.counts"], plainKeys := false, apart := false, laid := [("webster/code.spans", laid_webster_code_spans), ("webster/code.stores", laid_webster_code_stores), ("webster/prim.counts", laid_webster_prim_counts), ("webster/interp.counts", laid_webster_interp_counts)] }
def TopAskedSaid : Prop := topAskedRow.holds Tryz.pinned (OpenSpec.ofChange topAskedSpec)

/-- ITS FALSE NEIGHBOUR: 'it returns false'. Refute it at one input. -/
def topAskedWrong : ChangeSpec := { name := "topAsked", fn := fun _ => fun
  | [d1, d2, d3] => { results := [.lit (.bool false)], args := [d1, d2, d3] }
  | _ => none }
def TopAskedWrongFalsely : Prop := topAskedRow.holds Tryz.pinned (OpenSpec.ofChange topAskedWrong)

/- THE SECOND FORM. 'bulk': how many values and letters a reading holds, each counted each time it is reached (what is shared counts as often as it is met; a slice's spare places count too). A statement '..UptoSaid' is the law's where the arguments, and the package variables that the reading takes, are together of bulk at most 1048576: NARROWER than '..Said'. Prove '..Said' where nothing that the law and all that it calls make is longer than what came in: it says more and counts as full. Else prove '..UptoSaid'. A law counts once. -/
mutual
def uptoBulk {H : Type} : DataW H → Nat
  | .lit (.string bytes) => bytes.length + 1
  | .lit _ => 1
  | .nil => 1
  | .ptr d => uptoBulk d + 1
  | .slice elems spare => uptoBulkAll elems + uptoBulkAll spare + 1
  | .agg parts => uptoBulkAll parts + 1
  | .iface _ d => uptoBulk d + 1
  | .map entries => uptoBulkEntries entries + 1
  | .held _ => 1
def uptoBulkAll {H : Type} : List (DataW H) → Nat
  | [] => 0
  | d :: r => uptoBulk d + uptoBulkAll r
def uptoBulkEntries {H : Type} : List (Lit × DataW H) → Nat
  | [] => 0
  | x :: r => uptoBulkEntry x + uptoBulkEntries r
def uptoBulkEntry {H : Type} : Lit × DataW H → Nat
  | (.string bytes, d) => bytes.length + uptoBulk d + 1
  | (_, d) => uptoBulk d + 1
 end
def uptoSmall : (H : Type) → List (DataW H) → Bool := fun _ ds => decide (uptoBulkAll ds ≤ 1048576)
def OpenSpec.upto (s : _root_.Go.ChangeSpec) : _root_.Go.OpenSpec := { _root_.Go.OpenSpec.ofChange s with cond := some uptoSmall }

/-- 'webstertop.TopTurns', WHERE WHAT IT READS IS OF BULK AT MOST 1048576: true; the input reads as it did. -/
def topTurnsUptoRow : OpenClaim := { program := "ytlfbommppenlcaagreatdoor", sum := "7d2d7ffcb730c5f3927c0117a1ca624d6f11e9ab81c06c960eccbdbfa0c9ec80", func := "webster/webstertop.TopTurns", spec := "topTurns", unfollowed := true, recurses := true, named := ["webster/code.spans", "webster/code.stores"], plainKeys := false, apart := false, laid := [("webster/code.spans", laid_webster_code_spans), ("webster/code.stores", laid_webster_code_stores)], narrowed := true }
def TopTurnsUptoSaid : Prop := topTurnsUptoRow.holds Tryz.pinned (OpenSpec.upto topTurnsSpec)

/-- 'webstertop.TopPriors', WHERE WHAT IT READS IS OF BULK AT MOST 1048576: true; the input reads as it did. -/
def topPriorsUptoRow : OpenClaim := { program := "ytlfbommppenlcaagreatdoor", sum := "7d2d7ffcb730c5f3927c0117a1ca624d6f11e9ab81c06c960eccbdbfa0c9ec80", func := "webster/webstertop.TopPriors", spec := "topPriors", unfollowed := true, recurses := true, named := ["webster/code.spans", "webster/code.stores"], plainKeys := false, apart := false, laid := [("webster/code.spans", laid_webster_code_spans), ("webster/code.stores", laid_webster_code_stores)], narrowed := true }
def TopPriorsUptoSaid : Prop := topPriorsUptoRow.holds Tryz.pinned (OpenSpec.upto topPriorsSpec)

/-- 'webstertop.TopSemaphores', WHERE WHAT IT READS IS OF BULK AT MOST 1048576: true; the input reads as it did. -/
def topSemaphoresUptoRow : OpenClaim := { program := "ytlfbommppenlcaagreatdoor", sum := "7d2d7ffcb730c5f3927c0117a1ca624d6f11e9ab81c06c960eccbdbfa0c9ec80", func := "webster/webstertop.TopSemaphores", spec := "topSemaphores", unfollowed := true, recurses := true, named := ["webster/code.spans", "webster/code.stores"], plainKeys := false, apart := false, laid := [("webster/code.spans", laid_webster_code_spans), ("webster/code.stores", laid_webster_code_stores)], narrowed := true }
def TopSemaphoresUptoSaid : Prop := topSemaphoresUptoRow.holds Tryz.pinned (OpenSpec.upto topSemaphoresSpec)

/-- 'webstertop.TopReckons', WHERE WHAT IT READS IS OF BULK AT MOST 1048576: true; the input reads as it did. -/
def topReckonsUptoRow : OpenClaim := { program := "ytlfbommppenlcaagreatdoor", sum := "7d2d7ffcb730c5f3927c0117a1ca624d6f11e9ab81c06c960eccbdbfa0c9ec80", func := "webster/webstertop.TopReckons", spec := "topReckons", unfollowed := true, recurses := true, named := ["webster/code.spans", "webster/code.stores", "webster/prim.counts", "webster/interp.counts"], plainKeys := false, apart := false, laid := [("webster/code.spans", laid_webster_code_spans), ("webster/code.stores", laid_webster_code_stores), ("webster/prim.counts", laid_webster_prim_counts), ("webster/interp.counts", laid_webster_interp_counts)], narrowed := true }
def TopReckonsUptoSaid : Prop := topReckonsUptoRow.holds Tryz.pinned (OpenSpec.upto topReckonsSpec)

/-- 'webstertop.TopLoops', WHERE WHAT IT READS IS OF BULK AT MOST 1048576: true; the input reads as it did. -/
def topLoopsUptoRow : OpenClaim := { program := "ytlfbommppenlcaagreatdoor", sum := "7d2d7ffcb730c5f3927c0117a1ca624d6f11e9ab81c06c960eccbdbfa0c9ec80", func := "webster/webstertop.TopLoops", spec := "topLoops", unfollowed := true, recurses := true, named := ["webster/code.spans", "webster/code.stores", "webster/prim.counts", "webster/interp.counts"], plainKeys := false, apart := false, laid := [("webster/code.spans", laid_webster_code_spans), ("webster/code.stores", laid_webster_code_stores), ("webster/prim.counts", laid_webster_prim_counts), ("webster/interp.counts", laid_webster_interp_counts)], narrowed := true }
def TopLoopsUptoSaid : Prop := topLoopsUptoRow.holds Tryz.pinned (OpenSpec.upto topLoopsSpec)

/-- 'webstertop.TopCalls', WHERE WHAT IT READS IS OF BULK AT MOST 1048576: true; the input reads as it did. -/
def topCallsUptoRow : OpenClaim := { program := "ytlfbommppenlcaagreatdoor", sum := "7d2d7ffcb730c5f3927c0117a1ca624d6f11e9ab81c06c960eccbdbfa0c9ec80", func := "webster/webstertop.TopCalls", spec := "topCalls", unfollowed := true, recurses := true, named := ["webster/code.spans", "webster/code.stores", "webster/prim.counts", "webster/interp.counts"], plainKeys := false, apart := false, laid := [("webster/code.spans", laid_webster_code_spans), ("webster/code.stores", laid_webster_code_stores), ("webster/prim.counts", laid_webster_prim_counts), ("webster/interp.counts", laid_webster_interp_counts)], narrowed := true }
def TopCallsUptoSaid : Prop := topCallsUptoRow.holds Tryz.pinned (OpenSpec.upto topCallsSpec)

/-- 'webstertop.TopBlocks', WHERE WHAT IT READS IS OF BULK AT MOST 1048576: true; the input reads as it did. -/
def topBlocksUptoRow : OpenClaim := { program := "ytlfbommppenlcaagreatdoor", sum := "7d2d7ffcb730c5f3927c0117a1ca624d6f11e9ab81c06c960eccbdbfa0c9ec80", func := "webster/webstertop.TopBlocks", spec := "topBlocks", unfollowed := true, recurses := true, named := ["webster/code.spans", "webster/code.stores", "webster/prim.counts", "webster/interp.counts"], plainKeys := false, apart := false, laid := [("webster/code.spans", laid_webster_code_spans), ("webster/code.stores", laid_webster_code_stores), ("webster/prim.counts", laid_webster_prim_counts), ("webster/interp.counts", laid_webster_interp_counts)], narrowed := true }
def TopBlocksUptoSaid : Prop := topBlocksUptoRow.holds Tryz.pinned (OpenSpec.upto topBlocksSpec)

/-- 'webstertop.TopSorts', WHERE WHAT IT READS IS OF BULK AT MOST 1048576: true; the input reads as it did. -/
def topSortsUptoRow : OpenClaim := { program := "ytlfbommppenlcaagreatdoor", sum := "7d2d7ffcb730c5f3927c0117a1ca624d6f11e9ab81c06c960eccbdbfa0c9ec80", func := "webster/webstertop.TopSorts", spec := "topSorts", unfollowed := true, recurses := true, named := ["webster/code.spans", "webster/code.stores", "webster/prim.counts", "webster/interp.counts"], plainKeys := false, apart := false, laid := [("webster/code.spans", laid_webster_code_spans), ("webster/code.stores", laid_webster_code_stores), ("webster/prim.counts", laid_webster_prim_counts), ("webster/interp.counts", laid_webster_interp_counts)], narrowed := true }
def TopSortsUptoSaid : Prop := topSortsUptoRow.holds Tryz.pinned (OpenSpec.upto topSortsSpec)

/-- 'webstertop.TopFactors', WHERE WHAT IT READS IS OF BULK AT MOST 1048576: true; the input reads as it did. -/
def topFactorsUptoRow : OpenClaim := { program := "ytlfbommppenlcaagreatdoor", sum := "7d2d7ffcb730c5f3927c0117a1ca624d6f11e9ab81c06c960eccbdbfa0c9ec80", func := "webster/webstertop.TopFactors", spec := "topFactors", unfollowed := true, recurses := true, named := ["webster/code.spans", "webster/code.stores", "webster/prim.counts", "webster/interp.counts"], plainKeys := false, apart := false, laid := [("webster/code.spans", laid_webster_code_spans), ("webster/code.stores", laid_webster_code_stores), ("webster/prim.counts", laid_webster_prim_counts), ("webster/interp.counts", laid_webster_interp_counts)], narrowed := true }
def TopFactorsUptoSaid : Prop := topFactorsUptoRow.holds Tryz.pinned (OpenSpec.upto topFactorsSpec)

/-- 'webstertop.TopPlaced', WHERE WHAT IT READS IS OF BULK AT MOST 1048576: true; the input reads as it did. -/
def topPlacedUptoRow : OpenClaim := { program := "ytlfbommppenlcaagreatdoor", sum := "7d2d7ffcb730c5f3927c0117a1ca624d6f11e9ab81c06c960eccbdbfa0c9ec80", func := "webster/webstertop.TopPlaced", spec := "topPlaced", unfollowed := true, recurses := true, named := ["webster/code.spans", "webster/code.stores", "webster/prim.counts", "webster/interp.counts"], plainKeys := false, apart := false, laid := [("webster/code.spans", laid_webster_code_spans), ("webster/code.stores", laid_webster_code_stores), ("webster/prim.counts", laid_webster_prim_counts), ("webster/interp.counts", laid_webster_interp_counts)], narrowed := true }
def TopPlacedUptoSaid : Prop := topPlacedUptoRow.holds Tryz.pinned (OpenSpec.upto topPlacedSpec)

/-- 'webstertop.TopSpeaks', WHERE WHAT IT READS IS OF BULK AT MOST 1048576: true; the input reads as it did. -/
def topSpeaksUptoRow : OpenClaim := { program := "ytlfbommppenlcaagreatdoor", sum := "7d2d7ffcb730c5f3927c0117a1ca624d6f11e9ab81c06c960eccbdbfa0c9ec80", func := "webster/webstertop.TopSpeaks", spec := "topSpeaks", unfollowed := true, recurses := true, named := ["webster/code.spans", "webster/code.stores", "webster/prim.counts", "webster/interp.counts"], plainKeys := false, apart := false, laid := [("webster/code.spans", laid_webster_code_spans), ("webster/code.stores", laid_webster_code_stores), ("webster/prim.counts", laid_webster_prim_counts), ("webster/interp.counts", laid_webster_interp_counts)], narrowed := true }
def TopSpeaksUptoSaid : Prop := topSpeaksUptoRow.holds Tryz.pinned (OpenSpec.upto topSpeaksSpec)

/-- 'webstertop.TopAsked', WHERE WHAT IT READS IS OF BULK AT MOST 1048576: true; the input reads as it did. -/
def topAskedUptoRow : OpenClaim := { program := "ytlfbommppenlcaagreatdoor", sum := "7d2d7ffcb730c5f3927c0117a1ca624d6f11e9ab81c06c960eccbdbfa0c9ec80", func := "webster/webstertop.TopAsked", spec := "topAsked", unfollowed := true, recurses := true, named := ["webster/code.spans", "webster/code.stores", "webster/prim.counts", "webster/interp.counts"], plainKeys := false, apart := false, laid := [("webster/code.spans", laid_webster_code_spans), ("webster/code.stores", laid_webster_code_stores), ("webster/prim.counts", laid_webster_prim_counts), ("webster/interp.counts", laid_webster_interp_counts)], narrowed := true }
def TopAskedUptoSaid : Prop := topAskedUptoRow.holds Tryz.pinned (OpenSpec.upto topAskedSpec)

end Rows
end Go.Proofs.YtlfbommppenlcaaGreatDoor
