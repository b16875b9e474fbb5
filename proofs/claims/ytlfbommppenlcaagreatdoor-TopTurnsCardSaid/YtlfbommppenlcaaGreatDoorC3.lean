/- Closed facts of the row of TopTurns. -/
import Derived.Test.YtlfbommppenlcaaGreatDoorC0
namespace Go.Proofs.YtlfbommppenlcaaGreatDoor.topTurns
open Go
theorem k1 : Rows.topTurnsRow.wf (OpenSpec.ofChange Rows.topTurnsSpec) = true := by kernel_rfl
theorem k4 : (Tryz.f3.params.all (Tryz.prog.readableRec ·)) = true := by kernel_rfl
theorem k5 : namedTie Tryz.prog Rows.topTurnsRow.named Rows.topTurnsSpec.vars = true := by kernel_rfl
theorem k10 : (Rows.topTurnsRow.inPlace == Tryz.prog.inPlace 3) = true := by kernel_rfl
theorem k11 : (Rows.topTurnsRow.unfollowed == Tryz.prog.unfollowed 3) = true := by kernel_rfl
theorem k12 : (Rows.topTurnsRow.recurses == Tryz.prog.recurses 3) = true := by kernel_rfl
theorem k13 : (Rows.topTurnsRow.named == Tryz.prog.varsNamed 3) = true := by kernel_rfl
theorem k14 : (Rows.topTurnsRow.maps == (Tryz.f3.params.toList ++ Rows.topTurnsSpec.plain.varTypes Tryz.prog).any (Tryz.prog.mapsRec ·)) = true := by kernel_rfl
theorem k15 : (Rows.topTurnsRow.ifaces == (Tryz.f3.params.toList ++ Rows.topTurnsSpec.plain.varTypes Tryz.prog).any (Tryz.prog.ifacesRec ·)) = true := by kernel_rfl
theorem k16 : (Rows.topTurnsRow.mapsOut == Tryz.prog.mapsAmong Tryz.f3.resultTypes.toList) = true := by kernel_rfl
theorem k17 : (Rows.topTurnsRow.loops == (Tryz.f3.params.toList ++ Rows.topTurnsSpec.plain.varTypes Tryz.prog).any (Tryz.prog.loopsFrom ·)) = true := by kernel_rfl
theorem k18 : (Rows.topTurnsRow.wideKeys == (Tryz.f3.params.toList ++ Rows.topTurnsSpec.plain.varTypes Tryz.prog ++ Tryz.f3.resultTypes.toList).any (Tryz.prog.wideKeysFrom ·)) = true := by kernel_rfl
theorem k19 : (Rows.topTurnsSpec.vars.all (Tryz.prog.varReadable ·)) = true := by kernel_rfl
theorem k20 : (Tryz.f3.resultTypes.all (fun t => Tryz.prog.readableRec t && decide (t < Tryz.prog.types.size))) = true := by kernel_rfl
theorem k21 : (Rows.topTurnsRow.ifacesOut == Tryz.f3.resultTypes.toList.any (Tryz.prog.ifacesRec ·)) = true := by kernel_rfl
theorem k22 : (Rows.topTurnsRow.loopsOut == Tryz.f3.resultTypes.toList.any (Tryz.prog.loopsFrom ·)) = true := by kernel_rfl
theorem k23 : (Rows.topTurnsRow.plainKeys == Tryz.prog.plainKeys) = true := Closed.keys
theorem k24 : (Rows.topTurnsRow.lifted == Tryz.prog.liftsFinal) = true := by kernel_rfl
theorem k25 : (Tryz.prog.make == some Rows.topTurnsRow.make) = true := by kernel_rfl
theorem k27 : (Rows.topTurnsRow.pinned == Rows.topTurnsRow.pinnedBy) = true := by kernel_rfl
theorem k28 : (Rows.topTurnsRow.veiled == (Tryz.f3.params.toList ++ Rows.topTurnsSpec.plain.varTypes Tryz.prog ++ Tryz.f3.resultTypes.toList).any (Tryz.prog.veiledRec ·)) = true := by kernel_rfl
theorem k29 : Rows.topTurnsRow.veiledFits Tryz.prog Tryz.f3.params.toList (Tryz.f3.params.toList ++ Rows.topTurnsSpec.plain.varTypes Tryz.prog ++ Tryz.f3.resultTypes.toList) = true := by kernel_rfl
theorem k30 : Tryz.prog.funcNamed "webster/webstertop.TopTurns" = some 3 := by kernel_rfl
theorem k31 : Tryz.prog.inits.idxOf? 3 = none := by kernel_rfl
theorem k32 : Rows.topTurnsRow.wfByText (OpenSpec.ofChange Rows.topTurnsSpec) = true := by kernel_rfl
theorem k33 : false = Rows.topTurnsRow.goesBy Tryz.prog := by kernel_rfl
theorem facts : joinedFacts Tryz.prog 3 Tryz.f3 Rows.topTurnsSpec Rows.topTurnsRow = true := by
  unfold joinedFacts
  rw [k1, Closed.laidOut, Closed.rowed, k4, k5, Closed.stops, Closed.knobs, k10, k11, k12, k13, k14, k15, k16, k17, k18, k19, k20, k21, k22, k23, Closed.heard, Closed.enter, k24, k25, k27, k28, k29]
  kernel_rfl
end Go.Proofs.YtlfbommppenlcaaGreatDoor.topTurns
