/- Closed facts of the row of TopSemaphores. -/
import Derived.Test.YtlfbommppenlcaaGreatDoorC0
namespace Go.Proofs.YtlfbommppenlcaaGreatDoor.topSemaphores
open Go
theorem k1 : Rows.topSemaphoresRow.wf (OpenSpec.ofChange Rows.topSemaphoresSpec) = true := by kernel_rfl
theorem k4 : (Tryz.f5.params.all (Tryz.prog.readableRec ·)) = true := by kernel_rfl
theorem k5 : namedTie Tryz.prog Rows.topSemaphoresRow.named Rows.topSemaphoresSpec.vars = true := by kernel_rfl
theorem k10 : (Rows.topSemaphoresRow.inPlace == Tryz.prog.inPlace 5) = true := by kernel_rfl
theorem k11 : (Rows.topSemaphoresRow.unfollowed == Tryz.prog.unfollowed 5) = true := by kernel_rfl
theorem k12 : (Rows.topSemaphoresRow.recurses == Tryz.prog.recurses 5) = true := by kernel_rfl
theorem k13 : (Rows.topSemaphoresRow.named == Tryz.prog.varsNamed 5) = true := by kernel_rfl
theorem k14 : (Rows.topSemaphoresRow.maps == (Tryz.f5.params.toList ++ Rows.topSemaphoresSpec.plain.varTypes Tryz.prog).any (Tryz.prog.mapsRec ·)) = true := by kernel_rfl
theorem k15 : (Rows.topSemaphoresRow.ifaces == (Tryz.f5.params.toList ++ Rows.topSemaphoresSpec.plain.varTypes Tryz.prog).any (Tryz.prog.ifacesRec ·)) = true := by kernel_rfl
theorem k16 : (Rows.topSemaphoresRow.mapsOut == Tryz.prog.mapsAmong Tryz.f5.resultTypes.toList) = true := by kernel_rfl
theorem k17 : (Rows.topSemaphoresRow.loops == (Tryz.f5.params.toList ++ Rows.topSemaphoresSpec.plain.varTypes Tryz.prog).any (Tryz.prog.loopsFrom ·)) = true := by kernel_rfl
theorem k18 : (Rows.topSemaphoresRow.wideKeys == (Tryz.f5.params.toList ++ Rows.topSemaphoresSpec.plain.varTypes Tryz.prog ++ Tryz.f5.resultTypes.toList).any (Tryz.prog.wideKeysFrom ·)) = true := by kernel_rfl
theorem k19 : (Rows.topSemaphoresSpec.vars.all (Tryz.prog.varReadable ·)) = true := by kernel_rfl
theorem k20 : (Tryz.f5.resultTypes.all (fun t => Tryz.prog.readableRec t && decide (t < Tryz.prog.types.size))) = true := by kernel_rfl
theorem k21 : (Rows.topSemaphoresRow.ifacesOut == Tryz.f5.resultTypes.toList.any (Tryz.prog.ifacesRec ·)) = true := by kernel_rfl
theorem k22 : (Rows.topSemaphoresRow.loopsOut == Tryz.f5.resultTypes.toList.any (Tryz.prog.loopsFrom ·)) = true := by kernel_rfl
theorem k23 : (Rows.topSemaphoresRow.plainKeys == Tryz.prog.plainKeys) = true := Closed.keys
theorem k24 : (Rows.topSemaphoresRow.lifted == Tryz.prog.liftsFinal) = true := by kernel_rfl
theorem k25 : (Tryz.prog.make == some Rows.topSemaphoresRow.make) = true := by kernel_rfl
theorem k27 : (Rows.topSemaphoresRow.pinned == Rows.topSemaphoresRow.pinnedBy) = true := by kernel_rfl
theorem k28 : (Rows.topSemaphoresRow.veiled == (Tryz.f5.params.toList ++ Rows.topSemaphoresSpec.plain.varTypes Tryz.prog ++ Tryz.f5.resultTypes.toList).any (Tryz.prog.veiledRec ·)) = true := by kernel_rfl
theorem k29 : Rows.topSemaphoresRow.veiledFits Tryz.prog Tryz.f5.params.toList (Tryz.f5.params.toList ++ Rows.topSemaphoresSpec.plain.varTypes Tryz.prog ++ Tryz.f5.resultTypes.toList) = true := by kernel_rfl
theorem k30 : Tryz.prog.funcNamed "webster/webstertop.TopSemaphores" = some 5 := by kernel_rfl
theorem k31 : Tryz.prog.inits.idxOf? 5 = none := by kernel_rfl
theorem k32 : Rows.topSemaphoresRow.wfByText (OpenSpec.ofChange Rows.topSemaphoresSpec) = true := by kernel_rfl
theorem k33 : false = Rows.topSemaphoresRow.goesBy Tryz.prog := by kernel_rfl
theorem facts : joinedFacts Tryz.prog 5 Tryz.f5 Rows.topSemaphoresSpec Rows.topSemaphoresRow = true := by
  unfold joinedFacts
  rw [k1, Closed.laidOut, Closed.rowed, k4, k5, Closed.stops, Closed.knobs, k10, k11, k12, k13, k14, k15, k16, k17, k18, k19, k20, k21, k22, k23, Closed.heard, Closed.enter, k24, k25, k27, k28, k29]
  kernel_rfl
end Go.Proofs.YtlfbommppenlcaaGreatDoor.topSemaphores
