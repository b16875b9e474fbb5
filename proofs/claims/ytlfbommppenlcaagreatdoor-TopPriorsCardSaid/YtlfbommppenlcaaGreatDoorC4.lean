/- Closed facts of the row of TopPriors. -/
import Derived.Test.YtlfbommppenlcaaGreatDoorC0
namespace Go.Proofs.YtlfbommppenlcaaGreatDoor.topPriors
open Go
theorem k1 : Rows.topPriorsRow.wf (OpenSpec.ofChange Rows.topPriorsSpec) = true := by kernel_rfl
theorem k4 : (Tryz.f4.params.all (Tryz.prog.readableRec ·)) = true := by kernel_rfl
theorem k5 : namedTie Tryz.prog Rows.topPriorsRow.named Rows.topPriorsSpec.vars = true := by kernel_rfl
theorem k10 : (Rows.topPriorsRow.inPlace == Tryz.prog.inPlace 4) = true := by kernel_rfl
theorem k11 : (Rows.topPriorsRow.unfollowed == Tryz.prog.unfollowed 4) = true := by kernel_rfl
theorem k12 : (Rows.topPriorsRow.recurses == Tryz.prog.recurses 4) = true := by kernel_rfl
theorem k13 : (Rows.topPriorsRow.named == Tryz.prog.varsNamed 4) = true := by kernel_rfl
theorem k14 : (Rows.topPriorsRow.maps == (Tryz.f4.params.toList ++ Rows.topPriorsSpec.plain.varTypes Tryz.prog).any (Tryz.prog.mapsRec ·)) = true := by kernel_rfl
theorem k15 : (Rows.topPriorsRow.ifaces == (Tryz.f4.params.toList ++ Rows.topPriorsSpec.plain.varTypes Tryz.prog).any (Tryz.prog.ifacesRec ·)) = true := by kernel_rfl
theorem k16 : (Rows.topPriorsRow.mapsOut == Tryz.prog.mapsAmong Tryz.f4.resultTypes.toList) = true := by kernel_rfl
theorem k17 : (Rows.topPriorsRow.loops == (Tryz.f4.params.toList ++ Rows.topPriorsSpec.plain.varTypes Tryz.prog).any (Tryz.prog.loopsFrom ·)) = true := by kernel_rfl
theorem k18 : (Rows.topPriorsRow.wideKeys == (Tryz.f4.params.toList ++ Rows.topPriorsSpec.plain.varTypes Tryz.prog ++ Tryz.f4.resultTypes.toList).any (Tryz.prog.wideKeysFrom ·)) = true := by kernel_rfl
theorem k19 : (Rows.topPriorsSpec.vars.all (Tryz.prog.varReadable ·)) = true := by kernel_rfl
theorem k20 : (Tryz.f4.resultTypes.all (fun t => Tryz.prog.readableRec t && decide (t < Tryz.prog.types.size))) = true := by kernel_rfl
theorem k21 : (Rows.topPriorsRow.ifacesOut == Tryz.f4.resultTypes.toList.any (Tryz.prog.ifacesRec ·)) = true := by kernel_rfl
theorem k22 : (Rows.topPriorsRow.loopsOut == Tryz.f4.resultTypes.toList.any (Tryz.prog.loopsFrom ·)) = true := by kernel_rfl
theorem k23 : (Rows.topPriorsRow.plainKeys == Tryz.prog.plainKeys) = true := Closed.keys
theorem k24 : (Rows.topPriorsRow.lifted == Tryz.prog.liftsFinal) = true := by kernel_rfl
theorem k25 : (Tryz.prog.make == some Rows.topPriorsRow.make) = true := by kernel_rfl
theorem k27 : (Rows.topPriorsRow.pinned == Rows.topPriorsRow.pinnedBy) = true := by kernel_rfl
theorem k28 : (Rows.topPriorsRow.veiled == (Tryz.f4.params.toList ++ Rows.topPriorsSpec.plain.varTypes Tryz.prog ++ Tryz.f4.resultTypes.toList).any (Tryz.prog.veiledRec ·)) = true := by kernel_rfl
theorem k29 : Rows.topPriorsRow.veiledFits Tryz.prog Tryz.f4.params.toList (Tryz.f4.params.toList ++ Rows.topPriorsSpec.plain.varTypes Tryz.prog ++ Tryz.f4.resultTypes.toList) = true := by kernel_rfl
theorem k30 : Tryz.prog.funcNamed "webster/webstertop.TopPriors" = some 4 := by kernel_rfl
theorem k31 : Tryz.prog.inits.idxOf? 4 = none := by kernel_rfl
theorem k32 : Rows.topPriorsRow.wfByText (OpenSpec.ofChange Rows.topPriorsSpec) = true := by kernel_rfl
theorem k33 : false = Rows.topPriorsRow.goesBy Tryz.prog := by kernel_rfl
theorem facts : joinedFacts Tryz.prog 4 Tryz.f4 Rows.topPriorsSpec Rows.topPriorsRow = true := by
  unfold joinedFacts
  rw [k1, Closed.laidOut, Closed.rowed, k4, k5, Closed.stops, Closed.knobs, k10, k11, k12, k13, k14, k15, k16, k17, k18, k19, k20, k21, k22, k23, Closed.heard, Closed.enter, k24, k25, k27, k28, k29]
  kernel_rfl
end Go.Proofs.YtlfbommppenlcaaGreatDoor.topPriors
