/- Closed facts of the program that every row asks. -/
import Derived.Test.YtlfbommppenlcaaGreatDoorRows
import Derived.JoinedCond
import Derived.SevenTiedAt
import Derived.LaidMore
import Derived.WalkKit
import Derived.ProofKit
namespace Go.Proofs.YtlfbommppenlcaaGreatDoor.Closed
open Go
theorem own : ownKnob Tryz.prog.godebug = none := by kernel_rfl
theorem laidOut : laidOutB Tryz.prog = true := by kernel_rfl
theorem rowed : mapsRowed Tryz.prog = true := by kernel_rfl
theorem stops : (Tryz.prog.stops == []) = true := by kernel_rfl
theorem knobs : (Tryz.prog.stopKnobs == []) = true := by kernel_rfl
theorem keys : (false == Tryz.prog.plainKeys) = true := by kernel_rfl
theorem heard : Tryz.prog.stopsHeard = true := by kernel_rfl
theorem enter : Tryz.prog.mayEnter = true := by kernel_rfl
theorem mainIs : Tryz.prog.mainIs = some (true, "361a9e0961ddece2a32cf960fe085fb8237f928e875a27f959e8a21f9e023e7b".toList) := by kernel_rfl
theorem looks : true = Tryz.prog.looks [] := by kernel_rfl
end Go.Proofs.YtlfbommppenlcaaGreatDoor.Closed
