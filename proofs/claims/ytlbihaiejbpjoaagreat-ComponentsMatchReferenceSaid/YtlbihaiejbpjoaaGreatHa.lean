/-
  Facts of the whole program that each statement's builder asks. By an AI agent.
-/
import Derived.Test.YtlbihaiejbpjoaaGreatRows
import Derived.ProofKit
namespace Go.Proofs.YtlbihaiejbpjoaaGreat
open Go.ChangeShapes Go.WideShapes Go.ChangeAt Go.RowKit
set_option maxRecDepth 100000
theorem own : ownKnob Tryz.prog.godebug = none := by kernel_rfl
theorem laidOut : laidOutB Tryz.prog = true := by kernel_rfl
theorem cMaps : mapsRowed Tryz.prog = true := by kernel_rfl
theorem cHeard : Tryz.prog.stopsHeard = true := by kernel_rfl
theorem cEnter : Tryz.prog.mayEnter = true := by kernel_rfl
theorem cLift : Tryz.prog.liftsFinal = false := by kernel_rfl
theorem cMake : Tryz.prog.make = some .cut := by kernel_rfl
theorem cKeys : Tryz.prog.plainKeys = true := by kernel_rfl
end Go.Proofs.YtlbihaiejbpjoaaGreat
