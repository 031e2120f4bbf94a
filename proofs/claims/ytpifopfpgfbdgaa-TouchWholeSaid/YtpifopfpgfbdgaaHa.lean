/-
  Facts of the whole program that each statement's builder asks. By an AI agent.
-/
import Derived.Test.YtpifopfpgfbdgaaRows
import Derived.ProofKit
namespace Go.Proofs.Ytpifopfpgfbdgaa
open Go.ChangeShapes Go.WideShapes Go.ChangeAt Go.RowKit
set_option maxRecDepth 100000
theorem own : ownKnob Try.prog.godebug = none := by kernel_rfl
theorem laidOut : laidOutB Try.prog = true := by kernel_rfl
theorem cMaps : mapsRowed Try.prog = true := by kernel_rfl
theorem cHeard : Try.prog.stopsHeard = true := by kernel_rfl
theorem cEnter : Try.prog.mayEnter = true := by kernel_rfl
theorem cLift : Try.prog.liftsFinal = false := by kernel_rfl
theorem cMake : Try.prog.make = some .cut := by kernel_rfl
theorem cKeys : Try.prog.plainKeys = true := by kernel_rfl
end Go.Proofs.Ytpifopfpgfbdgaa
