/- The closed facts of the program as a whole, which every row of the seat asks. -/
import Derived.Test.YtimlkngjkiknfaaGreatRows
import Derived.Test.YtimlkngjkiknfaaGreatBbJoin
namespace Go.Proofs.YtimlkngjkiknfaaGreat
open Go.ChangeShapes Go.WideShapes Go.ChangeAt Go.RowKit Go.Proofs.Bb

theorem Tryz.own : ownKnob Tryz.prog.godebug = none := by kernel_rfl
theorem Tryz.laidOut : laidOutB Tryz.prog = true := by kernel_rfl
theorem Tryz.rowed : mapsRowed Tryz.prog = true := by kernel_rfl
theorem Tryz.stopsNone : (Tryz.prog.stops == []) = true := by kernel_rfl
theorem Tryz.stopKnobsNone : (Tryz.prog.stopKnobs == []) = true := by kernel_rfl
theorem Tryz.plainK : (false == Tryz.prog.plainKeys) = true := by kernel_rfl
theorem Tryz.heard : Tryz.prog.stopsHeard = true := by kernel_rfl
theorem Tryz.enter : Tryz.prog.mayEnter = true := by kernel_rfl
theorem Tryz.lifts : (Rows.execOrdersRow.lifted == Tryz.prog.liftsFinal) = true := by kernel_rfl
theorem Tryz.makes : (Tryz.prog.make == some Rows.execOrdersRow.make) = true := by kernel_rfl
end Go.Proofs.YtimlkngjkiknfaaGreat
