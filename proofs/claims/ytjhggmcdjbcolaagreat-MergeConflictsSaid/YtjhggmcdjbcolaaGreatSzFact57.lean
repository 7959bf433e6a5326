/-
Facts of chapter 57's program that every row of the seat asks.
-/
import Derived.Test.YtjhggmcdjbcolaaGreatRows
import Derived.JoinedOf
import Derived.KernelRfl
set_option linter.unusedVariables false
set_option linter.unusedSimpArgs false
set_option linter.unusedSectionVars false
namespace Go.Proofs.YtjhggmcdjbcolaaGreat.facts
theorem k1:(laidOutB Tryz.prog)=true:=by kernel_rfl
theorem k2:(mapsRowed Tryz.prog)=true:=by kernel_rfl
theorem k6:((Tryz.prog.stops == []))=true:=by kernel_rfl
theorem k8:((Tryz.prog.stopKnobs == []))=true:=by kernel_rfl
theorem k24:(Tryz.prog.stopsHeard)=true:=by kernel_rfl
theorem k25:(Tryz.prog.mayEnter)=true:=by kernel_rfl
theorem andI {a b:Bool} (ha:a=true) (hb:b=true):(a&&b)=true:=by rw [ha,hb]; rfl
end Go.Proofs.YtjhggmcdjbcolaaGreat.facts
