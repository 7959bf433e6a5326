/-
The kernel runs the executor over the functions that chapter 57 reaches, and finds the trees.
-/
import Derived.Test.YtjhggmcdjbcolaaGreatSzT57
import Derived.Test.YtjhggmcdjbcolaaGreatSzU57
set_option linter.unusedVariables false
set_option linter.unusedSimpArgs false
set_option linter.unusedSectionVars false
namespace Go.SX.T57
open Go.SX Go.Proofs
theorem ok5:okSig env tree 5=true:=by kernel_rfl
theorem ok11:okSig env tree 11=true:=by kernel_rfl
theorem ok17:okSig env tree 17=true:=by kernel_rfl
theorem ok23:okSig env tree 23=true:=by kernel_rfl
theorem ok30:okSig env tree 30=true:=by kernel_rfl
theorem ok36:okSig env tree 36=true:=by kernel_rfl
theorem ok42:okSig env tree 42=true:=by kernel_rfl
theorem ok48:okSig env tree 48=true:=by kernel_rfl
theorem ok54:okSig env tree 54=true:=by kernel_rfl
theorem ok60:okSig env tree 60=true:=by kernel_rfl
theorem ok66:okSig env tree 66=true:=by kernel_rfl
theorem ok72:okSig env tree 72=true:=by kernel_rfl
theorem ok78:okSig env tree 78=true:=by kernel_rfl
theorem ok84:okSig env tree 84=true:=by kernel_rfl
theorem ok91:okSig env tree 91=true:=by kernel_rfl
theorem ok99:okSig env tree 99=true:=by kernel_rfl
theorem ok107:okSig env tree 107=true:=by kernel_rfl
theorem ok113:okSig env tree 113=true:=by kernel_rfl
theorem ok119:okSig env tree 119=true:=by kernel_rfl
theorem ok126:okSig env tree 126=true:=by kernel_rfl
theorem ok132:okSig env tree 132=true:=by kernel_rfl
theorem ok138:okSig env tree 138=true:=by kernel_rfl
theorem ok144:okSig env tree 144=true:=by kernel_rfl
theorem ok150:okSig env tree 150=true:=by kernel_rfl
theorem ok156:okSig env tree 156=true:=by kernel_rfl
theorem ok162:okSig env tree 162=true:=by kernel_rfl
theorem ok168:okSig env tree 168=true:=by kernel_rfl
theorem ok174:okSig env tree 174=true:=by kernel_rfl
theorem ok180:okSig env tree 180=true:=by kernel_rfl
theorem ok186:okSig env tree 186=true:=by kernel_rfl
theorem ok192:okSig env tree 192=true:=by kernel_rfl
theorem ok198:okSig env tree 198=true:=by kernel_rfl
theorem ok204:okSig env tree 204=true:=by kernel_rfl
theorem ok210:okSig env tree 210=true:=by kernel_rfl
theorem ok216:okSig env tree 216=true:=by kernel_rfl
theorem ok222:okSig env tree 222=true:=by kernel_rfl
theorem ok228:okSig env tree 228=true:=by kernel_rfl
theorem ok234:okSig env tree 234=true:=by kernel_rfl
theorem ok240:okSig env tree 240=true:=by kernel_rfl
theorem ok246:okSig env tree 246=true:=by kernel_rfl
theorem ok252:okSig env tree 252=true:=by kernel_rfl
end Go.SX.T57
