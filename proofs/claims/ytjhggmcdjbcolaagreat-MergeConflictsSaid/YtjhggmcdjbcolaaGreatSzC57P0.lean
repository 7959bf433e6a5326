/-
The kernel runs the executor over the functions that chapter 57 reaches, and finds the trees.
-/
import Derived.Test.YtjhggmcdjbcolaaGreatSzT57
import Derived.Test.YtjhggmcdjbcolaaGreatSzU57
set_option linter.unusedVariables false
set_option linter.unusedSimpArgs false
set_option linter.unusedSectionVars false
namespace Go.SX.T57
open Go.SX Go.Proofs
theorem ok0:okSig env tree 0=true:=by kernel_rfl
theorem ok6:okSig env tree 6=true:=by kernel_rfl
theorem ok12:okSig env tree 12=true:=by kernel_rfl
theorem ok18:okSig env tree 18=true:=by kernel_rfl
theorem ok24:okSig env tree 24=true:=by kernel_rfl
theorem ok31:okSig env tree 31=true:=by kernel_rfl
theorem ok37:okSig env tree 37=true:=by kernel_rfl
theorem ok43:okSig env tree 43=true:=by kernel_rfl
theorem ok49:okSig env tree 49=true:=by kernel_rfl
theorem ok55:okSig env tree 55=true:=by kernel_rfl
theorem ok61:okSig env tree 61=true:=by kernel_rfl
theorem ok67:okSig env tree 67=true:=by kernel_rfl
theorem ok73:okSig env tree 73=true:=by kernel_rfl
theorem ok79:okSig env tree 79=true:=by kernel_rfl
theorem ok85:okSig env tree 85=true:=by kernel_rfl
theorem ok92:okSig env tree 92=true:=by kernel_rfl
theorem ok100:okSig env tree 100=true:=by kernel_rfl
theorem ok108:okSig env tree 108=true:=by kernel_rfl
theorem ok114:okSig env tree 114=true:=by kernel_rfl
theorem ok121:okSig env tree 121=true:=by kernel_rfl
theorem ok127:okSig env tree 127=true:=by kernel_rfl
theorem ok133:okSig env tree 133=true:=by kernel_rfl
theorem ok139:okSig env tree 139=true:=by kernel_rfl
theorem ok145:okSig env tree 145=true:=by kernel_rfl
theorem ok151:okSig env tree 151=true:=by kernel_rfl
theorem ok157:okSig env tree 157=true:=by kernel_rfl
theorem ok163:okSig env tree 163=true:=by kernel_rfl
theorem ok169:okSig env tree 169=true:=by kernel_rfl
theorem ok175:okSig env tree 175=true:=by kernel_rfl
theorem ok181:okSig env tree 181=true:=by kernel_rfl
theorem ok187:okSig env tree 187=true:=by kernel_rfl
theorem ok193:okSig env tree 193=true:=by kernel_rfl
theorem ok199:okSig env tree 199=true:=by kernel_rfl
theorem ok205:okSig env tree 205=true:=by kernel_rfl
theorem ok211:okSig env tree 211=true:=by kernel_rfl
theorem ok217:okSig env tree 217=true:=by kernel_rfl
theorem ok223:okSig env tree 223=true:=by kernel_rfl
theorem ok229:okSig env tree 229=true:=by kernel_rfl
theorem ok235:okSig env tree 235=true:=by kernel_rfl
theorem ok241:okSig env tree 241=true:=by kernel_rfl
theorem ok247:okSig env tree 247=true:=by kernel_rfl
theorem ok253:okSig env tree 253=true:=by kernel_rfl
end Go.SX.T57
