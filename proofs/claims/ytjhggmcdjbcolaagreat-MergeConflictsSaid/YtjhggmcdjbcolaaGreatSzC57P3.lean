/-
The kernel runs the executor over the functions that chapter 57 reaches, and finds the trees.
-/
import Derived.Test.YtjhggmcdjbcolaaGreatSzT57
import Derived.Test.YtjhggmcdjbcolaaGreatSzU57
set_option linter.unusedVariables false
set_option linter.unusedSimpArgs false
set_option linter.unusedSectionVars false
namespace Go.SX.T57
open Go.SX Go.Proofs
theorem ok3:okSig env tree 3=true:=by kernel_rfl
theorem ok9:okSig env tree 9=true:=by kernel_rfl
theorem ok15:okSig env tree 15=true:=by kernel_rfl
theorem ok21:okSig env tree 21=true:=by kernel_rfl
theorem ok28:okSig env tree 28=true:=by kernel_rfl
theorem ok34:okSig env tree 34=true:=by kernel_rfl
theorem ok40:okSig env tree 40=true:=by kernel_rfl
theorem ok46:okSig env tree 46=true:=by kernel_rfl
theorem ok52:okSig env tree 52=true:=by kernel_rfl
theorem ok58:okSig env tree 58=true:=by kernel_rfl
theorem ok64:okSig env tree 64=true:=by kernel_rfl
theorem ok70:okSig env tree 70=true:=by kernel_rfl
theorem ok76:okSig env tree 76=true:=by kernel_rfl
theorem ok82:okSig env tree 82=true:=by kernel_rfl
theorem ok88:okSig env tree 88=true:=by kernel_rfl
theorem ok97:okSig env tree 97=true:=by kernel_rfl
theorem ok103:okSig env tree 103=true:=by kernel_rfl
theorem ok111:okSig env tree 111=true:=by kernel_rfl
theorem ok117:okSig env tree 117=true:=by kernel_rfl
theorem ok124:okSig env tree 124=true:=by kernel_rfl
theorem ok130:okSig env tree 130=true:=by kernel_rfl
theorem ok136:okSig env tree 136=true:=by kernel_rfl
theorem ok142:okSig env tree 142=true:=by kernel_rfl
theorem ok148:okSig env tree 148=true:=by kernel_rfl
theorem ok154:okSig env tree 154=true:=by kernel_rfl
theorem ok160:okSig env tree 160=true:=by kernel_rfl
theorem ok166:okSig env tree 166=true:=by kernel_rfl
theorem ok172:okSig env tree 172=true:=by kernel_rfl
theorem ok178:okSig env tree 178=true:=by kernel_rfl
theorem ok184:okSig env tree 184=true:=by kernel_rfl
theorem ok190:okSig env tree 190=true:=by kernel_rfl
theorem ok196:okSig env tree 196=true:=by kernel_rfl
theorem ok202:okSig env tree 202=true:=by kernel_rfl
theorem ok208:okSig env tree 208=true:=by kernel_rfl
theorem ok214:okSig env tree 214=true:=by kernel_rfl
theorem ok220:okSig env tree 220=true:=by kernel_rfl
theorem ok226:okSig env tree 226=true:=by kernel_rfl
theorem ok232:okSig env tree 232=true:=by kernel_rfl
theorem ok238:okSig env tree 238=true:=by kernel_rfl
theorem ok244:okSig env tree 244=true:=by kernel_rfl
theorem ok250:okSig env tree 250=true:=by kernel_rfl
end Go.SX.T57
