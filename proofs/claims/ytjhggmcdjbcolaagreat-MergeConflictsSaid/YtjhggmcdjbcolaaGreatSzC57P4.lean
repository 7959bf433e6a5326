/-
The kernel runs the executor over the functions that chapter 57 reaches, and finds the trees.
-/
import Derived.Test.YtjhggmcdjbcolaaGreatSzT57
import Derived.Test.YtjhggmcdjbcolaaGreatSzU57
set_option linter.unusedVariables false
set_option linter.unusedSimpArgs false
set_option linter.unusedSectionVars false
namespace Go.SX.T57
open Go.SX Go.Proofs
theorem ok4:okSig env tree 4=true:=by kernel_rfl
theorem ok10:okSig env tree 10=true:=by kernel_rfl
theorem ok16:okSig env tree 16=true:=by kernel_rfl
theorem ok22:okSig env tree 22=true:=by kernel_rfl
theorem ok29:okSig env tree 29=true:=by kernel_rfl
theorem ok35:okSig env tree 35=true:=by kernel_rfl
theorem ok41:okSig env tree 41=true:=by kernel_rfl
theorem ok47:okSig env tree 47=true:=by kernel_rfl
theorem ok53:okSig env tree 53=true:=by kernel_rfl
theorem ok59:okSig env tree 59=true:=by kernel_rfl
theorem ok65:okSig env tree 65=true:=by kernel_rfl
theorem ok71:okSig env tree 71=true:=by kernel_rfl
theorem ok77:okSig env tree 77=true:=by kernel_rfl
theorem ok83:okSig env tree 83=true:=by kernel_rfl
theorem ok90:okSig env tree 90=true:=by kernel_rfl
theorem ok98:okSig env tree 98=true:=by kernel_rfl
theorem ok106:okSig env tree 106=true:=by kernel_rfl
theorem ok112:okSig env tree 112=true:=by kernel_rfl
theorem ok118:okSig env tree 118=true:=by kernel_rfl
theorem ok125:okSig env tree 125=true:=by kernel_rfl
theorem ok131:okSig env tree 131=true:=by kernel_rfl
theorem ok137:okSig env tree 137=true:=by kernel_rfl
theorem ok143:okSig env tree 143=true:=by kernel_rfl
theorem ok149:okSig env tree 149=true:=by kernel_rfl
theorem ok155:okSig env tree 155=true:=by kernel_rfl
theorem ok161:okSig env tree 161=true:=by kernel_rfl
theorem ok167:okSig env tree 167=true:=by kernel_rfl
theorem ok173:okSig env tree 173=true:=by kernel_rfl
theorem ok179:okSig env tree 179=true:=by kernel_rfl
theorem ok185:okSig env tree 185=true:=by kernel_rfl
theorem ok191:okSig env tree 191=true:=by kernel_rfl
theorem ok197:okSig env tree 197=true:=by kernel_rfl
theorem ok203:okSig env tree 203=true:=by kernel_rfl
theorem ok209:okSig env tree 209=true:=by kernel_rfl
theorem ok215:okSig env tree 215=true:=by kernel_rfl
theorem ok221:okSig env tree 221=true:=by kernel_rfl
theorem ok227:okSig env tree 227=true:=by kernel_rfl
theorem ok233:okSig env tree 233=true:=by kernel_rfl
theorem ok239:okSig env tree 239=true:=by kernel_rfl
theorem ok245:okSig env tree 245=true:=by kernel_rfl
theorem ok251:okSig env tree 251=true:=by kernel_rfl
end Go.SX.T57
