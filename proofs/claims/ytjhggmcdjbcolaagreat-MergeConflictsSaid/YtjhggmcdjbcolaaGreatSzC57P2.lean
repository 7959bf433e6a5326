/-
The kernel runs the executor over the functions that chapter 57 reaches, and finds the trees.
-/
import Derived.Test.YtjhggmcdjbcolaaGreatSzT57
import Derived.Test.YtjhggmcdjbcolaaGreatSzU57
set_option linter.unusedVariables false
set_option linter.unusedSimpArgs false
set_option linter.unusedSectionVars false
namespace Go.SX.T57
open Go.SX Go.Proofs
theorem ok2:okSig env tree 2=true:=by kernel_rfl
theorem ok8:okSig env tree 8=true:=by kernel_rfl
theorem ok14:okSig env tree 14=true:=by kernel_rfl
theorem ok20:okSig env tree 20=true:=by kernel_rfl
theorem ok26:okSig env tree 26=true:=by kernel_rfl
theorem ok33:okSig env tree 33=true:=by kernel_rfl
theorem ok39:okSig env tree 39=true:=by kernel_rfl
theorem ok45:okSig env tree 45=true:=by kernel_rfl
theorem ok51:okSig env tree 51=true:=by kernel_rfl
theorem ok57:okSig env tree 57=true:=by kernel_rfl
theorem ok63:okSig env tree 63=true:=by kernel_rfl
theorem ok69:okSig env tree 69=true:=by kernel_rfl
theorem ok75:okSig env tree 75=true:=by kernel_rfl
theorem ok81:okSig env tree 81=true:=by kernel_rfl
theorem ok87:okSig env tree 87=true:=by kernel_rfl
theorem ok96:okSig env tree 96=true:=by kernel_rfl
theorem ok102:okSig env tree 102=true:=by kernel_rfl
theorem ok110:okSig env tree 110=true:=by kernel_rfl
theorem ok116:okSig env tree 116=true:=by kernel_rfl
theorem ok123:okSig env tree 123=true:=by kernel_rfl
theorem ok129:okSig env tree 129=true:=by kernel_rfl
theorem ok135:okSig env tree 135=true:=by kernel_rfl
theorem ok141:okSig env tree 141=true:=by kernel_rfl
theorem ok147:okSig env tree 147=true:=by kernel_rfl
theorem ok153:okSig env tree 153=true:=by kernel_rfl
theorem ok159:okSig env tree 159=true:=by kernel_rfl
theorem ok165:okSig env tree 165=true:=by kernel_rfl
theorem ok171:okSig env tree 171=true:=by kernel_rfl
theorem ok177:okSig env tree 177=true:=by kernel_rfl
theorem ok183:okSig env tree 183=true:=by kernel_rfl
theorem ok189:okSig env tree 189=true:=by kernel_rfl
theorem ok195:okSig env tree 195=true:=by kernel_rfl
theorem ok201:okSig env tree 201=true:=by kernel_rfl
theorem ok207:okSig env tree 207=true:=by kernel_rfl
theorem ok213:okSig env tree 213=true:=by kernel_rfl
theorem ok219:okSig env tree 219=true:=by kernel_rfl
theorem ok225:okSig env tree 225=true:=by kernel_rfl
theorem ok231:okSig env tree 231=true:=by kernel_rfl
theorem ok237:okSig env tree 237=true:=by kernel_rfl
theorem ok243:okSig env tree 243=true:=by kernel_rfl
theorem ok249:okSig env tree 249=true:=by kernel_rfl
end Go.SX.T57
