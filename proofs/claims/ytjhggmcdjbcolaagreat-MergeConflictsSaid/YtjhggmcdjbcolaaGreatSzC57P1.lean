/-
The kernel runs the executor over the functions that chapter 57 reaches, and finds the trees.
-/
import Derived.Test.YtjhggmcdjbcolaaGreatSzT57
import Derived.Test.YtjhggmcdjbcolaaGreatSzU57
set_option linter.unusedVariables false
set_option linter.unusedSimpArgs false
set_option linter.unusedSectionVars false
namespace Go.SX.T57
open Go.SX Go.Proofs
theorem ok1:okSig env tree 1=true:=by kernel_rfl
theorem ok7:okSig env tree 7=true:=by kernel_rfl
theorem ok13:okSig env tree 13=true:=by kernel_rfl
theorem ok19:okSig env tree 19=true:=by kernel_rfl
theorem ok25:okSig env tree 25=true:=by kernel_rfl
theorem ok32:okSig env tree 32=true:=by kernel_rfl
theorem ok38:okSig env tree 38=true:=by kernel_rfl
theorem ok44:okSig env tree 44=true:=by kernel_rfl
theorem ok50:okSig env tree 50=true:=by kernel_rfl
theorem ok56:okSig env tree 56=true:=by kernel_rfl
theorem ok62:okSig env tree 62=true:=by kernel_rfl
theorem ok68:okSig env tree 68=true:=by kernel_rfl
theorem ok74:okSig env tree 74=true:=by kernel_rfl
theorem ok80:okSig env tree 80=true:=by kernel_rfl
theorem ok86:okSig env tree 86=true:=by kernel_rfl
theorem ok95:okSig env tree 95=true:=by kernel_rfl
theorem ok101:okSig env tree 101=true:=by kernel_rfl
theorem ok109:okSig env tree 109=true:=by kernel_rfl
theorem ok115:okSig env tree 115=true:=by kernel_rfl
theorem ok122:okSig env tree 122=true:=by kernel_rfl
theorem ok128:okSig env tree 128=true:=by kernel_rfl
theorem ok134:okSig env tree 134=true:=by kernel_rfl
theorem ok140:okSig env tree 140=true:=by kernel_rfl
theorem ok146:okSig env tree 146=true:=by kernel_rfl
theorem ok152:okSig env tree 152=true:=by kernel_rfl
theorem ok158:okSig env tree 158=true:=by kernel_rfl
theorem ok164:okSig env tree 164=true:=by kernel_rfl
theorem ok170:okSig env tree 170=true:=by kernel_rfl
theorem ok176:okSig env tree 176=true:=by kernel_rfl
theorem ok182:okSig env tree 182=true:=by kernel_rfl
theorem ok188:okSig env tree 188=true:=by kernel_rfl
theorem ok194:okSig env tree 194=true:=by kernel_rfl
theorem ok200:okSig env tree 200=true:=by kernel_rfl
theorem ok206:okSig env tree 206=true:=by kernel_rfl
theorem ok212:okSig env tree 212=true:=by kernel_rfl
theorem ok218:okSig env tree 218=true:=by kernel_rfl
theorem ok224:okSig env tree 224=true:=by kernel_rfl
theorem ok230:okSig env tree 230=true:=by kernel_rfl
theorem ok236:okSig env tree 236=true:=by kernel_rfl
theorem ok242:okSig env tree 242=true:=by kernel_rfl
theorem ok248:okSig env tree 248=true:=by kernel_rfl
theorem ok254:okSig env tree 254=true:=by kernel_rfl
end Go.SX.T57
