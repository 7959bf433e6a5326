/-
The kernel runs the executor over the functions that chapter 52 reaches, and finds the trees.
-/
import Derived.Test.YtodlbeaidannaaaGreatSyT52
import Derived.Test.YtodlbeaidannaaaGreatSyU52
namespace Go.SX.T52
open Go.SX Go.Proofs

theorem ok1 : okSig env tree 1 = true := by kernel_rfl
theorem ok7 : okSig env tree 7 = true := by kernel_rfl
theorem ok13 : okSig env tree 13 = true := by kernel_rfl
theorem ok19 : okSig env tree 19 = true := by kernel_rfl
theorem ok26 : okSig env tree 26 = true := by kernel_rfl
theorem ok32 : okSig env tree 32 = true := by kernel_rfl
theorem ok38 : okSig env tree 38 = true := by kernel_rfl
theorem ok44 : okSig env tree 44 = true := by kernel_rfl
theorem ok50 : okSig env tree 50 = true := by kernel_rfl
theorem ok56 : okSig env tree 56 = true := by kernel_rfl
theorem ok62 : okSig env tree 62 = true := by kernel_rfl
theorem ok68 : okSig env tree 68 = true := by kernel_rfl
theorem ok75 : okSig env tree 75 = true := by kernel_rfl
theorem ok81 : okSig env tree 81 = true := by kernel_rfl
theorem ok87 : okSig env tree 87 = true := by kernel_rfl
theorem ok93 : okSig env tree 93 = true := by kernel_rfl
theorem ok99 : okSig env tree 99 = true := by kernel_rfl
theorem ok105 : okSig env tree 105 = true := by kernel_rfl
theorem ok111 : okSig env tree 111 = true := by kernel_rfl
theorem ok117 : okSig env tree 117 = true := by kernel_rfl
theorem ok123 : okSig env tree 123 = true := by kernel_rfl
theorem ok129 : okSig env tree 129 = true := by kernel_rfl
theorem ok135 : okSig env tree 135 = true := by kernel_rfl
theorem ok141 : okSig env tree 141 = true := by kernel_rfl
theorem ok147 : okSig env tree 147 = true := by kernel_rfl
theorem ok153 : okSig env tree 153 = true := by kernel_rfl
theorem ok159 : okSig env tree 159 = true := by kernel_rfl
end Go.SX.T52
