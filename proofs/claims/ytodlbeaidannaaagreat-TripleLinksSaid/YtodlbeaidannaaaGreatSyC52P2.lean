/-
The kernel runs the executor over the functions that chapter 52 reaches, and finds the trees.
-/
import Derived.Test.YtodlbeaidannaaaGreatSyT52
import Derived.Test.YtodlbeaidannaaaGreatSyU52
namespace Go.SX.T52
open Go.SX Go.Proofs

theorem ok2 : okSig env tree 2 = true := by kernel_rfl
theorem ok8 : okSig env tree 8 = true := by kernel_rfl
theorem ok14 : okSig env tree 14 = true := by kernel_rfl
theorem ok20 : okSig env tree 20 = true := by kernel_rfl
theorem ok27 : okSig env tree 27 = true := by kernel_rfl
theorem ok33 : okSig env tree 33 = true := by kernel_rfl
theorem ok39 : okSig env tree 39 = true := by kernel_rfl
theorem ok45 : okSig env tree 45 = true := by kernel_rfl
theorem ok51 : okSig env tree 51 = true := by kernel_rfl
theorem ok57 : okSig env tree 57 = true := by kernel_rfl
theorem ok63 : okSig env tree 63 = true := by kernel_rfl
theorem ok70 : okSig env tree 70 = true := by kernel_rfl
theorem ok76 : okSig env tree 76 = true := by kernel_rfl
theorem ok82 : okSig env tree 82 = true := by kernel_rfl
theorem ok88 : okSig env tree 88 = true := by kernel_rfl
theorem ok94 : okSig env tree 94 = true := by kernel_rfl
theorem ok100 : okSig env tree 100 = true := by kernel_rfl
theorem ok106 : okSig env tree 106 = true := by kernel_rfl
theorem ok112 : okSig env tree 112 = true := by kernel_rfl
theorem ok118 : okSig env tree 118 = true := by kernel_rfl
theorem ok124 : okSig env tree 124 = true := by kernel_rfl
theorem ok130 : okSig env tree 130 = true := by kernel_rfl
theorem ok136 : okSig env tree 136 = true := by kernel_rfl
theorem ok142 : okSig env tree 142 = true := by kernel_rfl
theorem ok148 : okSig env tree 148 = true := by kernel_rfl
theorem ok154 : okSig env tree 154 = true := by kernel_rfl
theorem ok160 : okSig env tree 160 = true := by kernel_rfl
end Go.SX.T52
