/-
The kernel runs the executor over the functions that chapter 52 reaches, and finds the trees.
-/
import Derived.Test.YtodlbeaidannaaaGreatSxT52
import Derived.Test.YtodlbeaidannaaaGreatSxU52
namespace Go.SX.T52
open Go.SX Go.Proofs

theorem ok3 : okSig env tree 3 = true := by kernel_rfl
theorem ok9 : okSig env tree 9 = true := by kernel_rfl
theorem ok15 : okSig env tree 15 = true := by kernel_rfl
theorem ok21 : okSig env tree 21 = true := by kernel_rfl
theorem ok28 : okSig env tree 28 = true := by kernel_rfl
theorem ok34 : okSig env tree 34 = true := by kernel_rfl
theorem ok40 : okSig env tree 40 = true := by kernel_rfl
theorem ok46 : okSig env tree 46 = true := by kernel_rfl
theorem ok52 : okSig env tree 52 = true := by kernel_rfl
theorem ok58 : okSig env tree 58 = true := by kernel_rfl
theorem ok64 : okSig env tree 64 = true := by kernel_rfl
theorem ok70 : okSig env tree 70 = true := by kernel_rfl
theorem ok76 : okSig env tree 76 = true := by kernel_rfl
theorem ok82 : okSig env tree 82 = true := by kernel_rfl
theorem ok88 : okSig env tree 88 = true := by kernel_rfl
theorem ok94 : okSig env tree 94 = true := by kernel_rfl
theorem ok100 : okSig env tree 100 = true := by kernel_rfl
theorem ok106 : okSig env tree 106 = true := by kernel_rfl
theorem ok112 : okSig env tree 112 = true := by kernel_rfl
theorem ok118 : okSig env tree 118 = true := by kernel_rfl
theorem ok124 : okSig env tree 124 = true := by kernel_rfl
theorem ok130 : okSig env tree 130 = true := by kernel_rfl
theorem ok136 : okSig env tree 136 = true := by kernel_rfl
theorem ok142 : okSig env tree 142 = true := by kernel_rfl
theorem ok148 : okSig env tree 148 = true := by kernel_rfl
theorem ok154 : okSig env tree 154 = true := by kernel_rfl
theorem ok160 : okSig env tree 160 = true := by kernel_rfl
end Go.SX.T52
