/-
The kernel runs the executor over the functions that chapter 52 reaches, and finds the trees.
-/
import Derived.Test.YtodlbeaidannaaaGreatSxT52
import Derived.Test.YtodlbeaidannaaaGreatSxU52
namespace Go.SX.T52
open Go.SX Go.Proofs

theorem ok5 : okSig env tree 5 = true := by kernel_rfl
theorem ok11 : okSig env tree 11 = true := by kernel_rfl
theorem ok17 : okSig env tree 17 = true := by kernel_rfl
theorem ok23 : okSig env tree 23 = true := by kernel_rfl
theorem ok30 : okSig env tree 30 = true := by kernel_rfl
theorem ok36 : okSig env tree 36 = true := by kernel_rfl
theorem ok42 : okSig env tree 42 = true := by kernel_rfl
theorem ok48 : okSig env tree 48 = true := by kernel_rfl
theorem ok54 : okSig env tree 54 = true := by kernel_rfl
theorem ok60 : okSig env tree 60 = true := by kernel_rfl
theorem ok66 : okSig env tree 66 = true := by kernel_rfl
theorem ok72 : okSig env tree 72 = true := by kernel_rfl
theorem ok78 : okSig env tree 78 = true := by kernel_rfl
theorem ok84 : okSig env tree 84 = true := by kernel_rfl
theorem ok90 : okSig env tree 90 = true := by kernel_rfl
theorem ok96 : okSig env tree 96 = true := by kernel_rfl
theorem ok102 : okSig env tree 102 = true := by kernel_rfl
theorem ok108 : okSig env tree 108 = true := by kernel_rfl
theorem ok114 : okSig env tree 114 = true := by kernel_rfl
theorem ok120 : okSig env tree 120 = true := by kernel_rfl
theorem ok126 : okSig env tree 126 = true := by kernel_rfl
theorem ok132 : okSig env tree 132 = true := by kernel_rfl
theorem ok138 : okSig env tree 138 = true := by kernel_rfl
theorem ok144 : okSig env tree 144 = true := by kernel_rfl
theorem ok150 : okSig env tree 150 = true := by kernel_rfl
theorem ok156 : okSig env tree 156 = true := by kernel_rfl
theorem ok162 : okSig env tree 162 = true := by kernel_rfl
end Go.SX.T52
