/-
The kernel runs the executor over the functions that chapter 52 reaches, and finds the trees.
-/
import Derived.Test.YtodlbeaidannaaaGreatSyT52
import Derived.Test.YtodlbeaidannaaaGreatSyU52
namespace Go.SX.T52
open Go.SX Go.Proofs

theorem ok4 : okSig env tree 4 = true := by kernel_rfl
theorem ok10 : okSig env tree 10 = true := by kernel_rfl
theorem ok16 : okSig env tree 16 = true := by kernel_rfl
theorem ok22 : okSig env tree 22 = true := by kernel_rfl
theorem ok29 : okSig env tree 29 = true := by kernel_rfl
theorem ok35 : okSig env tree 35 = true := by kernel_rfl
theorem ok41 : okSig env tree 41 = true := by kernel_rfl
theorem ok47 : okSig env tree 47 = true := by kernel_rfl
theorem ok53 : okSig env tree 53 = true := by kernel_rfl
theorem ok59 : okSig env tree 59 = true := by kernel_rfl
theorem ok65 : okSig env tree 65 = true := by kernel_rfl
theorem ok72 : okSig env tree 72 = true := by kernel_rfl
theorem ok78 : okSig env tree 78 = true := by kernel_rfl
theorem ok84 : okSig env tree 84 = true := by kernel_rfl
theorem ok90 : okSig env tree 90 = true := by kernel_rfl
theorem ok96 : okSig env tree 96 = true := by kernel_rfl
theorem ok102 : okSig env tree 102 = true := by kernel_rfl
theorem ok108 : okSig env tree 108 = true := by kernel_rfl
theorem ok114 : okSig env tree 114 = true := by kernel_rfl
theorem ok120 : okSig env tree 120 = true := by kernel_rfl
theorem ok126 : okSig env tree 126 = true := by kernel_rfl
theorem ok132 : okSig env tree 132 = true := by kernel_rfl
theorem ok138 : okSig env tree 138 = true := by kernel_rfl
theorem ok144 : okSig env tree 144 = true := by kernel_rfl
theorem ok150 : okSig env tree 150 = true := by kernel_rfl
theorem ok156 : okSig env tree 156 = true := by kernel_rfl
theorem ok162 : okSig env tree 162 = true := by kernel_rfl
end Go.SX.T52
