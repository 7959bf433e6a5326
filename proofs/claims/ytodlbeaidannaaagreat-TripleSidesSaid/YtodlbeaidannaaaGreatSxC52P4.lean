/-
The kernel runs the executor over the functions that chapter 52 reaches, and finds the trees.
-/
import Derived.Test.YtodlbeaidannaaaGreatSxT52
import Derived.Test.YtodlbeaidannaaaGreatSxU52
namespace Go.SX.T52
open Go.SX Go.Proofs

theorem ok4 : okSig env tree 4 = true := by kernel_rfl
theorem ok10 : okSig env tree 10 = true := by kernel_rfl
theorem ok16 : okSig env tree 16 = true := by kernel_rfl
theorem ok22 : okSig env tree 22 = true := by kernel_rfl
theorem ok29 : okSig env tree 29 = true := by kernel_rfl
theorem ok35 : okSig env tree 35 = true := by kernel_rfl
theorem ok41 : okSig env tree 41 = true := by kernel_rfl
theorem ok47 : okSig env tree 47 = true := by kernel_rfl
theorem ok53 : okSig env tree 53 = true := by kernel_rfl
theorem ok59 : okSig env tree 59 = true := by kernel_rfl
theorem ok65 : okSig env tree 65 = true := by kernel_rfl
theorem ok71 : okSig env tree 71 = true := by kernel_rfl
theorem ok77 : okSig env tree 77 = true := by kernel_rfl
theorem ok83 : okSig env tree 83 = true := by kernel_rfl
theorem ok89 : okSig env tree 89 = true := by kernel_rfl
theorem ok95 : okSig env tree 95 = true := by kernel_rfl
theorem ok101 : okSig env tree 101 = true := by kernel_rfl
theorem ok107 : okSig env tree 107 = true := by kernel_rfl
theorem ok113 : okSig env tree 113 = true := by kernel_rfl
theorem ok119 : okSig env tree 119 = true := by kernel_rfl
theorem ok125 : okSig env tree 125 = true := by kernel_rfl
theorem ok131 : okSig env tree 131 = true := by kernel_rfl
theorem ok137 : okSig env tree 137 = true := by kernel_rfl
theorem ok143 : okSig env tree 143 = true := by kernel_rfl
theorem ok149 : okSig env tree 149 = true := by kernel_rfl
theorem ok155 : okSig env tree 155 = true := by kernel_rfl
theorem ok161 : okSig env tree 161 = true := by kernel_rfl
end Go.SX.T52
