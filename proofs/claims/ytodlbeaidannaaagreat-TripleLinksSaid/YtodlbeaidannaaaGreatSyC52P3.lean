/-
The kernel runs the executor over the functions that chapter 52 reaches, and finds the trees.
-/
import Derived.Test.YtodlbeaidannaaaGreatSyT52
import Derived.Test.YtodlbeaidannaaaGreatSyU52
namespace Go.SX.T52
open Go.SX Go.Proofs

theorem ok3 : okSig env tree 3 = true := by kernel_rfl
theorem ok9 : okSig env tree 9 = true := by kernel_rfl
theorem ok15 : okSig env tree 15 = true := by kernel_rfl
theorem ok21 : okSig env tree 21 = true := by kernel_rfl
theorem ok28 : okSig env tree 28 = true := by kernel_rfl
theorem ok34 : okSig env tree 34 = true := by kernel_rfl
theorem ok40 : okSig env tree 40 = true := by kernel_rfl
theorem ok46 : okSig env tree 46 = true := by kernel_rfl
theorem ok52 : okSig env tree 52 = true := by kernel_rfl
theorem ok58 : okSig env tree 58 = true := by kernel_rfl
theorem ok64 : okSig env tree 64 = true := by kernel_rfl
theorem ok71 : okSig env tree 71 = true := by kernel_rfl
theorem ok77 : okSig env tree 77 = true := by kernel_rfl
theorem ok83 : okSig env tree 83 = true := by kernel_rfl
theorem ok89 : okSig env tree 89 = true := by kernel_rfl
theorem ok95 : okSig env tree 95 = true := by kernel_rfl
theorem ok101 : okSig env tree 101 = true := by kernel_rfl
theorem ok107 : okSig env tree 107 = true := by kernel_rfl
theorem ok113 : okSig env tree 113 = true := by kernel_rfl
theorem ok119 : okSig env tree 119 = true := by kernel_rfl
theorem ok125 : okSig env tree 125 = true := by kernel_rfl
theorem ok131 : okSig env tree 131 = true := by kernel_rfl
theorem ok137 : okSig env tree 137 = true := by kernel_rfl
theorem ok143 : okSig env tree 143 = true := by kernel_rfl
theorem ok149 : okSig env tree 149 = true := by kernel_rfl
theorem ok155 : okSig env tree 155 = true := by kernel_rfl
theorem ok161 : okSig env tree 161 = true := by kernel_rfl
end Go.SX.T52
