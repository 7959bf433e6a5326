/-
The kernel runs the executor over the functions that chapter 52 reaches, and finds the trees.
-/
import Derived.Test.YtodlbeaidannaaaGreatSxT52
import Derived.Test.YtodlbeaidannaaaGreatSxU52
namespace Go.SX.T52
open Go.SX Go.Proofs

theorem ok2 : okSig env tree 2 = true := by kernel_rfl
theorem ok8 : okSig env tree 8 = true := by kernel_rfl
theorem ok14 : okSig env tree 14 = true := by kernel_rfl
theorem ok20 : okSig env tree 20 = true := by kernel_rfl
theorem ok27 : okSig env tree 27 = true := by kernel_rfl
theorem ok33 : okSig env tree 33 = true := by kernel_rfl
theorem ok39 : okSig env tree 39 = true := by kernel_rfl
theorem ok45 : okSig env tree 45 = true := by kernel_rfl
theorem ok51 : okSig env tree 51 = true := by kernel_rfl
theorem ok57 : okSig env tree 57 = true := by kernel_rfl
theorem ok63 : okSig env tree 63 = true := by kernel_rfl
theorem ok69 : okSig env tree 69 = true := by kernel_rfl
theorem ok75 : okSig env tree 75 = true := by kernel_rfl
theorem ok81 : okSig env tree 81 = true := by kernel_rfl
theorem ok87 : okSig env tree 87 = true := by kernel_rfl
theorem ok93 : okSig env tree 93 = true := by kernel_rfl
theorem ok99 : okSig env tree 99 = true := by kernel_rfl
theorem ok105 : okSig env tree 105 = true := by kernel_rfl
theorem ok111 : okSig env tree 111 = true := by kernel_rfl
theorem ok117 : okSig env tree 117 = true := by kernel_rfl
theorem ok123 : okSig env tree 123 = true := by kernel_rfl
theorem ok129 : okSig env tree 129 = true := by kernel_rfl
theorem ok135 : okSig env tree 135 = true := by kernel_rfl
theorem ok141 : okSig env tree 141 = true := by kernel_rfl
theorem ok147 : okSig env tree 147 = true := by kernel_rfl
theorem ok153 : okSig env tree 153 = true := by kernel_rfl
theorem ok159 : okSig env tree 159 = true := by kernel_rfl
end Go.SX.T52
