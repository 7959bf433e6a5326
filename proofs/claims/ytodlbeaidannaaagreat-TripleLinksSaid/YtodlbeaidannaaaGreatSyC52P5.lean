/-
The kernel runs the executor over the functions that chapter 52 reaches, and finds the trees.
-/
import Derived.Test.YtodlbeaidannaaaGreatSyT52
import Derived.Test.YtodlbeaidannaaaGreatSyU52
namespace Go.SX.T52
open Go.SX Go.Proofs

theorem ok5 : okSig env tree 5 = true := by kernel_rfl
theorem ok11 : okSig env tree 11 = true := by kernel_rfl
theorem ok17 : okSig env tree 17 = true := by kernel_rfl
theorem ok23 : okSig env tree 23 = true := by kernel_rfl
theorem ok30 : okSig env tree 30 = true := by kernel_rfl
theorem ok36 : okSig env tree 36 = true := by kernel_rfl
theorem ok42 : okSig env tree 42 = true := by kernel_rfl
theorem ok48 : okSig env tree 48 = true := by kernel_rfl
theorem ok54 : okSig env tree 54 = true := by kernel_rfl
theorem ok60 : okSig env tree 60 = true := by kernel_rfl
theorem ok66 : okSig env tree 66 = true := by kernel_rfl
theorem ok73 : okSig env tree 73 = true := by kernel_rfl
theorem ok79 : okSig env tree 79 = true := by kernel_rfl
theorem ok85 : okSig env tree 85 = true := by kernel_rfl
theorem ok91 : okSig env tree 91 = true := by kernel_rfl
theorem ok97 : okSig env tree 97 = true := by kernel_rfl
theorem ok103 : okSig env tree 103 = true := by kernel_rfl
theorem ok109 : okSig env tree 109 = true := by kernel_rfl
theorem ok115 : okSig env tree 115 = true := by kernel_rfl
theorem ok121 : okSig env tree 121 = true := by kernel_rfl
theorem ok127 : okSig env tree 127 = true := by kernel_rfl
theorem ok133 : okSig env tree 133 = true := by kernel_rfl
theorem ok139 : okSig env tree 139 = true := by kernel_rfl
theorem ok145 : okSig env tree 145 = true := by kernel_rfl
theorem ok151 : okSig env tree 151 = true := by kernel_rfl
theorem ok157 : okSig env tree 157 = true := by kernel_rfl
theorem ok163 : okSig env tree 163 = true := by kernel_rfl
end Go.SX.T52
