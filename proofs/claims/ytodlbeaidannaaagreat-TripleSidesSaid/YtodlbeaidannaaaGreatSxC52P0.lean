/-
The kernel runs the executor over the functions that chapter 52 reaches, and finds the trees.
-/
import Derived.Test.YtodlbeaidannaaaGreatSxT52
import Derived.Test.YtodlbeaidannaaaGreatSxU52
namespace Go.SX.T52
open Go.SX Go.Proofs

theorem ok0 : okSig env tree 0 = true := by kernel_rfl
theorem ok6 : okSig env tree 6 = true := by kernel_rfl
theorem ok12 : okSig env tree 12 = true := by kernel_rfl
theorem ok18 : okSig env tree 18 = true := by kernel_rfl
theorem ok24 : okSig env tree 24 = true := by kernel_rfl
theorem ok31 : okSig env tree 31 = true := by kernel_rfl
theorem ok37 : okSig env tree 37 = true := by kernel_rfl
theorem ok43 : okSig env tree 43 = true := by kernel_rfl
theorem ok49 : okSig env tree 49 = true := by kernel_rfl
theorem ok55 : okSig env tree 55 = true := by kernel_rfl
theorem ok61 : okSig env tree 61 = true := by kernel_rfl
theorem ok67 : okSig env tree 67 = true := by kernel_rfl
theorem ok73 : okSig env tree 73 = true := by kernel_rfl
theorem ok79 : okSig env tree 79 = true := by kernel_rfl
theorem ok85 : okSig env tree 85 = true := by kernel_rfl
theorem ok91 : okSig env tree 91 = true := by kernel_rfl
theorem ok97 : okSig env tree 97 = true := by kernel_rfl
theorem ok103 : okSig env tree 103 = true := by kernel_rfl
theorem ok109 : okSig env tree 109 = true := by kernel_rfl
theorem ok115 : okSig env tree 115 = true := by kernel_rfl
theorem ok121 : okSig env tree 121 = true := by kernel_rfl
theorem ok127 : okSig env tree 127 = true := by kernel_rfl
theorem ok133 : okSig env tree 133 = true := by kernel_rfl
theorem ok139 : okSig env tree 139 = true := by kernel_rfl
theorem ok145 : okSig env tree 145 = true := by kernel_rfl
theorem ok151 : okSig env tree 151 = true := by kernel_rfl
theorem ok157 : okSig env tree 157 = true := by kernel_rfl
theorem ok163 : okSig env tree 163 = true := by kernel_rfl
end Go.SX.T52
