/-
The kernel runs the executor over the functions that chapter 52 reaches, and finds the trees.
-/
import Derived.Test.YtodlbeaidannaaaGreatSyT52
import Derived.Test.YtodlbeaidannaaaGreatSyU52
namespace Go.SX.T52
open Go.SX Go.Proofs

theorem ok0 : okSig env tree 0 = true := by kernel_rfl
theorem ok6 : okSig env tree 6 = true := by kernel_rfl
theorem ok12 : okSig env tree 12 = true := by kernel_rfl
theorem ok18 : okSig env tree 18 = true := by kernel_rfl
theorem ok24 : okSig env tree 24 = true := by kernel_rfl
theorem ok31 : okSig env tree 31 = true := by kernel_rfl
theorem ok37 : okSig env tree 37 = true := by kernel_rfl
theorem ok43 : okSig env tree 43 = true := by kernel_rfl
theorem ok49 : okSig env tree 49 = true := by kernel_rfl
theorem ok55 : okSig env tree 55 = true := by kernel_rfl
theorem ok61 : okSig env tree 61 = true := by kernel_rfl
theorem ok67 : okSig env tree 67 = true := by kernel_rfl
theorem ok74 : okSig env tree 74 = true := by kernel_rfl
theorem ok80 : okSig env tree 80 = true := by kernel_rfl
theorem ok86 : okSig env tree 86 = true := by kernel_rfl
theorem ok92 : okSig env tree 92 = true := by kernel_rfl
theorem ok98 : okSig env tree 98 = true := by kernel_rfl
theorem ok104 : okSig env tree 104 = true := by kernel_rfl
theorem ok110 : okSig env tree 110 = true := by kernel_rfl
theorem ok116 : okSig env tree 116 = true := by kernel_rfl
theorem ok122 : okSig env tree 122 = true := by kernel_rfl
theorem ok128 : okSig env tree 128 = true := by kernel_rfl
theorem ok134 : okSig env tree 134 = true := by kernel_rfl
theorem ok140 : okSig env tree 140 = true := by kernel_rfl
theorem ok146 : okSig env tree 146 = true := by kernel_rfl
theorem ok152 : okSig env tree 152 = true := by kernel_rfl
theorem ok158 : okSig env tree 158 = true := by kernel_rfl
end Go.SX.T52
