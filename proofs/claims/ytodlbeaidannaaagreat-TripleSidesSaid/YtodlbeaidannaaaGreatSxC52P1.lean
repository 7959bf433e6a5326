/-
The kernel runs the executor over the functions that chapter 52 reaches, and finds the trees.
-/
import Derived.Test.YtodlbeaidannaaaGreatSxT52
import Derived.Test.YtodlbeaidannaaaGreatSxU52
namespace Go.SX.T52
open Go.SX Go.Proofs

theorem ok1 : okSig env tree 1 = true := by kernel_rfl
theorem ok7 : okSig env tree 7 = true := by kernel_rfl
theorem ok13 : okSig env tree 13 = true := by kernel_rfl
theorem ok19 : okSig env tree 19 = true := by kernel_rfl
theorem ok26 : okSig env tree 26 = true := by kernel_rfl
theorem ok32 : okSig env tree 32 = true := by kernel_rfl
theorem ok38 : okSig env tree 38 = true := by kernel_rfl
theorem ok44 : okSig env tree 44 = true := by kernel_rfl
theorem ok50 : okSig env tree 50 = true := by kernel_rfl
theorem ok56 : okSig env tree 56 = true := by kernel_rfl
theorem ok62 : okSig env tree 62 = true := by kernel_rfl
theorem ok68 : okSig env tree 68 = true := by kernel_rfl
theorem ok74 : okSig env tree 74 = true := by kernel_rfl
theorem ok80 : okSig env tree 80 = true := by kernel_rfl
theorem ok86 : okSig env tree 86 = true := by kernel_rfl
theorem ok92 : okSig env tree 92 = true := by kernel_rfl
theorem ok98 : okSig env tree 98 = true := by kernel_rfl
theorem ok104 : okSig env tree 104 = true := by kernel_rfl
theorem ok110 : okSig env tree 110 = true := by kernel_rfl
theorem ok116 : okSig env tree 116 = true := by kernel_rfl
theorem ok122 : okSig env tree 122 = true := by kernel_rfl
theorem ok128 : okSig env tree 128 = true := by kernel_rfl
theorem ok134 : okSig env tree 134 = true := by kernel_rfl
theorem ok140 : okSig env tree 140 = true := by kernel_rfl
theorem ok146 : okSig env tree 146 = true := by kernel_rfl
theorem ok152 : okSig env tree 152 = true := by kernel_rfl
theorem ok158 : okSig env tree 158 = true := by kernel_rfl
end Go.SX.T52
