/-
What the function of Go's library answers that has no tree here: the first place of a byte in a string.
-/
import Derived.Test.YtodlbeaidannaaaGreatSxGo
import Derived.Test.YtodlbeaidannaaaGreatSxV52
import Derived.KernelRfl
import Derived.Lib.Bytealg
set_option linter.unusedVariables false
namespace Go.SX.T52
open Go.SX

def prim (l : Nat) (ds r : List D) : Prop := l = 2500 ∧ ∃ s b, ds = [.str s, .int b] ∧ r = [.int (Lib.indexByte s.data.toList b.toNat.toUInt8)]
theorem primDet : PrimDet prim := by
  intro l ds r r' h h'
  obtain ⟨_, s, b, h1, rfl⟩ := h
  obtain ⟨_, s', b', h1', rfl⟩ := h'
  rw [h1] at h1'
  simp only [List.cons.injEq, D.str.injEq, D.int.injEq, and_true] at h1'
  obtain ⟨rfl, rfl⟩ := h1'
  rfl
def pe (l : Nat) (ds : List D) : Option (List D) := match l, ds with
  | 2500, [.str s, .int b] => some [.int (Lib.indexByte s.data.toList b.toNat.toUInt8)]
  | _, _ => none
theorem pe_ok : ∀ l ds r, pe l ds = some r → prim l ds r := by
  intro l ds r h
  unfold pe at h
  split at h
  · cases h
    exact ⟨rfl, _, _, rfl, rfl⟩
  · cases h
/-- What a label answers. -/
noncomputable def ev : Nat → List D → Option (List D) := evr tree prim
theorem ev_by {l : Nat} {t : T} (ht : tree l = some t) {ds r : List D} (h : t.go ev ds = some r) : ev l ds = some r := evr_of primDet ht h
theorem ev_eq {l : Nat} {t : T} (ht : tree l = some t) (hf : t.flat = true) {ds : List D} : ev l ds = t.go ev ds := evr_eq primDet ht hf
theorem awake_run : fnEx tree pe 1000 100 [] = some [.bool true] := by kernel_rfl
theorem awake_ok : ev 100 [] = some [.bool true] := (evr_iff primDet).2 ⟨1000, fnEx_ok pe_ok _ _ _ _ awake_run⟩
end Go.SX.T52
