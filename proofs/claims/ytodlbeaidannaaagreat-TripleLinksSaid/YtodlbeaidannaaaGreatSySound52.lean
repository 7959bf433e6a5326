/-
Each function that chapter 52 reaches answers what its tree answers; internal/bytealg.IndexByteString answers what the library's law tells.
-/
import Derived.Test.YtodlbeaidannaaaGreatSyC52
import Derived.Test.YtodlbeaidannaaaGreatSxOpen
import Derived.Test.YtodlbeaidannaaaGreatSySort52
import Derived.Laws.StandIn
set_option linter.unusedVariables false
namespace Go.SX.T52
open Go.SX Go.Proofs

theorem ok25 : SigOK Tryz.prog env.ti s25 (prim 2500) := by
  intro ν rs vs w S F ω hR hE
  rcases hR with ⟨_, s, b, rfl, rfl⟩ | ⟨h, _⟩
  case inr => cases h
  have hv : All2 (SlotR env.ti w S ω [.str s, .int b]) [.v (.c (.e .str (.v 0))), .v (.c (.e (.int .u8) (.v 1)))] vs := hE.vals
  cases hv with
  | cons h1 hv => cases hv with
    | cons h2 hv => cases hv with
      | nil =>
        have h1' : Rd env.ti w S .str (.str s) _ := h1
        have h2' : Rd env.ti w S (.int .u8) (.int b) _ := h2
        obtain ⟨_, rfl⟩ := Rd.str_inv h1'
        obtain ⟨_, rfl⟩ := Rd.int_inv h2'
        have hrun := run_callFunc_indexByte (P := Tryz.prog) Tryz.func176 (by kernel_rfl) (by kernel_rfl) (by kernel_rfl) (by kernel_rfl) #[.string s, .int .u8 b] w
        rw [Lib.run_indexByteString] at hrun
        refine ⟨_, _, hrun, S, ω, ?_⟩
        exact {
          frame := Fr.refl w F
          smono := fun _ h => h
          sbd := fun _ h => .inl h
          stab := hE.stab
          omono := fun _ _ h => h
          dom := hE.dom
          vals := Rd.int _ _
          objs := fun o ob h => by cases o <;> cases h
          sep := fun o o' ob ob' b h => by cases o <;> cases h
          own := fun o ob b h => by cases o <;> cases h }
theorem tabOK : TabOK Tryz.prog env tree prim := by
  intro i s hs
  have hi : i < 171 := (List.getElem?_eq_some_iff.1 hs).1
  have no : ∀ j, j ≠ 25 → j ≠ 69 → tree (j * 100) = none → tree (j * 100) = none ∧ SigOK Tryz.prog env.ti s (prim (j * 100)) := fun j hj hk h => ⟨h, fun _ _ _ _ _ _ _ h => by rcases h with ⟨h, _⟩ | ⟨h, _⟩ <;> omega⟩
  by_cases h25 : i = 25
  · subst h25
    have : s = s25 := by
      have h : env.sigs[25]? = some s25 := rfl
      rw [h] at hs
      exact (Option.some.inj hs).symm
    subst this
    exact .inr ⟨by kernel_rfl, ok25⟩
  by_cases h69 : i = 69
  · subst h69
    have : s = s69 := by
      have h : env.sigs[69]? = some s69 := rfl
      rw [h] at hs
      exact (Option.some.inj hs).symm
    subst this
    exact .inr ⟨by kernel_rfl, ok69⟩
  by_cases h164 : i = 164
  · exact .inr (no i h25 h69 (by subst h164; kernel_rfl))
  by_cases h165 : i = 165
  · exact .inr (no i h25 h69 (by subst h165; kernel_rfl))
  by_cases h166 : i = 166
  · exact .inr (no i h25 h69 (by subst h166; kernel_rfl))
  by_cases h167 : i = 167
  · exact .inr (no i h25 h69 (by subst h167; kernel_rfl))
  by_cases h168 : i = 168
  · exact .inr (no i h25 h69 (by subst h168; kernel_rfl))
  by_cases h169 : i = 169
  · exact .inr (no i h25 h69 (by subst h169; kernel_rfl))
  by_cases h170 : i = 170
  · exact .inr (no i h25 h69 (by subst h170; kernel_rfl))
  exact .inl (okSig_ok (fun _ _ h => h) hs (allOK i hi h25 h69 h164 h165 h166 h167 h168 h169 h170))
theorem sound (i : Nat) {s : Sig} (hs : env.sigs[i]? = some s) : SigOK Tryz.prog env.ti s (Ev tree prim (i * 100)) := sig_sound tyOK eqOK (drawOK env) mixed tabOK hs
theorem lvAll (h : ((List.range tyTab.length).all (lvB Tryz.prog env.ti)) = true) : ∀ t, lvB Tryz.prog env.ti t = true := by
  intro t
  by_cases ht : t < tyTab.length
  · exact List.all_eq_true.1 h t (List.mem_range.2 ht)
  · have : env.ti t = TI.bad := by
      show (tyTab[t]?).getD .bad = TI.bad
      rw [List.getElem?_eq_none (Nat.le_of_not_lt ht)]
      rfl
    unfold lvB
    rw [this]
end Go.SX.T52
