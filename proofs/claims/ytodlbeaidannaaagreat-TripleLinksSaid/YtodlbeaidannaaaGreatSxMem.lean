/-
Memory: loads, stores, variables that are made, addresses.
-/
import Derived.Test.YtodlbeaidannaaaGreatSxBin
set_option linter.unusedVariables false
set_option linter.unusedSimpArgs false
set_option linter.unusedSectionVars false
namespace Go.SX
open Go.RowKit
section
variable {C : Cx} {σ : St} {ν : List D} {S : Nat → Prop} {ω : Nat → Option Value} {w : World} {r : List D} {a : Act} {o : Oper} {Q : Exit → Act → World → Prop} {K' : Delta → T}

theorem All2.map_right {α β γ : Type} {R : α → γ → Prop} {f : β → γ} {l : List α} {m : List β} (h : All2 (fun x y => R x (f y)) l m) : All2 R l (m.map f) := by
  induction h with
  | nil => exact .nil
  | cons h _ ih => exact .cons h ih
theorem All2.of_map {α β γ : Type} {R : γ → β → Prop} {f : α → γ} {l : List α} {m : List β} (h : All2 R (l.map f) m) : All2 (fun x y => R (f x) y) l m := by
  induction l generalizing m with
  | nil => cases h; exact .nil
  | cons x l ih => cases h with
    | cons h1 h2 => exact .cons h1 (ih h2)

/-! ### Loads -/
theorem load_exec {t : TypeId} {x : Operand} (ho : o.op = .load t x) {v : Value} (h : (Instr.loadAt t (a.eval x)).run C.P w = .ok v w) : (execOp a.eval o).run C.P w = .ok (.value v) w := by
  unfold execOp
  simp [ho, h]
/-- Cells told as data of some kinds: values and where they lie. -/
theorem rdp_cells {ti : TypeId → TI} {ks : List (K × E)} {b off : Nat} (h : ∀ (c : Nat) k x, ks[c]? = some (k, x) → ∃ u, w.cell? ⟨b, off + c, none⟩ = some u ∧ Rd ti w S k (x.den ν) u) (n : Nat) :
    ∃ vs, All2 (SR ti w S ω ν) ((ks.take n).map ofKE) vs ∧ ∀ (j : Nat) u, vs[j]? = some u → w.cell? ⟨b, off + j, none⟩ = some u := by
  induction ks generalizing n off with
  | nil => exact ⟨[], by simpa using .nil, by simp⟩
  | cons p r ih =>
    cases n with
    | zero => exact ⟨[], by simpa using .nil, by simp⟩
    | succ n =>
      obtain ⟨k, x⟩ := p
      obtain ⟨u, hu, hr⟩ := h 0 k x rfl
      obtain ⟨vs, h1, h2⟩ := ih (off := off + 1) (fun c k x hx => by
        obtain ⟨u, hu, hr⟩ := h (c + 1) k x (by simpa using hx)
        exact ⟨u, by rw [show off + 1 + c = off + (c + 1) by omega]; exact hu, hr⟩) n
      refine ⟨u :: vs, .cons hr h1, fun j u' hj => ?_⟩
      cases j with
      | zero => simp at hj; subst hj; exact hu
      | succ j => rw [show off + (j + 1) = off + 1 + j by omega]; exact h2 j u' (by simpa using hj)
theorem elemCells_get {agg : Bool} {lv : List K} {x : E} {c : Nat} {k : K} {y : E} (h : (elemCells agg lv x)[c]? = some (k, y)) : lv[c]? = some k ∧ ∀ ν, y.den ν = cellD agg c (x.den ν) := by
  unfold elemCells at h
  cases agg with
  | true =>
    simp only [if_true, List.getElem?_map, List.getElem?_zipIdx] at h
    cases hc : lv[c]? with
    | none => rw [hc] at h; simp at h
    | some k' =>
      rw [hc] at h
      simp at h
      obtain ⟨rfl, rfl⟩ := h
      exact ⟨rfl, fun ν => rfl⟩
  | false =>
    simp only [Bool.false_eq_true, if_false, List.getElem?_map] at h
    cases hc : lv[c]? with
    | none => rw [hc] at h; simp at h
    | some k' =>
      rw [hc] at h
      simp at h
      obtain ⟨rfl, rfl⟩ := h
      exact ⟨rfl, fun ν => rfl⟩

/-- The cells of an element of a row of the call's own. -/
theorem row_cells {ob : Nat} {t : TypeId} {x : E} (h : ObjR C.ti w S ω ν ob (.row t x)) {g n cap : Nat} (hω : ω ob = some (.slice (some ⟨g, 0, none⟩) n cap)) {e : TypeId} {agg : Bool} {lv : List K} (hti : C.ti t = .sl e agg lv)
    {i : Int} (h0 : 0 ≤ i) (hi : i < n) {ie : E} (hie : (ie.den ν).toInt = i) : ∀ (c : Nat) k y, (elemCells agg lv (.o2 .idx x ie))[c]? = some (k, y) → ∃ u, w.cell? ⟨g, i.toNat * lv.length + c, none⟩ = some u ∧ Rd C.ti w S k (y.den ν) u := by
  intro c k y hy
  obtain ⟨hk, hd⟩ := elemCells_get hy
  obtain ⟨v, e', agg', lv', ds, vs, hv, hti', hx, hown, hc⟩ := h
  rw [hω] at hv
  cases hv
  rw [hti] at hti'
  cases hti'
  have hn : n = ds.length := by
    rcases hown.2 with ⟨hv, _⟩ | ⟨g', cap', cur, hv, _⟩
    · simp at hv
    · simp at hv; omega
  subst hn
  have hj : i.toNat < ds.length := by omega
  have hcl : c < lv.length := (List.getElem?_eq_some_iff.1 hk).1
  have hlt : i.toNat * lv.length + c < vs.length := by
    rw [hown.1]
    calc i.toNat * lv.length + c < i.toNat * lv.length + lv.length := by omega
      _ = (i.toNat + 1) * lv.length := by rw [Nat.add_mul]; simp
      _ ≤ ds.length * lv.length := Nat.mul_le_mul_right _ hj
  have h2 := hown.cells (g := g) rfl (i.toNat * lv.length + c) (vs.getD (i.toNat * lv.length + c) undef) (by rw [List.getD_eq_getElem?_getD, List.getElem?_eq_getElem hlt]; rfl)
  rw [Addr.add_mid, Nat.zero_add] at h2
  refine ⟨_, h2, ?_⟩
  rw [hd ν]
  have := hc i.toNat c k hj hk
  simpa [E.den, O2.den, hx, D.toList, hie] using this
/-- The cells of an element of plain data. -/
theorem data_cells {t : TypeId} {d : D} {v : Value} (h : Rd C.ti w S (.sl t) d v) {e : TypeId} {agg : Bool} {lv : List K} (hti : C.ti t = .sl e agg lv) {i : Int} (h0 : 0 ≤ i) (hi : i < d.toList.length) :
    ∃ b off cap, v = .slice (some ⟨b, off, none⟩) d.toList.length cap ∧ S b ∧ ∀ {x ie : E}, x.den ν = d → (ie.den ν).toInt = i → ∀ (c : Nat) k y, (elemCells agg lv (.o2 .idx x ie))[c]? = some (k, y) → ∃ u, w.cell? ⟨b, off + (i.toNat * lv.length + c), none⟩ = some u ∧ Rd C.ti w S k (y.den ν) u := by
  cases h with
  | sl0 _ _ cap => simp [D.toList] at hi; omega
  | sl _ e' agg' lv' xs b off cap u hti' hcap hS hc hr =>
    rw [hti] at hti'
    cases hti'
    refine ⟨b, off, cap, rfl, hS, fun {x ie} hx hie c k y hy => ?_⟩
    obtain ⟨hk, hd⟩ := elemCells_get hy
    have hj : i.toNat < xs.length := by simp [D.toList] at hi; omega
    have hcl : c < lv.length := (List.getElem?_eq_some_iff.1 hk).1
    refine ⟨_, hc i.toNat c hj hcl, ?_⟩
    rw [hd ν]
    have := hr i.toNat c k hj hk
    simpa [E.den, O2.den, hx, D.toList, hie] using this

theorem drop_get {α : Type} (l : List α) (n i : Nat) : (l.drop n)[i]? = l[n + i]? := by rw [List.getElem?_drop]

theorem Rd.len {ti : TypeId → TI} {t : TypeId} {d : D} {a : Option Addr} {n cap : Nat} (h : Rd ti w S (.sl t) d (.slice a n cap)) : d.toList.length = n := by
  cases h <;> rfl
theorem loadE_inv {ti : TypeId → TI} {t ts : TypeId} {sz off : Nat} {x i : E} {R : RL} (hr : (stepLoadE ti t ts sz x i off σ K').Run R ν r) :
    ∃ e agg lv sv, ti ts = .sl e agg lv ∧ sz = lv.length ∧ mkSV ti t ((((elemCells agg lv (.o2 .idx x i)).drop off).take (ti t).size).map ofKE) = some sv ∧ (okDst K' σ (.v sv)).Run R ν r := by
  unfold stepLoadE at hr
  split at hr
  · rename_i e agg lv hti
    split at hr
    · rename_i hsz
      split at hr
      · rename_i sv hm
        exact ⟨e, agg, lv, sv, hti, hsz, hm, hr⟩
      · exact hr.elim
    · exact hr.elim
  · exact hr.elim

theorem stepLoad_sound (hT : TyOK C.P C.ti) (h : Sim C σ ν S ω a.tmps w) {t : TypeId} {x : Operand} (ho : o.op = .load t x) {s : SV1} (hx : SR C.ti w S ω ν s (a.eval x)) (hr : (stepLoad C.ti t s σ K').Run C.R ν r) :
    o.wp C.P a w (Post C σ ω o.dst K' r a.defers) Q := by
  have go : ∀ {cs : List SV1} {sv : SV} {b off : Nat} {vs : List Value}, mkSV C.ti t cs = some sv → All2 (SR C.ti w S ω ν) cs vs → (∀ (j : Nat) u, vs[j]? = some u → w.cell? ⟨b, off + j, none⟩ = some u) →
      a.eval x = .pointer (some ⟨b, off, none⟩) → (okDst K' σ (.v sv)).Run C.R ν r → o.wp C.P a w (Post C σ ω o.dst K' r a.defers) Q := by
    intro cs sv b off vs hm hc hcell hv hK
    obtain ⟨v, hrun, hsv⟩ := load_cells hT hm hc hcell
    exact post_pure h (load_exec ho (by rw [hv]; exact hrun)) hK hsv
  cases s with
  | p ob off =>
    simp only [stepLoad] at hr
    split at hr
    · rename_i cs hob
      split at hr
      · rename_i sv hm
        obtain ⟨b, hb, hv⟩ := hx
        obtain ⟨b', t', vs, hω, hh, hcs⟩ := h.objs ob _ hob
        rw [hb] at hω
        cases hω
        refine go hm ((hcs.drop off).take _) (fun j u hj => ?_) hv hr
        rw [cell_of_row w b (off + j) vs t' (0, 0) hh]
        rw [List.getElem?_take] at hj
        split at hj
        · rw [List.getElem?_drop] at hj; simpa using hj
        · cases hj
      · exact hr.elim
    · exact hr.elim
  | r ks =>
    simp only [stepLoad] at hr
    split at hr
    · rename_i sv hm
      obtain ⟨b, off, hv, _, hc⟩ := hx
      obtain ⟨vs, h1, h2⟩ := rdp_cells (ω := ω) hc (C.ti t).size
      exact go hm h1 h2 hv hr
    · exact hr.elim
  | po ob sz i off =>
    obtain ⟨g, n, cap, hω, hv, h0, hi⟩ := hx
    simp only [stepLoad] at hr
    split at hr
    · rename_i ts x hob
      obtain ⟨e, agg, lv, sv, hti, rfl, hm, hr⟩ := loadE_inv hr
      have hc := row_cells (h.objs ob _ hob) hω hti h0 hi (ie := i) rfl
      obtain ⟨vs, h1, h2⟩ := rdp_cells (S := S) (ν := ν) (ω := ω) (b := g) (off := (i.den ν).toInt.toNat * lv.length + off) (ks := (elemCells agg lv (.o2 .idx x i)).drop off) (fun c k y hy => by
        rw [drop_get] at hy
        obtain ⟨u, h1, h2⟩ := hc _ k y hy
        exact ⟨u, by rw [Nat.add_assoc]; exact h1, h2⟩) (C.ti t).size
      exact go hm h1 h2 hv hr
    · rename_i ts x hob
      obtain ⟨e, agg, lv, sv, hti, rfl, hm, hr⟩ := loadE_inv hr
      obtain ⟨v, hω', hd⟩ := h.objs ob _ hob
      rw [hω] at hω'
      cases hω'
      have hlen : (x.den ν).toList.length = n := hd.len
      obtain ⟨b, off', cap', hv', hS, hc⟩ := data_cells hd hti h0 (by rw [hlen]; exact hi)
      simp only [Value.slice.injEq, Option.some.injEq, Addr.mk.injEq] at hv'
      obtain ⟨⟨rfl, rfl, _⟩, _, _⟩ := hv'
      obtain ⟨vs, h1, h2⟩ := rdp_cells (S := S) (ν := ν) (ω := ω) (b := g) (off := (i.den ν).toInt.toNat * lv.length + off) (ks := (elemCells agg lv (.o2 .idx x i)).drop off) (fun c k y hy => by
        rw [drop_get] at hy
        obtain ⟨u, h1, h2⟩ := hc (ie := i) rfl rfl _ k y hy
        exact ⟨u, by rw [Nat.add_assoc]; simpa using h1, h2⟩) (C.ti t).size
      exact go hm h1 h2 hv hr
    · exact hr.elim
  | _ => exact hr.elim
end
end Go.SX
