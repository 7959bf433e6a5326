/-
Any order of a drawn region: one operation, at any set of those that went before.
-/
import Derived.Test.YtodlbeaidannaaaGreatSxApart
set_option linter.unusedVariables false
set_option linter.unusedSimpArgs false
set_option linter.unusedSectionVars false
namespace Go.SX
open Go.RowKit

section
variable {ops : Array Oper} {its : List Itm} {full : List (Itm × List Nat)} {X : Nat → Bool}
def Closed (its : List Itm) (X : Nat → Bool) : Prop := ∀ (j : Nat) it, its[j]? = some it → X j = true → ∀ d, d ∈ bindPreds it.o → X d = true
def Ready (its : List Itm) (X : Nat → Bool) (i : Nat) : Prop := X i = false ∧ ∀ it, its[i]? = some it → ∀ d, d ∈ bindPreds it.o → X d = true
variable (hfull : full.map (·.1) = its) (hI : ApI ops full)
include hfull hI
theorem full_get {j : Nat} {x : Itm × List Nat} (hx : full[j]? = some x) : its[j]? = some x.1 := by
  rw [← hfull, List.getElem?_map, hx]; rfl
theorem anc_in (hX : Closed its X) : ∀ (n j : Nat) (x : Itm × List Nat), j ≤ n → full[j]? = some x → (∀ d, d ∈ bindPreds x.1.o → X d = true) → ∀ i, i ∈ x.2 → X i = true := by
  intro n
  induction n with
  | zero =>
    intro j x hj hx hd i hi
    obtain ⟨a1, a2, _⟩ := hI j x hx
    rcases a2 i hi with h | ⟨d, hd', _⟩
    · exact hd i h
    · have := a1 d hd'; omega
  | succ n ih =>
    intro j x hj hx hd i hi
    obtain ⟨a1, a2, _⟩ := hI j x hx
    rcases a2 i hi with h | ⟨d, hd', y, hy, hi'⟩
    · exact hd i h
    · exact ih d y (by have := a1 d hd'; omega) hy (fun e he => hX d y.1 (full_get hfull hI hy) (hd d hd') e he) i hi'
theorem apart_of (hX : Closed its X) {i : Nat} (hr : Ready its X i) {a b : Itm} {j : Nat} (ha : its[i]? = some a) (hb : its[j]? = some b) : (X j = true → i < j → apart ops a b = true) ∧ (X j = false → j < i → apart ops b a = true) := by
  have get : ∀ {k : Nat} {c : Itm}, its[k]? = some c → ∃ x, full[k]? = some x ∧ x.1 = c := by
    intro k c hc
    rw [← hfull, List.getElem?_map] at hc
    obtain ⟨x, h1, h2⟩ := Option.map_eq_some_iff.1 hc
    exact ⟨x, h1, h2⟩
  obtain ⟨x, hx, rfl⟩ := get ha
  obtain ⟨y, hy, rfl⟩ := get hb
  constructor
  · intro hj hij
    rcases (hI j y hy).2.2 i x hij hx with h | h
    · have := anc_in hfull hI hX j j y (Nat.le_refl _) hy (fun d hd => hX j y.1 hb hj d hd) i h
      rw [hr.1] at this
      cases this
    · exact h
  · intro hj hij
    rcases (hI i x hx).2.2 j y hij hy with h | h
    · have := anc_in hfull hI hX i i x (Nat.le_refl _) hx (fun d hd => hr.2 x.1 ha d hd) j h
      rw [hj] at this
      cases this
    · exact h
end
theorem apart_inv {ops : Array Oper} {a b : Itm} (h : apart ops a b = true) : (∀ d, a.o.dst = some d → d ∉ looksOf ops b.o ∧ b.o.dst ≠ some d) ∧ (∀ d, b.o.dst = some d → d ∉ looksOf ops a.o) ∧ (∀ p, p ∈ a.wr → p ∉ b.rd ∧ p ∉ b.wr) ∧ (∀ p, p ∈ b.wr → p ∉ a.rd) := by
  simp only [apart, Bool.and_eq_true, List.all_eq_true] at h
  obtain ⟨⟨⟨h1, h2⟩, h3⟩, h4⟩ := h
  refine ⟨fun d hd => ?_, fun d hd => ?_, fun p hp => ?_, fun p hp => ?_⟩
  · rw [hd] at h1
    simpa using h1
  · rw [hd] at h2
    simpa using h2
  · have := h3 p hp
    simpa using this
  · have := h4 p hp
    simpa using this
section
variable {ops : Array Oper} {its : List Itm} {full : List (Itm × List Nat)} {X : Nat → Bool} {hat : St}
variable (hfull : full.map (·.1) = its) (hI : ApI ops full) (hfit : ∀ it, it ∈ its → it.fits hat.objs.length)
include hfull hI hfit
theorem foldAll_take (i : Nat) (hi : i ≤ its.length) : foldAll (its.take i) hat = fold (fun j => decide (j < i)) 0 its hat := by
  have := fold_lt (its.take i) (its.drop i) 0 hat
  rw [List.take_append_drop] at this
  rw [← this]
  congr 1
  funext j
  rw [List.length_take]
  congr 1
  simp
  omega
/-- What it looks at is as in the text's order. -/
theorem view_slot (hX : Closed its X) {i : Nat} (hr : Ready its X i) {a : Itm} (ha : its[i]? = some a) {t : Nat} (ht : t ∈ looksOf ops a.o) : (fold X 0 its hat).slots[t]? = (foldAll (its.take i) hat).slots[t]? := by
  rw [foldAll_take hfull hI hfit i (Nat.le_of_lt (List.getElem?_eq_some_iff.1 ha).1)]
  refine fold_slot its 0 rfl fun j b hb hne => ?_
  simp only [Nat.zero_add] at hne
  obtain ⟨h1, h2⟩ := apart_of hfull hI hX hr ha hb
  intro hd
  cases hXj : X j with
  | true =>
    rw [hXj] at hne
    have hji : ¬ j < i := by simpa using hne
    have hne' : j ≠ i := fun e => by rw [e, hr.1] at hXj; cases hXj
    exact (apart_inv (h1 hXj (by omega))).2.1 t hd ht
  | false =>
    rw [hXj] at hne
    have hji : j < i := by simpa using hne
    exact ((apart_inv (h2 hXj hji)).1 t hd).1 ht
theorem view_obj (hX : Closed its X) {i : Nat} (hr : Ready its X i) {a : Itm} (ha : its[i]? = some a) {p : Nat} (hp : p ∈ a.rd) : (fold X 0 its hat).objs[p]? = (foldAll (its.take i) hat).objs[p]? := by
  rw [foldAll_take hfull hI hfit i (Nat.le_of_lt (List.getElem?_eq_some_iff.1 ha).1)]
  refine fold_obj its 0 hfit hfit rfl fun j b hb hne => ?_
  simp only [Nat.zero_add] at hne
  obtain ⟨h1, h2⟩ := apart_of hfull hI hX hr ha hb
  intro hd
  cases hXj : X j with
  | true =>
    rw [hXj] at hne
    have hji : ¬ j < i := by simpa using hne
    have hne' : j ≠ i := fun e => by rw [e, hr.1] at hXj; cases hXj
    exact (apart_inv (h1 hXj (by omega))).2.2.2 p hd hp
  | false =>
    rw [hXj] at hne
    have hji : j < i := by simpa using hne
    exact ((apart_inv (h2 hXj hji)).2.2.1 p hd).1 hp
/-- One more is done. -/
theorem more_slot (hX : Closed its X) {i : Nat} (hr : Ready its X i) {a : Itm} (ha : its[i]? = some a) (t : Nat) : (fold (fun j => X j || j == i) 0 its hat).slots[t]? = (ap a (fold X 0 its hat)).slots[t]? := by
  by_cases hd : a.o.dst = some t
  · have h1 : (fold X 0 its hat).slots[t]? = (fold (fun j => X j && decide (j < i)) 0 its hat).slots[t]? := by
      refine fold_slot its 0 rfl fun j b hb hne => ?_
      simp only [Nat.zero_add] at hne
      cases hXj : X j with
      | false => rw [hXj] at hne; simp at hne
      | true =>
        rw [hXj] at hne
        have hji : ¬ j < i := by simpa using hne
        have hne' : j ≠ i := fun e => by rw [e, hr.1] at hXj; cases hXj
        exact ((apart_inv ((apart_of hfull hI hX hr ha hb).1 hXj (by omega))).1 t hd).2
    rw [ap_slots, setS_agree h1, ← ap_slots]
    have hl := fold_last (X := fun j => X j && decide (j < i)) its 0 (σ := hat) ha (fun j hj => by simp; omega) (by simp)
    rw [← hl]
    refine fold_slot its 0 rfl fun j b hb hne => ?_
    simp only [Nat.zero_add, Nat.add_zero] at hne
    cases hXj : X j with
    | false => rw [hXj] at hne; simp at hne
    | true =>
      rw [hXj] at hne
      have hne' : j ≠ i := fun e => by rw [e, hr.1] at hXj; cases hXj
      have hji : ¬ j < i := by
        intro hlt
        simp [hlt] at hne
      exact ((apart_inv ((apart_of hfull hI hX hr ha hb).1 hXj (by omega))).1 t hd).2
  · rw [ap_slots, setS_ne hd]
    refine fold_slot its 0 rfl fun j b hb hne => ?_
    simp only [Nat.zero_add] at hne
    have hji : j = i := by
      cases hXj : X j <;> rw [hXj] at hne <;> simp at hne
      exact hne
    subst hji
    rw [ha] at hb
    cases hb
    exact hd
theorem more_obj (hX : Closed its X) {i : Nat} (hr : Ready its X i) {a : Itm} (ha : its[i]? = some a) (p : Nat) : (fold (fun j => X j || j == i) 0 its hat).objs[p]? = (ap a (fold X 0 its hat)).objs[p]? := by
  have hfa : a.fits hat.objs.length := hfit a (List.mem_of_getElem? ha)
  have hl0 : ∀ Y : Nat → Bool, (fold Y 0 its hat).objs.length = hat.objs.length := fun Y => fold_len its 0 hfit
  by_cases hd : p ∈ a.wr
  · have h1 : (fold X 0 its hat).objs[p]? = (fold (fun j => X j && decide (j < i)) 0 its hat).objs[p]? := by
      refine fold_obj its 0 hfit hfit rfl fun j b hb hne => ?_
      simp only [Nat.zero_add] at hne
      cases hXj : X j with
      | false => rw [hXj] at hne; simp at hne
      | true =>
        rw [hXj] at hne
        have hji : ¬ j < i := by simpa using hne
        have hne' : j ≠ i := fun e => by rw [e, hr.1] at hXj; cases hXj
        exact ((apart_inv ((apart_of hfull hI hX hr ha hb).1 hXj (by omega))).2.2.1 p hd).2
    rw [ap_obj_agree (by rw [hl0]; exact hfa) (by rw [hl0]; exact hfa) h1]
    have hl := fold_last (X := fun j => X j && decide (j < i)) its 0 (σ := hat) ha (fun j hj => by simp; omega) (by simp)
    rw [← hl]
    refine fold_obj its 0 hfit hfit rfl fun j b hb hne => ?_
    simp only [Nat.zero_add, Nat.add_zero] at hne
    cases hXj : X j with
    | false => rw [hXj] at hne; simp at hne
    | true =>
      rw [hXj] at hne
      have hne' : j ≠ i := fun e => by rw [e, hr.1] at hXj; cases hXj
      have hji : ¬ j < i := by
        intro hlt
        simp [hlt] at hne
      exact ((apart_inv ((apart_of hfull hI hX hr ha hb).1 hXj (by omega))).2.2.1 p hd).2
  · rw [ap_obj_ne (by rw [hl0]; exact hfa) hd]
    refine fold_obj its 0 hfit hfit rfl fun j b hb hne => ?_
    simp only [Nat.zero_add] at hne
    have hji : j = i := by
      cases hXj : X j <;> rw [hXj] at hne <;> simp at hne
      exact hne
    subst hji
    rw [ha] at hb
    cases hb
    exact hd
omit hfull hI hfit in
theorem ap_rest (it : Itm) (σ : St) : (ap it σ).nv = σ.nv ∧ (ap it σ).known = σ.known ∧ (ap it σ).nb = σ.nb ∧ (ap it σ).vb = σ.vb := by
  unfold ap
  cases it.δ <;> exact ⟨rfl, rfl, rfl, rfl⟩
omit hfull hI hfit in
theorem fold_rest {X : Nat → Bool} : ∀ (its : List Itm) (k : Nat) (σ : St), (fold X k its σ).nv = σ.nv ∧ (fold X k its σ).known = σ.known ∧ (fold X k its σ).nb = σ.nb ∧ (fold X k its σ).vb = σ.vb
  | [], k, σ => ⟨rfl, rfl, rfl, rfl⟩
  | it :: r, k, σ => by
    unfold fold
    obtain ⟨h1, h2, h3, h4⟩ := fold_rest r (k + 1) (if X k then ap it σ else σ)
    have h0 : (if X k then ap it σ else σ).nv = σ.nv ∧ (if X k then ap it σ else σ).known = σ.known ∧ (if X k then ap it σ else σ).nb = σ.nb ∧ (if X k then ap it σ else σ).vb = σ.vb := by
      split
      · exact ap_rest it σ
      · exact ⟨rfl, rfl, rfl, rfl⟩
    exact ⟨h1.trans h0.1, h2.trans h0.2.1, h3.trans h0.2.2.1, h4.trans h0.2.2.2⟩
theorem more_eq (hX : Closed its X) {i : Nat} (hr : Ready its X i) {a : Itm} (ha : its[i]? = some a) : fold (fun j => X j || j == i) 0 its hat = ap a (fold X 0 its hat) := by
  have h1 := List.ext_getElem? (more_slot hfull hI hfit hX hr ha)
  have h2 := List.ext_getElem? (more_obj hfull hI hfit hX hr ha)
  obtain ⟨g1, g2, g3, g4⟩ := fold_rest (X := fun j => X j || j == i) its 0 hat
  obtain ⟨k1, k2, k3, k4⟩ := fold_rest (X := X) its 0 hat
  obtain ⟨m1, m2, m3, m4⟩ := ap_rest a (fold X 0 its hat)
  have ext : ∀ (s t : St), s.slots = t.slots → s.objs = t.objs → s.nv = t.nv → s.known = t.known → s.nb = t.nb → s.vb = t.vb → s = t := by
    intro s t h1 h2 h3 h4 h5 h6
    cases s; cases t
    simp only at h1 h2 h3 h4 h5 h6
    subst h1 h2 h3 h4 h5 h6
    rfl
  exact ext _ _ h1 h2 (by rw [g1, m1, k1]) (by rw [g2, m2, k2]) (by rw [g3, m3, k3]) (by rw [g4, m4, k4])
end
/-- Places are kept. -/
theorem Sim.pad {C : Cx} {σ : St} {ν : List D} {S : Nat → Prop} {ω : Nat → Option Value} {tm : Array Value} {w : World} (h : Sim C σ ν S ω tm w) (k : Nat) : Sim C { σ with objs := σ.objs ++ List.replicate k .dead } ν S ω tm w := by
  have cases' : ∀ {o : Nat} {x : SObj}, (σ.objs ++ List.replicate k .dead)[o]? = some x → σ.objs[o]? = some x ∨ x = .dead := by
    intro o x hx
    by_cases ho : o < σ.objs.length
    · rw [List.getElem?_append_left ho] at hx; exact .inl hx
    · rw [List.getElem?_append_right (by omega)] at hx
      have := List.mem_of_getElem? hx
      rw [List.mem_replicate] at this
      exact .inr this.2
  exact { h with
    dom := fun o u hu => by have := h.dom o u hu; simp; omega
    objs := fun o x hx => by
      rcases cases' hx with g | rfl
      · exact h.objs o x g
      · trivial
    sep := fun o1 o2 x x' b h1 h2 h3 h4 h5 h6 => by
      rcases cases' h1 with g | rfl
      · rcases cases' h2 with k | rfl
        · exact h.sep o1 o2 x x' b g k h3 h4 h5 h6
        · simp [SObj.live] at h4
      · simp [SObj.live] at h3
    own := fun o1 x b h1 h2 h3 => by
      rcases cases' h1 with g | rfl
      · exact h.own o1 x b g h2 h3
      · simp [SObj.live] at h2 }
end Go.SX
