/-
Any order of a drawn region: the proof that what the text's order tells holds in any.
-/
import Derived.Test.YtodlbeaidannaaaGreatSxAny
set_option linter.unusedVariables false
set_option linter.unusedSimpArgs false
set_option linter.unusedSectionVars false
namespace Go.SX
open Go.RowKit

/-! ### The text's order, once more -/
theorem Tr.rest {R : RL} {env : Env} {ops : Array Oper} {σ σ' : St} {ν ν' : List D} {os : List Oper} {its : List Itm} (h : Tr R env ops σ ν os its σ' ν') :
    σ.text → ν.length = σ.nv → KnOK σ.known ν → σ'.text ∧ ν'.length = σ'.nv ∧ KnOK σ'.known ν' := by
  induction h with
  | nil => exact fun h1 h2 h3 => ⟨h1, h2, h3⟩
  | skip hg hk _ ih => exact fun h1 h2 h3 => ih h1 h2 hk
  | exec hg hk hl hld hrl _ _ _ ih =>
    exact fun h1 h2 h3 => ih ⟨rfl, rfl⟩ (by rw [List.length_append, h2, hrl]; rfl) (hk.low hl h2 _)
/-- What is made later lies behind. -/
theorem Tr.mono {R : RL} {env : Env} {ops : Array Oper} {σ σ' : St} {ν ν' : List D} {os : List Oper} {its : List Itm} (h : Tr R env ops σ ν os its σ' ν') :
    σ.text → (∀ (j : Nat) b, its[j]? = some b → σ.objs.length ≤ b.nb) ∧ (∀ (i j : Nat) a b δ, i < j → its[i]? = some a → its[j]? = some b → a.δ = some δ → a.nb + resv a.o δ ≤ b.nb) := by
  induction h with
  | nil => exact fun _ => ⟨fun j b h => by simp at h, fun i j a b δ hij h => by simp at h⟩
  | @skip σ σ' ν ν' o os its kn hg hk htr ih =>
    intro ht
    obtain ⟨i1, i2⟩ := ih ht
    refine ⟨fun j b hb => ?_, fun i j a b δ hij ha hb hd => ?_⟩
    · cases j with
      | zero => simp at hb; subst hb; exact Nat.le_of_eq ht.1.symm
      | succ j => exact i1 j b (by simpa using hb)
    · cases j with
      | zero => omega
      | succ j =>
        cases i with
        | zero => simp at ha; subst ha; cases hd
        | succ i => exact i2 i j a b δ (by omega) (by simpa using ha) (by simpa using hb) hd
  | @exec σ σ' ν ν' rs o os its kn δ0 hg hk hl hld hrl _ _ htr ih =>
    intro ht
    obtain ⟨i1, i2⟩ := ih ⟨rfl, rfl⟩
    have hn := stepD_len (σ := { σ with known := kn }) (o := o) (δ := δ0) ht.1
    have hnb : σ.nb = σ.objs.length := ht.1
    simp only at hn
    refine ⟨fun j b hb => ?_, fun i j a b δ hij ha hb hd => ?_⟩
    · cases j with
      | zero => simp at hb; subst hb; exact Nat.le_of_eq ht.1.symm
      | succ j =>
        have := i1 j b (by simpa using hb)
        omega
    · cases j with
      | zero => omega
      | succ j =>
        cases i with
        | zero =>
          simp at ha; subst ha
          cases hd
          have := i1 j b (by simpa using hb)
          simp only
          omega
        | succ i => exact i2 i j a b δ (by omega) (by simpa using ha) (by simpa using hb) hd

/-! ### A step that is no call leads to its leaf, in whatever hands it is -/
theorem Leads.run {R : RL} {Lf : Delta → List D → Prop} {t : T} {ν rs : List D} {δ : Delta} (h : Leads R t ν δ rs) : ∀ {n : Nat}, lowT n t = true → noCall t = true → ν.length = n → ∀ (μ r : List D), Lf δ (ν ++ μ) → rs = [] ∧ t.Run { R with Lf := Lf } (ν ++ μ) r := by
  induction h with
  | leaf => exact fun _ _ _ μ r h => ⟨rfl, h⟩
  | ck hc _ ih =>
    intro n hl hn hν μ r hL
    simp only [lowT, Bool.and_eq_true] at hl
    obtain ⟨h1, h2⟩ := ih hl.2 hn hν μ r hL
    exact ⟨h1, by rw [E.low_den hl.1 hν]; exact hc, h2⟩
  | call => exact fun _ hn => by cases hn
theorem Leads.call_inv {R : RL} {g n : Nat} {as : List E} {δ δ' : Delta} {ν rs : List D} (h : Leads R (.call g n as (.leaf δ')) ν δ rs) : δ = δ' ∧ rs.length = n ∧ R.R g (as.map (E.den ν)) rs := by
  cases h with
  | call h1 h2 => exact ⟨rfl, h1, h2⟩
theorem stepCall_leads {env : Env} {g : FuncId} {as : List Slot} {σ : St} {ν rs : List D} {R : RL} {δ : Delta} (hr : Leads R (stepCall env g as σ .leaf) ν δ rs) : ∃ i s th rho lent, findSig env g as σ.objs env.sigs 0 = some (i, s, th, rho, lent) ∧
    (∀ x, x ∈ rho → ∃ a, x = some a ∧ a < σ.objs.length ∧ (a < σ.nb ∨ σ.nb + (s.outO.length - s.inO.length) ≤ a)) ∧ (σ.low = true ∧ th.all (E.low σ.nv) = true) ∧ s.inO.length ≤ s.outO.length ∧ (s.inO.all SObj.live = true ∧ s.outLow = true) ∧ rs.length = s.nOut ∧ R.R (i * 100) (th.map (E.den ν)) rs ∧ δ = callDelta env.ti s rho lent σ := by
  unfold stepCall at hr
  split at hr
  · rename_i i s th rho lent hf
    split at hr
    · rename_i hc
      obtain ⟨c1, c2, c3, c4⟩ := hc
      obtain ⟨h1, h2, h3⟩ := hr.call_inv
      refine ⟨i, s, th, rho, lent, hf, fun x hx => ?_, c2, c3, c4, h2, h3, h1⟩
      have := List.all_eq_true.1 c1 x hx
      split at this
      · rename_i a
        exact ⟨a, rfl, of_decide_eq_true this⟩
      · cases this
    · cases hr
  · cases hr

theorem close_sub (objs : List SObj) : ∀ (f : Nat) (l : List Nat) {p : Nat}, p ∈ l → p ∈ close objs f l
  | 0, l, p, h => h
  | f + 1, l, p, h => by
    unfold close
    split
    · exact h
    · exact close_sub objs f _ (List.mem_append.2 (.inl h))

/-! ### The state at a set of what is done -/
/-- Places of what is not done have no handle. -/
def Places (its : List Itm) (X : Nat → Bool) (ω : Nat → Option Value) : Prop := ∀ (j : Nat) b δ, its[j]? = some b → X j = false → b.δ = some δ → ∀ p, b.nb ≤ p → p < b.nb + resv b.o δ → ω p = none
structure Reg (C : Cx) (env : Env) (ops : Array Oper) (its : List Itm) (full : List (Itm × List Nat)) (hat : St) (νf : List D) : Prop where
  hfull : full.map (·.1) = its
  hI : ApI ops full
  hfit : ∀ it, it ∈ its → it.fits hat.objs.length
  hops : its.map (·.o) = ops.toList
  at_ : ∀ (j : Nat) it, its[j]? = some it → ∃ σi νi, At C.R env ops hat (its.take j) νf it σi νi
  mono : ∀ (i j : Nat) a b δ, i < j → its[i]? = some a → its[j]? = some b → a.δ = some δ → a.nb + resv a.o δ ≤ b.nb
  kn0 : hat.known = []
def Inv (C : Cx) (its : List Itm) (hat : St) (νf : List D) (ds : List Deferred) (X : Nat → Bool) (a : Act) (w : World) : Prop :=
  a.defers = ds ∧ Closed its X ∧ ∃ S ω, Sim C (fold X 0 its hat) νf S ω a.tmps w ∧ Places its X ω
section
variable {C : Cx} {env : Env} {ops : Array Oper} {its : List Itm} {full : List (Itm × List Nat)} {hat : St} {νf : List D} {ds : List Deferred} {X : Nat → Bool} {a : Act} {w : World} {Q : Exit → Act → World → Prop}
theorem Closed.more {i : Nat} (h : Closed its X) (hr : Ready its X i) : Closed its (fun j => X j || j == i) := by
  intro j it hj hX d hd
  simp only [Bool.or_eq_true] at hX ⊢
  rcases hX with hX | hX
  · exact .inl (h j it hj hX d hd)
  · have : j = i := by simpa using hX
    subst this
    exact .inl (hr.2 it hj d hd)
theorem Itm.place_wr {b : Itm} {δ : Delta} (hd : b.δ = some δ) {p : Nat} (h1 : b.nb ≤ p) (h2 : p < b.nb + resv b.o δ) : p ∈ b.wr := by
  unfold Itm.wr
  rw [hd]
  simp only [List.mem_append, List.mem_map, List.mem_range]
  exact .inr ⟨p - b.nb, by omega, by omega⟩
theorem Itm.wr_lt {b : Itm} {δ : Delta} {objs : List SObj} (hd : b.δ = some δ) (hf : b.fine objs = true) {p : Nat} (hp : p ∈ b.wr) : p < b.nb + resv b.o δ := by
  unfold Itm.wr at hp
  unfold Itm.fine at hf
  rw [hd] at hp hf
  simp only [Bool.and_eq_true, List.all_eq_true, decide_eq_true_eq] at hf
  simp only [List.mem_append, List.mem_map, List.mem_range] at hp
  rcases hp with (⟨q, hq, rfl⟩ | hp) | ⟨k, hk, rfl⟩
  · have := hf.1.1.1 q hq; omega
  · have := hf.1.1.2 p hp; omega
  · omega
theorem Reg.dead (G : Reg C env ops its full hat νf) (hX : Closed its X) {i : Nat} (hr : Ready its X i) {it : Itm} (hit : its[i]? = some it) {δ : Delta} (hd : it.δ = some δ) {p : Nat} (h1 : it.nb ≤ p) (h2 : p < it.nb + resv it.o δ) :
    (fold X 0 its hat).objs[p]? = some .dead := by
  obtain ⟨σi, νi, hA⟩ := G.at_ i it hit
  have hlt : p < hat.objs.length := by
    rcases hA.go with ⟨h, _⟩ | ⟨δ', rs, h, _, _, _, _, _, _, h8, _⟩
    · rw [hd] at h; cases h
    · rw [hd] at h; cases h; omega
  rw [← hA.dead p (by rw [← hA.nb]; exact h1) hlt, foldAll_take G.hfull G.hI G.hfit i (Nat.le_of_lt (List.getElem?_eq_some_iff.1 hit).1)]
  refine fold_obj its 0 G.hfit G.hfit rfl fun j b hb hne => ?_
  simp only [Nat.zero_add] at hne
  cases hXj : X j with
  | true =>
    rw [hXj] at hne
    have hji : ¬ j < i := by simpa using hne
    have hne' : j ≠ i := fun e => by rw [e, hr.1] at hXj; cases hXj
    exact ((apart_inv ((apart_of G.hfull G.hI hX hr hit hb).1 hXj (by omega))).2.2.1 p (Itm.place_wr hd h1 h2)).2
  | false =>
    rw [hXj] at hne
    have hji : j < i := by simpa using hne
    intro hp
    obtain ⟨σj, νj, hB⟩ := G.at_ j b hb
    rcases hB.go with ⟨h, _⟩ | ⟨δ', rs, h, _, _, _, _, hf, _⟩
    · unfold Itm.wr at hp; rw [h] at hp; cases hp
    · have := Itm.wr_lt h hf hp
      have := G.mono j i b it δ' hji hb hit h
      omega
theorem Places.more {i : Nat} {it : Itm} (G : Reg C env ops its full hat νf) (hit : its[i]? = some it) {ω ω' : Nat → Option Value} (h : Places its X ω) {δ : Delta} (hd : it.δ = some δ) {k : Nat} (hk : k ≤ resv it.o δ)
    (hω : ∀ o, ω' o ≠ none → ω o ≠ none ∨ (it.nb ≤ o ∧ o < it.nb + k)) : Places its (fun j => X j || j == i) ω' := by
  intro j b δ' hb hX hdb p h1 h2
  simp only [Bool.or_eq_false_iff] at hX
  have hji : j ≠ i := by simpa using hX.2
  cases hp : ω' p with
  | none => rfl
  | some v =>
    rcases hω p (by rw [hp]; simp) with g | ⟨g1, g2⟩
    · exact absurd (h j b δ' hb hX.1 hdb p h1 h2) g
    · rcases Nat.lt_or_gt_of_ne hji with hlt | hlt
      · have := G.mono j i b it δ' hlt hb hit hdb
        omega
      · have := G.mono i j it b δ hlt hit hb hd
        omega
/-- The slots that it looks at. -/
theorem Reg.slot (G : Reg C env ops its full hat νf) (hX : Closed its X) {i : Nat} (hr : Ready its X i) {it : Itm} (hit : its[i]? = some it) {σi : St} {νi : List D} (hA : At C.R env ops hat (its.take i) νf it σi νi) {t : Nat} (ht : t ∈ looksOf ops it.o) :
    σi.slots[t]? = (fold X 0 its hat).slots[t]? := by rw [hA.slots, view_slot G.hfull G.hI G.hfit hX hr hit ht]
/-- The guard's answer is as in the text's order. -/
theorem Reg.guard (G : Reg C env ops its full hat νf) (hX : Closed its X) {i : Nat} (hr : Ready its X i) {it : Itm} (hit : its[i]? = some it) {σi : St} {νi : List D} (hA : At C.R env ops hat (its.take i) νf it σi νi)
    {S : Nat → Prop} {ω : Nat → Option Value} (h : Sim C (fold X 0 its hat) νf S ω a.tmps w) {b : Bool} (hg : GOK ops it.o σi νi b) (hp : ∃ μ, νf = νi ++ μ) : Region.wanted it.o (yielded ops a.tmps) = b := by
  unfold GOK at hg
  unfold Region.wanted
  split at hg
  · rename_i hgd; simp only [hgd]; exact hg.symm
  · rename_i j want hgd
    simp only [hgd]
    obtain ⟨t, ht, hc⟩ := hg
    have hlook : t ∈ looksOf ops it.o := by
      unfold looksOf
      rw [hgd]
      simp [ht]
    have hsl := G.slot hX hr hit hA hlook
    rcases hc with ⟨c, hs, hl, hb⟩ | ⟨hs, hb⟩
    · rw [hs] at hsl
      have hv := (Rd.bool_inv (h.slots t _ hsl.symm)).2
      have hlt : t < a.tmps.size := by rw [h.tsz]; exact (List.getElem?_eq_some_iff.1 hsl.symm).1
      obtain ⟨μ, hμ⟩ := hp
      have hden : c.den νf = c.den νi := by rw [hμ]; exact E.low_den hl hA.nv μ
      rw [hden] at hv
      have hy : yielded ops a.tmps j = some (c.den νi).toBool := by
        unfold yielded
        rw [ht]
        have : a.tmps[t]? = some (.bool (c.den νi).toBool) := by
          rw [← hv]
          simp [hlt]
        simp [this]
      rw [hy, ← hb]
      cases (c.den νi).toBool <;> cases want <;> rfl
    · rw [hs] at hsl
      have hv := h.slots t _ hsl.symm
      have hy : yielded ops a.tmps j = none := by
        unfold yielded
        rw [ht]
        have hv' : a.tmps.getD t undef = undef := hv
        have hlt : t < a.tmps.size := by rw [h.tsz]; exact (List.getElem?_eq_some_iff.1 hsl.symm).1
        have : a.tmps[t]? = some undef := by
          rw [← hv']
          simp [hlt]
        simp [this, undef]
      rw [hy, hb]
      rfl
/-- An operation that is done. -/
theorem Reg.go (G : Reg C env ops its full hat νf) (hti : env.ti = C.ti) (hT : TyOK C.P C.ti) (hE : ∀ t, t ∈ env.eqt → EqTy C.P C.ti t) (hS : SigsOK C.P C.ti env.sigs C.R.R) (hX : Closed its X) {i : Nat} (hr : Ready its X i) {it : Itm} (hit : its[i]? = some it) {σi : St} {νi : List D} (hA : At C.R env ops hat (its.take i) νf it σi νi)
    {S : Nat → Prop} {ω : Nat → Option Value} (h : Sim C (fold X 0 its hat) νf S ω a.tmps w) (hPl : Places its X ω) {δ : Delta} {rs : List D} (hd : it.δ = some δ) (hlow : it.kn.all (fun p => p.1.low σi.nv) = true) (hld : Leads C.R (ostep env it.o { σi with known := it.kn } .leaf) νi δ rs)
    (hlt : lowT σi.nv (ostep env it.o { σi with known := it.kn } .leaf) = true ∧ (isCallV it.o = true ∨ noCall (ostep env it.o { σi with known := it.kn } .leaf) = true)) (hfine : it.fine σi.objs = true) (hrd : it.rd = reads it.o { σi with known := it.kn }) (hfit : it.nb + resv it.o δ ≤ hat.objs.length)
    {μ : List D} (hμ : νf = νi ++ rs ++ μ) : it.o.wp C.P a w (Inv C its hat νf a.defers (fun j => X j || j == i)) Q := by
  have hmo := more_eq G.hfull G.hI G.hfit hX hr hit
  have hFl : (fold X 0 its hat).objs.length = hat.objs.length := fold_len its 0 G.hfit
  obtain ⟨_, hFk, _, _⟩ := fold_rest (X := X) its 0 hat
  rw [G.kn0] at hFk
  have hdead : ∀ p, it.nb ≤ p → p < it.nb + resv it.o δ → (fold X 0 its hat).objs[p]? = some .dead := fun p h1 h2 => G.dead hX hr hit hd h1 h2
  have hslot : ∀ t, t ∈ looksOf ops it.o → σi.slots[t]? = (fold X 0 its hat).slots[t]? := fun t ht => G.slot hX hr hit hA ht
  have hobj : ∀ p, p ∈ it.rd → σi.objs[p]? = (fold X 0 its hat).objs[p]? := fun p hp => by
    have hlt : p < σi.objs.length := by
      unfold Itm.fine at hfine
      rw [hd] at hfine
      simp only [Bool.and_eq_true, List.all_eq_true, decide_eq_true_eq] at hfine
      rw [← hA.nb]
      exact hfine.1.2 p hp
    rw [hA.objs p hlt, view_obj G.hfull G.hI G.hfit hX hr hit hp]
  have hnew : Closed its (fun j => X j || j == i) := hX.more hr
  have hapd : ap it (fold X 0 its hat) = { fold X 0 its hat with slots := setS (fold X 0 its hat).slots it.o.dst δ.dst, objs := place (upds (freeze (fold X 0 its hat).objs δ.fz) δ.upd) it.nb δ.new } := by
    unfold ap; rw [hd]
  generalize hF : fold X 0 its hat = F at *
  have hnbK : ∀ k, k ≤ resv it.o δ → ∀ kn vb, NbOK { F with known := kn, nb := it.nb, vb := vb } ω k := by
    intro k hk kn vb
    refine ⟨by simp only; omega, fun q hq => ⟨hPl i it δ hit hr.1 hd _ (by simp only; omega) (by simp only; omega), fun x hx => ?_⟩⟩
    simp only at hx
    rw [hdead (it.nb + q) (by omega) (by omega)] at hx
    cases hx; rfl
  have hag : Agree it.o { σi with known := it.kn } { F with known := it.kn, nb := it.nb, vb := it.vb } := {
    nb := by simp only; rw [hA.nb]; exact hA.text.1
    vb := by simp only; rw [hA.vb]; exact hA.text.2
    known := rfl
    slots := fun t ht => hslot t (by unfold looksOf; exact List.mem_append.2 (.inl ht))
    objs := fun p hp => hobj p (by rw [hrd]; exact hp) }
  -- what is left to show, once the state after it is known
  have fin : ∀ {a' : Act} {w' : World} {σ' : St} {S' : Nat → Prop} {ω' : Nat → Option Value}, a'.defers = a.defers → Sim C σ' νf S' ω' a'.tmps w' → σ'.slots = setS F.slots it.o.dst δ.dst → σ'.objs = place (upds (freeze F.objs δ.fz) δ.upd) it.nb δ.new → σ'.nv = F.nv →
      (∀ o, ω' o ≠ none → ω o ≠ none ∨ (it.nb ≤ o ∧ o < it.nb + δ.new.length)) → Inv C its hat νf a.defers (fun j => X j || j == i) a' w' := by
    intro a' w' σ' S' ω' h1 h2 h3 h4 h5 h6
    refine ⟨h1, hnew, S', ω', ?_, Places.more G hit hPl hd (Nat.le_max_left _ _) h6⟩
    rw [hmo, hapd]
    have h7 := (h2.learn (kn := []) (fun c b hc => by cases hc)).renb F.nb F.vb
    have he : ({ { σ' with known := [] } with nb := F.nb, vb := F.vb } : St) = { F with slots := setS F.slots it.o.dst δ.dst, objs := place (upds (freeze F.objs δ.fz) δ.upd) it.nb δ.new } := by
      cases σ'; cases F
      simp only at h3 h4 h5 hFk
      subst h3 h4 h5 hFk
      rfl
    rw [he] at h7
    exact h7
  cases hn : isCallV it.o with
  | false =>
    have hnc : noCall (ostep env it.o { σi with known := it.kn } .leaf) = true := by
      rcases hlt.2 with h | h
      · rw [hn] at h; cases h
      · exact h
    obtain ⟨hrs, hrun⟩ := hld.run (Lf := fun δ' ν' => δ' = δ ∧ ν' = νf) hlt.1 hnc hA.nv (rs ++ μ) [] ⟨rfl, by rw [hμ, List.append_assoc]⟩
    rw [← List.append_assoc, ← hμ, ostep_loc hag hn] at hrun
    have hkn : KnOK it.kn νf := by
      rw [hμ, List.append_assoc]
      exact hA.kn.low hlow hA.nv _
    have h1 : Sim { C with R := { C.R with Lf := fun δ' ν' => δ' = δ ∧ ν' = νf } } { F with known := it.kn, nb := it.nb, vb := it.vb } νf S ω a.tmps w := ((h.learn hkn).renb it.nb it.vb).reR _
    have key := ostep_nocall (C := { C with R := { C.R with Lf := fun δ' ν' => δ' = δ ∧ ν' = νf } }) (Q := Q) hti hT hE h1 (fun hm => hnbK 1 (by unfold resv; rw [if_pos hm]; exact Nat.le_max_right _ _) _ _) hn hrun
    refine Oper.wp_mono (fun a' w' hk => ?_) key
    obtain ⟨k1, δ', ν', S', ω', ⟨rfl, rfl⟩, k3, k4⟩ := hk
    have hdn : δ'.dn = 0 := by
      have e1 := k3.nv
      have e2 := h1.nv
      have e3 : ∀ d, ({ F with known := it.kn, nb := it.nb, vb := it.vb } : St).app d δ' = { ({ F with known := it.kn, nb := it.nb, vb := it.vb } : St).app none δ' with slots := setS F.slots d δ'.dst } := fun d => by cases d <;> rfl
      rw [e3] at e1
      have e4 : F.nv + δ'.dn = F.nv := e1.symm.trans e2
      omega
    refine fin k1 (k3.reR C.R) (by cases it.o.dst <;> rfl) (by cases it.o.dst <;> rfl) (by cases it.o.dst <;> (simp only [St.app]; omega)) k4
  | true =>
    have hn0 := hn
    unfold isCallV at hn
    split at hn
    · rename_i c ho
      split at hn
      · rename_i f hc
        unfold ostep at hld
        simp only [ho, hc] at hld
        split at hld
        · rename_i g cs hf
          obtain ⟨ix, s, th, rho, lent, h1, h2, h3, h4, h5, h6, h7, h8⟩ := stepCall_leads hld
          have hmem : ∀ x, x ∈ c.args.toList → x ∈ it.o.op.operands := fun x hx => by rw [ho]; simp only [Op.operands, Call.operands]; exact Array.mem_append.2 (by first | exact .inl (by simpa using hx) | exact .inr (by simpa using hx))
          have hmemf : f ∈ it.o.op.operands := by rw [ho]; simp [Op.operands, Call.operands, hc]
          have hargs : ∀ (l : List Operand) (ts : List TypeId), (∀ x, x ∈ l → x ∈ it.o.op.operands) → argSlots { σi with known := it.kn } l ts = argSlots { F with known := it.kn, nb := it.nb, vb := it.vb } l ts := by
            intro l
            induction l with
            | nil => intro ts _; rfl
            | cons x l ih =>
              intro ts hl
              simp only [argSlots, hag.look (hl x (by simp)), ih _ fun y hy => hl y (by simp [hy])]
          have hclosed : ∀ o, o ∈ it.rd → ∀ x, ({ σi with known := it.kn } : St).objs[o]? = some x → ∀ p, p ∈ x.nums → p ∈ it.rd := by
            intro o hor x hx p hp
            unfold Itm.fine at hfine
            rw [hd] at hfine
            simp only [Bool.and_eq_true, hn0, Bool.not_true, Bool.false_or] at hfine
            have := List.all_eq_true.1 hfine.2 o hor
            unfold numsAt at this
            simp only at hx
            rw [hx] at this
            simpa using List.all_eq_true.1 this p hp
          have hsub : ∀ p, p ∈ (operTmps it.o).flatMap (slotNums { σi with known := it.kn }) → p ∈ it.rd := by
            intro p hp
            rw [hrd]
            unfold reads
            simp only [hn0, if_true]
            exact close_sub _ _ _ hp
          have hnums : ∀ s, s ∈ argSlots { σi with known := it.kn } c.args.toList c.argTypes.toList ++ capSlots cs → ∀ p, p ∈ s.nums → p ∈ it.rd := by
            intro s hs p hp
            apply hsub
            rcases List.mem_append.1 hs with hs | hs
            · have key : ∀ (l : List Operand) (ts : List TypeId), (∀ x, x ∈ l → x ∈ it.o.op.operands) → s ∈ argSlots { σi with known := it.kn } l ts → p ∈ (operTmps it.o).flatMap (slotNums { σi with known := it.kn }) := by
                intro l
                induction l with
                | nil => intro ts _ hs; cases hs
                | cons x l ih =>
                  intro ts hl hs
                  rcases List.mem_cons.1 hs with rfl | hs
                  · exact look_nums (hl x (by simp)) p hp
                  · exact ih _ (fun y hy => hl y (by simp [hy])) hs
              exact key _ _ hmem hs
            · refine look1_nums (a := .fn g cs) hmemf hf p ?_
              unfold capSlots at hs
              obtain ⟨cp, hcp, rfl⟩ := List.mem_map.1 hs
              cases cp with
              | p o =>
                simp only [Slot.nums, SV.nums, SV.cells, List.flatMap_cons, List.flatMap_nil, List.append_nil, SV1.nums, List.mem_singleton] at hp
                subst hp
                simp only [SV1.nums, List.mem_filterMap]
                exact ⟨.p p, hcp, rfl⟩
              | r ks => simp [Slot.nums, SV.nums, SV.cells, SV1.nums] at hp
          have hfs := findSig_loc (T := fun p => p ∈ it.rd) (objs := ({ σi with known := it.kn } : St).objs) (objs' := F.objs) hobj hclosed (env := env) (g := g) (as := argSlots { σi with known := it.kn } c.args.toList c.argTypes.toList ++ capSlots cs) hnums env.sigs 0
          rw [hfs, hargs _ _ hmem] at h1
          obtain ⟨_, hs, hg, hm⟩ := findSig_spec h1
          simp only [Nat.sub_zero] at hs
          subst hg
          rw [hti] at hm h8
          have h9 := (h.learn (kn := []) (fun c b hc => by cases hc)).renb it.nb it.vb
          have hf' : look1 { { F with known := [] } with nb := it.nb, vb := it.vb } 0 f = some (.fn s.f cs) := by
            have := hag.look1 hmemf 0
            rw [hf] at this
            rw [this]
            rfl
          have hm' : mtch 0 C.ti s.inS s.inO s.nIn (argSlots { { F with known := [] } with nb := it.nb, vb := it.vb } c.args.toList c.argTypes.toList ++ capSlots cs) F.objs = some (th, rho, lent) := by
            have he := argSlots_slots (σ := { { F with known := [] } with nb := it.nb, vb := it.vb }) (σ' := { F with known := it.kn, nb := it.nb, vb := it.vb }) rfl c.args.toList c.argTypes.toList
            rw [he]
            exact hm
          obtain ⟨_, _, _, _, _, m5, _⟩ := mtch_sound h.objs hm
          have hnbi : σi.nb = it.nb := by rw [hA.nb]; exact hA.text.1
          have hvbi : σi.vb = it.vb := by rw [hA.vb]; exact hA.text.2
          have hnew' : δ.new.length = s.outO.length - s.inO.length := by rw [h8]; simp [callDelta]
          have hcd : callDelta C.ti s rho lent { { F with known := [] } with nb := it.nb, vb := it.vb } = δ := by
            rw [h8]
            simp only [callDelta, hnbi, hvbi]
          have key := call_core (Q := Q) h9 (hS ix s hs) ho hc hf' hm' (by
              have := hnbK (s.outO.length - s.inO.length) (by rw [← hnew']; exact Nat.le_max_left _ _) [] it.vb
              exact this) (fun o' ho' => by
            have hlt : o' < rho.length := by omega
            obtain ⟨a', g1, g2, g3⟩ := h2 _ (List.getElem_mem hlt)
            refine ⟨a', by rw [List.getElem?_eq_getElem hlt, g1], ?_, ?_⟩
            · simp only
              have : σi.objs.length ≤ hat.objs.length := by rw [← hA.nb]; omega
              simp only at g2
              omega
            · simp only at g3 ⊢
              omega) h4 h5.1 h5.2 (rs := rs) (μ := μ) h6 (by
            have he : th.map (E.den νf) = th.map (E.den νi) := List.map_congr_left fun x hx => by
              rw [hμ, List.append_assoc]
              exact E.low_den (List.all_eq_true.1 h3.2 x hx) hA.nv _
            rw [he]; exact h7) (fun j => by
            show νf.getD (it.vb + j) default = _
            rw [hμ, ← hvbi, hA.text.2, ← hA.nv, List.append_assoc, List.getD_eq_getElem?_getD, List.getElem?_append_right (by omega), Nat.add_sub_cancel_left, List.getD_eq_getElem?_getD])
          rw [hcd] at key
          refine Oper.wp_mono (fun a' w' hk => ?_) key
          obtain ⟨k1, S', ω', k2, k3⟩ := hk
          exact fin k1 k2 rfl rfl rfl (by rw [hnew']; exact k3)
        · cases hld
      · cases hn
    · cases hn
end
end Go.SX
