/-
Any order of a drawn region: the region whole.
-/
import Derived.Test.YtodlbeaidannaaaGreatSxAnyB
set_option linter.unusedVariables false
set_option linter.unusedSimpArgs false
set_option linter.unusedSectionVars false
namespace Go.SX
open Go.RowKit

theorem fold_congr {X Y : Nat → Bool} : ∀ (its : List Itm) (k : Nat) (σ : St), (∀ j, j < its.length → X (k + j) = Y (k + j)) → fold X k its σ = fold Y k its σ
  | [], k, σ, h => rfl
  | it :: r, k, σ, h => by
    unfold fold
    have h0 := h 0 (by simp)
    simp only [Nat.add_zero] at h0
    rw [h0]
    exact fold_congr r (k + 1) _ fun j hj => by
      have := h (j + 1) (by simp only [List.length_cons]; omega)
      rw [show k + (j + 1) = k + 1 + j by omega] at this
      exact this
section
variable {C : Cx} {env : Env} {ops : Array Oper} {its : List Itm} {full : List (Itm × List Nat)} {hat : St} {νf : List D} {ds : List Deferred} {Q : Exit → Act → World → Prop}
theorem Reg.opAt (G : Reg C env ops its full hat νf) {i : Nat} {it : Itm} (hit : its[i]? = some it) : ops[i]? = some it.o := by
  have := congrArg (fun l => l[i]?) G.hops
  simp only [List.getElem?_map, hit, Option.map_some, Array.getElem?_toList] at this
  exact this.symm
theorem Reg.step (G : Reg C env ops its full hat νf) (hti : env.ti = C.ti) (hT : TyOK C.P C.ti) (hE : ∀ t, t ∈ env.eqt → EqTy C.P C.ti t) (hS : SigsOK C.P C.ti env.sigs C.R.R) {X : Nat → Bool} {a : Act} {w : World} (hI : Inv C its hat νf ds X a w) {i : Nat} (hr : Ready its X i) (hi : i < its.length) :
    wpOp C.P ops Q i (Inv C its hat νf ds (fun j => X j || j == i)) a w := by
  obtain ⟨hd, hX, S, ω, h, hPl⟩ := hI
  have hit : its[i]? = some its[i] := List.getElem?_eq_getElem hi
  generalize its[i] = it at hit
  obtain ⟨σi, νi, hA⟩ := G.at_ i it hit
  unfold wpOp
  rw [G.opAt hit]
  simp only
  rcases hA.go with ⟨hdn, hrd, hg, hμ⟩ | ⟨δ, rs, hdl, hg, hlow, hld, hlt, hfine, hrd, hfit, μ, hμ⟩
  · rw [G.guard hX hr hit hA h hg hμ]
    simp only [Bool.false_eq_true, if_false]
    refine ⟨by rw [put_defers]; exact hd, hX.more hr, S, ω, ?_, ?_⟩
    · rw [more_eq G.hfull G.hI G.hfit hX hr hit]
      unfold ap
      rw [hdn, put_tmps]
      exact h.slot it.o.dst (v := undef) (s := .un) rfl
    · intro j b δ hb hXj
      simp only [Bool.or_eq_false_iff] at hXj
      exact hPl j b δ hb hXj.1
  · rw [G.guard hX hr hit hA h hg ⟨rs ++ μ, by rw [hμ, List.append_assoc]⟩]
    simp only [if_true]
    rw [← hd]
    exact .inl (G.go hti hT hE hS hX hr hit hA h hPl hdl hlow hld hlt hfine hrd hfit hμ)
theorem Reg.bindsLt (G : Reg C env ops its full hat νf) {i : Nat} {it : Itm} (hit : its[i]? = some it) : ∀ d, d ∈ bindPreds it.o → d < i := by
  have hf := G.hfull
  rw [← hf, List.getElem?_map] at hit
  obtain ⟨x, hx, rfl⟩ := Option.map_eq_some_iff.1 hit
  exact (G.hI i x hx).1
theorem bind_mem {o : Oper} {d : Nat} : d ∈ bindPreds o ↔ ∃ e, e ∈ o.after.toList ∧ Region.binds .any e = true ∧ e.on = d := by
  unfold bindPreds
  rw [List.mem_filterMap]
  constructor
  · rintro ⟨e, he, hc⟩
    split at hc
    · cases hc; exact ⟨e, he, by assumption, rfl⟩
    · cases hc
  · rintro ⟨e, he, hb, rfl⟩
    exact ⟨e, he, by rw [if_pos hb]⟩
theorem Reg.ready_iff (G : Reg C env ops its full hat νf) {listed : Array Bool} (hsz : listed.size = ops.size) {i : Nat} : i ∈ Region.ready .any ops listed ↔ i < its.length ∧ Ready its (fun j => listed.getD j false) i := by
  have hlen : its.length = ops.size := by
    have := congrArg List.length G.hops
    simpa using this
  unfold Region.ready
  simp only [List.mem_filter, List.mem_range, Bool.and_eq_true, Bool.not_eq_true']
  constructor
  · rintro ⟨h1, h2, h3⟩
    have hi : i < its.length := by omega
    refine ⟨hi, ?_, fun it hit d hd => ?_⟩
    · have hl : i < listed.size := by omega
      simp only [Array.getD_eq_getD_getElem?, Array.getElem?_eq_getElem hl, Option.getD_some] at h2 ⊢
      exact h2
    · rw [G.opAt hit] at h3
      simp only [Option.map_some, Option.getD_some, Array.all_eq_true'] at h3
      obtain ⟨e, he, hb, rfl⟩ := bind_mem.1 hd
      have := h3 e (by simpa using he)
      simpa [hb] using this
  · rintro ⟨h1, h2, h3⟩
    refine ⟨by omega, ?_, ?_⟩
    · have hl : i < listed.size := by omega
      simp only [Array.getD_eq_getD_getElem?, Array.getElem?_eq_getElem hl, Option.getD_some] at h2 ⊢
      exact h2
    · have hit : its[i]? = some its[i] := List.getElem?_eq_getElem h1
      rw [G.opAt hit]
      simp only [Option.map_some, Option.getD_some, Array.all_eq_true']
      intro e he
      by_cases hb : Region.binds .any e = true
      · have := h3 _ hit e.on (bind_mem.2 ⟨e, by simpa using he, hb, rfl⟩)
        simp only at this
        rw [this]; simp
      · simp [hb]
theorem Reg.all_listed (G : Reg C env ops its full hat νf) {listed : Array Bool} (hsz : listed.size = ops.size) (he : Region.ready .any ops listed = []) : ∀ j, j < its.length → listed.getD j false = true := by
  intro j
  induction j using Nat.strongRecOn with
  | _ j ih =>
    intro hj
    cases hb : listed.getD j false with
    | true => rfl
    | false =>
      have : j ∈ Region.ready .any ops listed := (G.ready_iff hsz).2 ⟨hj, hb, fun it hit d hd => by
        have hlt := G.bindsLt hit d hd
        exact ih d hlt (by omega)⟩
      rw [he] at this
      cases this
theorem getD_set (listed : Array Bool) (i : Nat) (hi : i < listed.size) : (fun j => (listed.setIfInBounds i true).getD j false) = fun j => listed.getD j false || j == i := by
  funext j
  simp only [Array.getD_eq_getD_getElem?, Array.getElem?_setIfInBounds]
  by_cases h : i = j
  · subst h
    simp [hi]
  · have : (j == i) = false := by simpa using fun e => h e.symm
    simp [h, this]
theorem Reg.any (G : Reg C env ops its full hat νf) (hti : env.ti = C.ti) (hT : TyOK C.P C.ti) (hE : ∀ t, t ∈ env.eqt → EqTy C.P C.ti t) (hS : SigsOK C.P C.ti env.sigs C.R.R)
    (hQ : ∀ X a w, (∀ j, j < its.length → X j = true) → Inv C its hat νf ds X a w → Q .normal a w) : ∀ (fuel : Nat) (listed : Array Bool) (a : Act) (w : World), listed.size = ops.size → ((List.range ops.size).filter fun j => !listed.getD j false).length ≤ fuel →
      Inv C its hat νf ds (fun j => listed.getD j false) a w → wpAny C.P .any ops Q fuel listed a w := by
  have hlen : its.length = ops.size := by
    have := congrArg List.length G.hops
    simpa using this
  intro fuel
  induction fuel with
  | zero =>
    intro listed a w hsz hf hI
    have hnil := List.length_eq_zero_iff.1 (Nat.le_zero.1 hf)
    have hall : ∀ j, j < its.length → listed.getD j false = true := by
      intro j hj
      rw [List.filter_eq_nil_iff] at hnil
      have := hnil j (by simp; omega)
      simpa using this
    refine ⟨?_, hQ _ a w hall hI⟩
    rw [List.eq_nil_iff_forall_not_mem]
    intro i hi
    obtain ⟨h1, h2, _⟩ := (G.ready_iff hsz).1 hi
    have := hall i h1
    simp only at h2
    rw [h2] at this
    cases this
  | succ fuel ih =>
    intro listed a w hsz hf hI
    refine ⟨fun he => hQ _ a w (G.all_listed hsz he) hI, fun i hi => ?_⟩
    obtain ⟨h1, h2⟩ := (G.ready_iff hsz).1 hi
    refine wpOp_mono (fun a' w' hI' => ?_) (G.step (Q := Q) hti hT hE hS hI h2 h1)
    have hX := getD_set listed i (by omega)
    refine ih _ a' w' (by simpa using hsz) ?_ (by rw [hX]; exact hI')
    have hsub : ((List.range ops.size).filter fun j => !(listed.setIfInBounds i true).getD j false) = (((List.range ops.size).filter fun j => !listed.getD j false).filter fun j => j != i) := by
      rw [List.filter_filter]
      congr 1
      funext j
      have : (listed.setIfInBounds i true).getD j false = (listed.getD j false || j == i) := congrFun hX j
      rw [this]
      cases listed.getD j false <;> cases hji : (j == i) <;> simp [hji, bne]
    have hm : i ∈ (List.range ops.size).filter fun j => !listed.getD j false := by
      rw [List.mem_filter]
      exact ⟨by simp; omega, by have := h2.1; simp only at this; rw [this]; rfl⟩
    have hlt : (((List.range ops.size).filter fun j => !listed.getD j false).filter fun j => j != i).length < ((List.range ops.size).filter fun j => !listed.getD j false).length :=
      List.length_filter_lt_length_iff_exists.2 ⟨i, hm, by simp⟩
    rw [hsub]
    omega
end

theorem drawOK (env : Env) : DrawOK env := by
  intro C σ ν S ω w r a Q K id ops hti hT hE hS hmx ht h hr hQ
  unfold sxDraw at hr
  split at hr
  · rename_i hlow
    obtain ⟨its, σf, νf, htr, hrun⟩ := drOps_tr ops.toList (acc := []) h.known h.nv hr
    simp only [List.nil_append] at hrun
    split at hrun
    · rename_i hap
      obtain ⟨full, hfull, hI⟩ := apartAll_spec (ops := ops) its 0 [] hap rfl (fun j x hx => by simp at hx)
      simp only [List.map_nil, List.nil_append] at hfull
      obtain ⟨hft, hfn, hfk⟩ := htr.rest ht h.nv h.known
      obtain ⟨hm1, hm2⟩ := htr.mono ht
      have hle := htr.len ht
      obtain ⟨μ, hμ⟩ := htr.pref
      let hat : St := { slots := σ.slots, objs := σ.objs ++ List.replicate (σf.objs.length - σ.objs.length) .dead, nv := σ.nv + μ.length, known := [], nb := σ.nb, vb := σ.vb }
      have hhl : hat.objs.length = σf.objs.length := by simp only [hat, List.length_append, List.length_replicate]; omega
      obtain ⟨hat1, hat2, hat3⟩ := tr_at (hat := hat) htr [] ht h.nv hhl rfl (fun t => rfl) (fun p hp => by simp only [foldAll, hat]; rw [List.getElem?_append_left hp]) (fun p h1 h2 => by
        rw [hhl] at h2
        simp only [foldAll, hat]
        rw [List.getElem?_append_right h1, List.getElem?_replicate, if_pos (by omega)])
      simp only [List.nil_append] at hat1 hat2 hat3
      have hfit : ∀ it, it ∈ its → it.fits hat.objs.length := by
        intro it hmem δ hd
        obtain ⟨j, hj⟩ := List.mem_iff_getElem?.1 hmem
        obtain ⟨σi, νi, hA⟩ := hat1 j it hj
        rcases hA.go with ⟨h, _⟩ | ⟨δ', rs, h, _, _, _, _, _, _, h8, _⟩
        · rw [hd] at h; cases h
        · rw [hd] at h; cases h
          have : δ.new.length ≤ resv it.o δ := Nat.le_max_left _ _
          omega
      have G : Reg C env ops its full hat νf := { hfull, hI, hfit, hops := htr.ops, at_ := hat1, mono := hm2, kn0 := rfl }
      have hsim : Sim C hat νf S ω a.tmps w := by
        have h1 := (h.more hlow μ μ.length rfl).pad (σf.objs.length - σ.objs.length)
        rw [← hμ] at h1
        exact (h1.learn (kn := []) (fun c b hc => by cases hc))
      have hlen : its.length = ops.size := by
        have := congrArg List.length G.hops
        simpa using this
      refine wp_region_any hmx (G.any hti hT hE hS (ds := a.defers) (fun X a' w' hX hIn => ?_) ops.size (Array.replicate ops.size false) a _ (by simp) (by
        refine Nat.le_trans (List.length_filter_le _ _) ?_
        simp) ?_)
      · obtain ⟨i1, i2, S', ω', i3, i4⟩ := hIn
        have hF : fold X 0 its hat = foldAll its hat := by
          have e1 := foldAll_take hfull hI hfit its.length (Nat.le_refl _)
          rw [List.take_length] at e1
          rw [e1]
          refine fold_congr its 0 hat fun j hj => ?_
          simp only [Nat.zero_add]
          rw [hX j hj]
          simp [hj]
        rw [hF] at i3
        obtain ⟨f1, f2, f3, f4⟩ := fold_rest (X := X) its 0 hat
        rw [hF] at f1 f2 f3 f4
        have hob : (foldAll its hat).objs = σf.objs := by
          have hl : (foldAll its hat).objs.length = σf.objs.length := by
            rw [← hF, fold_len its 0 hfit, hhl]
          apply List.ext_getElem?
          intro p
          by_cases hp : p < σf.objs.length
          · exact (hat3 p hp).symm
          · rw [List.getElem?_eq_none (by omega), List.getElem?_eq_none (by omega)]
        have hsl : (foldAll its hat).slots = σf.slots := List.ext_getElem? fun t => (hat2 t).symm
        have hnv : (foldAll its hat).nv = σf.nv := by
          rw [f1, ← hfn, hμ, List.length_append, h.nv]
        have h5 := (i3.learn hfk).renb σf.nb σf.vb
        have he : ({ { foldAll its hat with known := σf.known } with nb := σf.nb, vb := σf.vb } : St) = σf := by
          cases hσ : σf
          rw [hσ] at hob hsl hnv
          simp only at hob hsl hnv
          simp only [hob, hsl, hnv]
        rw [he] at h5
        exact hQ σf νf S' ω' a' w' hft i1 h5 hrun
      · have hX0 : (fun j => (Array.replicate ops.size false).getD j false) = fun _ => false := by
          funext j
          simp only [Array.getD_eq_getD_getElem?, Array.getElem?_replicate]
          split <;> rfl
        rw [hX0]
        refine ⟨rfl, fun j it hj hX => (by cases hX), S, ω, ?_, fun j b δ hb _ hd p h1 h2 => ?_⟩
        · rw [fold_none its 0 fun _ _ => rfl]
          exact hsim.grow { os := rfl, tape := rfl, output := rfl, size := Nat.le_refl _, block := fun _ _ _ => rfl }
        · cases hp : ω p with
          | none => rfl
          | some v =>
            have := h.dom p v hp
            have := hm1 j b hb
            omega
    · exact hrun.elim
  · exact hr.elim
end Go.SX
