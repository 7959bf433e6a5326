/-
Stores; structs and slices that are built.
-/
import Derived.Test.YtodlbeaidannaaaGreatSxMemC
import Derived.Great.BuildSlice
set_option linter.unusedVariables false
set_option linter.unusedSimpArgs false
set_option linter.unusedSectionVars false
namespace Go.SX
open Go.RowKit
section
variable {C : Cx} {σ : St} {ν : List D} {S : Nat → Prop} {ω : Nat → Option Value} {w : World} {r : List D} {a : Act} {o : Oper} {Q : Exit → Act → World → Prop} {K' : Delta → T}

theorem Fr.mono {w w' : World} {F G : Nat → Prop} (h : Fr w F w') (hFG : ∀ b, F b → G b) : Fr w G w' := ⟨h.os, h.tape, h.output, h.size, fun k hk hG => h.block k hk fun hF => hG (hFG k hF)⟩
theorem store_exec {t : TypeId} {x y : Operand} (ho : o.op = .store t x y) {w' : World} (h : (Instr.storeAt t (a.eval x) (a.eval y)).run C.P w = .ok () w') : (execOp a.eval o).run C.P w = .ok .skip w' := by
  unfold execOp
  simp [ho, h]
theorem splice_get {α : Type} (l new : List α) (p q : Nat) (h : p + new.length ≤ l.length) : (l.take p ++ new ++ l.drop (p + new.length))[q]? = if q < p then l[q]? else if q < p + new.length then new[q - p]? else l[q]? := by
  have hp : (l.take p).length = p := by rw [List.length_take]; omega
  by_cases h1 : q < p
  · rw [if_pos h1, List.append_assoc, List.getElem?_append_left (by omega), List.getElem?_take, if_pos h1]
  · rw [if_neg h1]
    by_cases h2 : q < p + new.length
    · rw [if_pos h2, List.append_assoc, List.getElem?_append_right (by omega), hp, List.getElem?_append_left (by omega)]
    · rw [if_neg h2, List.getElem?_append_right (by rw [List.length_append, hp]; omega), List.length_append, hp, List.getElem?_drop]
      congr 1
      omega
theorem all2_splice {α β : Type} {R : α → β → Prop} {l : List α} {m : List β} {l' : List α} {m' : List β} (h : All2 R l m) (h' : All2 R l' m') (p q : Nat) : All2 R (l.take p ++ l' ++ l.drop q) (m.take p ++ m' ++ m.drop q) :=
  ((h.take p).app h').app (h.drop q)

/-- What one element's cells are once some of them are written. -/
theorem setCell_sound {agg : Bool} {lv : List K} {x i : E} {off : Nat} {ys : List E} {y : E} (h : setCell agg lv x i off ys = some y) (h1 : agg = false → lv.length = 1) (ν : List D) {ds : List D} (hx : x.den ν = .list ds) :
    ∃ d, y.den ν = .list (ds.set (i.den ν).toInt.toNat d) ∧ off + ys.length ≤ lv.length ∧ ∀ c, c < lv.length → cellD agg c d = if c < off then cellD agg c (ds.getD (i.den ν).toInt.toNat default) else if c < off + ys.length then (ys.getD (c - off) .nil).den ν else cellD agg c (ds.getD (i.den ν).toInt.toNat default) := by
  unfold setCell at h
  split at h
  · rename_i hag
    split at h
    · rename_i hle
      cases h
      refine ⟨_, by simp [E.den, O3.den, hx, D.toList]; rfl, hle, fun c hc => ?_⟩
      subst hag
      have key : ∀ (l : List E) (c : Nat), ((aggE l).den ν).cells.getD c default = (l.map (E.den ν)).getD c default := by
        intro l
        induction l with
        | nil => intro c; rfl
        | cons z l ih =>
          intro c
          cases c with
          | zero => rfl
          | succ c => simpa [aggE, E.den, O2.den, D.cells] using ih c
      simp only [cellD, if_true]
      rw [key, List.getD_eq_getElem?_getD, List.getElem?_map, List.getElem?_map, List.getElem?_zipIdx]
      simp only [List.getElem?_eq_getElem hc, Option.map_some, Option.getD_some]
      have e0 : (E.den ν (E.o1 (O1.cell (0 + c)) (E.o2 .idx x i))) = (ds.getD (i.den ν).toInt.toNat default).cells.getD c default := by
        simp [E.den, O1.den, O2.den, hx, D.toList]
      rw [Nat.zero_add] at e0 ⊢
      by_cases h2 : c < off
      · rw [if_pos h2, if_pos h2]
        exact e0
      · rw [if_neg h2, if_neg h2]
        by_cases h3 : c < off + ys.length
        · rw [if_pos h3, if_pos h3]
          simp
        · rw [if_neg h3, if_neg h3]
          exact e0
    · cases h
  · rename_i hag
    split at h
    · rename_i y'
      cases h
      have hag' : agg = false := by simpa using hag
      have hl := h1 hag'
      refine ⟨y'.den ν, by simp [E.den, O3.den, hx, D.toList], by simp [hl], fun c hc => ?_⟩
      have : c = 0 := by omega
      subst this
      simp [cellD, hag']
    · cases h
theorem stepStore_sound (hT : TyOK C.P C.ti) (h : Sim C σ ν S ω a.tmps w) {t : TypeId} {x y : Operand} {s : SV1} {sv : SV} (ho : o.op = .store t x y) (hx : SR C.ti w S ω ν s (a.eval x)) (hy : SVR C.ti w S ω ν sv (a.eval y))
    (hr : (stepStore C.ti t s sv σ K').Run C.R ν r) : o.wp C.P a w (Post C σ ω o.dst K' r a.defers) Q := by
  unfold stepStore at hr
  split at hr
  · rename_i hb
    obtain ⟨hb, hlen⟩ := hb
    have hvc := hy.cells
    have hvl := hvc.length
    split at hr
    · rename_i ob off
      split at hr
      · rename_i cs hob
        split at hr
        · rename_i hfit
          obtain ⟨b, hω, hv⟩ := hx
          obtain ⟨b', t', vs, hω', hh, hcs⟩ := h.objs ob _ hob
          rw [hω] at hω'
          cases hω'
          have hcl := hcs.length
          have hst := store_cells hT hb hlen hy hh (by rw [← Array.length_toList, ← hcl]; exact hfit) (off := off)
          have hnS : ∀ b', S b' → b' ≠ b := fun b' hb' he => (h.own ob _ b hob rfl (by rw [hω]; rfl)).1 (he ▸ hb')
          have hstab : ∀ b', S b' → (w.setRow b (vs.toList.take off ++ (a.eval y).cells.toList ++ vs.toList.drop (off + (a.eval y).cells.toList.length)).toArray).heap[b']? = w.heap[b']? := fun b' hb' => setRow_other w b b' _ (hnS b' hb')
          refine post_skip (store_exec ho (by rw [hv]; exact hst)) hr ?_ (NewAt.refl _ _ _) rfl (S' := S) (ω' := ω)
          refine Sim.app_of (objs := σ.objs.set ob (.box (cs.take off ++ sv.cells ++ cs.drop (off + sv.cells.length)))) ?_ (by simp [St.objsOf, freeze_nil, upds, place_nil]) rfl
          refine h.setObj hob rfl hω ((Fr_setRow w b _).mono fun b' hb' => by simp [blk, hb']) ⟨b, t', _, hω, heap_setRow_same w b vs _ t' hh, ?_⟩
          simp only [List.toList_toArray]
          rw [hvl]
          exact (all2_splice hcs hvc off _).imp fun _ _ k => k.mono hstab (fun _ h => h) fun _ _ h => h
        · exact hr.elim
      · exact hr.elim
    · rename_i ob sz i off
      split at hr
      · rename_i ts z ks l hob hks
        split at hr
        · rename_i e agg lv hti
          split at hr
          · exact hr.elim
          · rename_i hcon
            have hnl : ob ∉ l := fun hin => hcon (.inl (by simpa using hin))
            have hsz : sz = lv.length := Decidable.byContradiction fun hne => hcon (.inr hne)
            subst hsz
            split at hr
            · rename_i hkk
              split at hr
              · rename_i y' hset
                obtain ⟨hd, hlive⟩ := datasOf_sound h.objs hks hvc
                obtain ⟨g, n, cap, hω, hv, h0, hi⟩ := hx
                obtain ⟨v, e', agg', lv', ds, vs, hω', hti', hden, hown, hrc⟩ := h.objs ob _ hob
                rw [hω] at hω'
                cases hω'
                rw [hti] at hti'
                cases hti'
                obtain ⟨hu, he, j, zz, hj, hjs, hlv, hby, hz, hzz, hone⟩ := sl_row hT hti
                obtain ⟨d, hyd, hol, hcell⟩ := setCell_sound hset hone ν hden
                have hf := h.freeze l hlive
                have hobf : (freeze σ.objs l)[ob]? = some (.row ts z) := by
                  rw [freeze_get, hob]; simp [hnl]
                obtain ⟨cur, hn, hh, hcap, hmx, hcs, htk⟩ : ∃ cur, n = ds.length ∧ w.heap[g]? = some (.cells cur e (0, 0)) ∧ ds.length ≤ cap ∧ cap ≤ maxLen ∧ cur.size = cap * lv.length ∧ cur.toList.take (ds.length * lv.length) = vs := by
                  rcases hown.2 with ⟨hv', hn⟩ | ⟨g', cap', cur, hv', _, hg, hca, hmx, hcs, htk⟩
                  · cases hv'
                  · simp only [Value.slice.injEq, Option.some.injEq, Addr.mk.injEq] at hv'
                    obtain ⟨⟨rfl, _, _⟩, rfl, rfl⟩ := hv'
                    exact ⟨cur, rfl, hg, hca, hmx, hcs, htk⟩
                subst hn
                have hi' : (i.den ν).toInt.toNat < ds.length := by omega
                have hkl : ks.length = sv.cells.length := by rw [hvl]; exact hd.length
                have hksl : off + ks.length ≤ lv.length := by simpa using hol
                have hpos : (i.den ν).toInt.toNat * lv.length + lv.length ≤ ds.length * lv.length := by
                  calc (i.den ν).toInt.toNat * lv.length + lv.length = ((i.den ν).toInt.toNat + 1) * lv.length := by rw [Nat.add_mul]; simp
                    _ ≤ _ := Nat.mul_le_mul_right _ hi'
                have hcapl : ds.length * lv.length ≤ cap * lv.length := Nat.mul_le_mul_right _ hcap
                have hst := store_cells hT hb hlen hy hh (off := (i.den ν).toInt.toNat * lv.length + off) (by omega)
                generalize hcur' : (cur.toList.take ((i.den ν).toInt.toNat * lv.length + off) ++ (a.eval y).cells.toList ++ cur.toList.drop ((i.den ν).toInt.toNat * lv.length + off + (a.eval y).cells.toList.length)).toArray = cur' at hst
                have hcl : (a.eval y).cells.toList.length = ks.length := by rw [hkl, hvl]
                have hget : ∀ q, cur'.toList[q]? = if q < (i.den ν).toInt.toNat * lv.length + off then cur.toList[q]? else if q < (i.den ν).toInt.toNat * lv.length + off + ks.length then (a.eval y).cells.toList[q - ((i.den ν).toInt.toNat * lv.length + off)]? else cur.toList[q]? := by
                  intro q
                  rw [← hcur', List.toList_toArray, splice_get _ _ _ _ (by rw [Array.length_toList (xs := cur)]; omega), hcl]
                have hsz' : cur'.size = cur.size := by
                  rw [← hcur']
                  simp only [List.size_toArray, List.length_append, List.length_take, List.length_drop, hcl, Array.length_toList (xs := cur)]
                  omega
                have hblk : blk (Value.slice (some ⟨g, 0, none⟩) ds.length cap) = some g := rfl
                have hnS : ∀ b', SL S ω l b' → b' ≠ g := fun b' hb' he => (hf.own ob _ g hobf rfl (by rw [hω]; rfl)).1 (he ▸ hb')
                have hstab : ∀ b', SL S ω l b' → (w.setRow g cur').heap[b']? = w.heap[b']? := fun b' hb' => setRow_other w g b' _ (hnS b' hb')
                refine post_skip (store_exec ho (by rw [hv]; exact hst)) hr ?_ (NewAt.refl _ _ _) rfl (S' := SL S ω l) (ω' := ω)
                refine Sim.app_of (objs := (freeze σ.objs l).set ob (.row ts y')) ?_ (by simp [St.objsOf, upds, place_nil]) rfl
                refine hf.setObj hobf rfl hω ((Fr_setRow w g _).mono fun b' hb' => by simp [blk, hb']) ⟨_, e, agg, lv, ds.set (i.den ν).toInt.toNat d, cur'.toList.take (ds.length * lv.length), hω, hti, hyd, ?_, ?_⟩
                · rw [List.length_set]
                  refine ⟨by rw [List.length_take, Array.length_toList (xs := cur')]; omega, .inr ⟨g, cap, cur', rfl, Nat.zero_le _, heap_setRow_same w g cur cur' e hh, hcap, hmx, by rw [hsz', hcs], rfl⟩⟩
                · intro j' c k hj' hk
                  rw [List.length_set] at hj'
                  have hc' : c < lv.length := (List.getElem?_eq_some_iff.1 hk).1
                  have hq : j' * lv.length + c < ds.length * lv.length := by
                    calc j' * lv.length + c < j' * lv.length + lv.length := by omega
                      _ = (j' + 1) * lv.length := by rw [Nat.add_mul]; simp
                      _ ≤ _ := Nat.mul_le_mul_right _ hj'
                  have hold := (hrc j' c k hj' hk).mono (w' := w.setRow g cur') (S' := SL S ω l) (fun b' hb' => hstab b' (.inl hb')) (fun _ h => .inl h)
                  have hvs : vs.getD (j' * lv.length + c) undef = (cur.toList[j' * lv.length + c]?).getD undef := by
                    rw [← htk, List.getD_eq_getElem?_getD, List.getElem?_take, if_pos hq]
                  have hnew : (cur'.toList.take (ds.length * lv.length)).getD (j' * lv.length + c) undef = (cur'.toList[j' * lv.length + c]?).getD undef := by
                    rw [List.getD_eq_getElem?_getD, List.getElem?_take, if_pos hq]
                  rw [hnew, hget]
                  by_cases hji : j' = (i.den ν).toInt.toNat
                  · subst hji
                    have hgd : (ds.set (i.den ν).toInt.toNat d).getD (i.den ν).toInt.toNat default = d := by
                      rw [List.getD_eq_getElem?_getD, List.getElem?_set_self hi']; rfl
                    rw [hgd, hcell c hc']
                    by_cases h1 : c < off
                    · have hA : (i.den ν).toInt.toNat * lv.length + c < (i.den ν).toInt.toNat * lv.length + off := by omega
                      rw [if_pos h1, if_pos hA]
                      rw [hvs] at hold
                      exact hold
                    · have hA : ¬ (i.den ν).toInt.toNat * lv.length + c < (i.den ν).toInt.toNat * lv.length + off := by omega
                      rw [if_neg h1, if_neg hA]
                      by_cases h2 : c < off + ks.length
                      · have h2' : c < off + (ks.map (·.2)).length := by simpa using h2
                        have hB : (i.den ν).toInt.toNat * lv.length + c < (i.den ν).toInt.toNat * lv.length + off + ks.length := by omega
                        rw [if_pos h2', if_pos hB]
                        have hcc : c - off < ks.length := by omega
                        obtain ⟨u, hu1, hu2⟩ := hd.get (List.getElem?_eq_getElem hcc)
                        have e1 : (i.den ν).toInt.toNat * lv.length + c - ((i.den ν).toInt.toNat * lv.length + off) = c - off := by omega
                        rw [e1, hu1]
                        have e2 : (ks[c - off]).1 = k := by
                          have h3 := congrArg (fun l => l[c - off]?) hkk
                          simp only [List.getElem?_take, List.getElem?_drop, List.getElem?_map, if_pos hcc, List.getElem?_eq_getElem hcc, Option.map_some] at h3
                          rw [show off + (c - off) = c by omega, hk] at h3
                          exact (Option.some.inj h3).symm
                        have e3 : (List.map (fun x => x.2) ks).getD (c - off) .nil = (ks[c - off]).2 := by
                          rw [List.getD_eq_getElem?_getD, List.getElem?_map, List.getElem?_eq_getElem hcc]; rfl
                        rw [e3, ← e2]
                        exact hu2.mono hstab fun _ h => h
                      · have h2' : ¬ c < off + (ks.map (·.2)).length := by simpa using h2
                        have hB : ¬ (i.den ν).toInt.toNat * lv.length + c < (i.den ν).toInt.toNat * lv.length + off + ks.length := by omega
                        rw [if_neg h2', if_neg hB]
                        rw [hvs] at hold
                        exact hold
                  · have hgd : (ds.set (i.den ν).toInt.toNat d).getD j' default = ds.getD j' default := by
                      rw [List.getD_eq_getElem?_getD, List.getD_eq_getElem?_getD, List.getElem?_set_ne (Ne.symm hji)]
                    rw [hgd]
                    rw [hvs] at hold
                    rcases Nat.lt_or_ge j' (i.den ν).toInt.toNat with hlt | hge
                    · have : (j' + 1) * lv.length ≤ (i.den ν).toInt.toNat * lv.length := Nat.mul_le_mul_right _ hlt
                      rw [Nat.add_mul] at this
                      rw [if_pos (by omega)]
                      exact hold
                    · have : ((i.den ν).toInt.toNat + 1) * lv.length ≤ j' * lv.length := Nat.mul_le_mul_right _ (by omega)
                      rw [Nat.add_mul] at this
                      rw [if_neg (by omega), if_neg (by omega)]
                      exact hold
              · exact hr.elim
            · exact hr.elim
        · exact hr.elim
      · exact hr.elim
    · exact hr.elim
  · exact hr.elim

/-! ### Structs and arrays that are built -/
theorem lookParts_sound (h : Sim C σ ν S ω a.tmps w) {ty : TypeId} : ∀ {l : List (Nat × Operand)} {ps : List (Nat × SV)}, lookParts σ ty l = some ps → All2 (fun p q => p.1 = q.1 ∧ SVR C.ti w S ω ν p.2 q.2) ps (l.map fun p => (p.1, a.eval p.2))
  | [], ps, hl => by simp [lookParts] at hl; subst hl; exact .nil
  | (i, x) :: r, ps, hl => by
    simp only [lookParts] at hl
    split at hl
    · rename_i v l' h1 h2
      cases hl
      exact .cons ⟨rfl, lookSV_sound h h1⟩ (lookParts_sound h h2)
    · cases hl
theorem fill_one {place : Nat → Option (Nat × Nat)} {i off size : Nat} (hp : place i = some (off, size)) {v : Value} {cells : Array Value} (h1 : v.cells.size = size) (h2 : off + size ≤ cells.size) (rest : List (Nat × Value)) :
    Instr.fill place cells ((i, v) :: rest) = Instr.fill place (cells.toList.take off ++ v.cells.toList ++ cells.toList.drop (off + size)).toArray rest := by
  rw [Instr.fill, hp]
  simp only
  rw [if_neg (by simp; omega)]
  congr 1
  apply Array.toList_inj.1
  apply List.ext_getElem?
  intro k
  obtain ⟨g1, g2⟩ := Great.foldl_set off v.cells.toList 0 cells
  have e : (Array.foldl (fun cs (x : Value × Nat) => cs.setIfInBounds (off + x.2) x.1) cells v.cells.zipIdx) = (v.cells.toList.zipIdx 0).foldl (fun cs (x : Value × Nat) => cs.setIfInBounds (off + x.2) x.1) cells := by
    rw [← Array.foldl_toList, Array.toList_zipIdx]
  rw [List.toList_toArray, ← h1, ← Array.length_toList (xs := v.cells), splice_get _ _ _ _ (by rw [Array.length_toList (xs := cells), Array.length_toList (xs := v.cells)]; omega), Array.getElem?_toList]
  have e2 : (Array.foldl (fun cs x => cs.setIfInBounds (off + x.snd) x.fst) cells v.cells.zipIdx) = (v.cells.toList.zipIdx 0).foldl (fun cs (x : Value × Nat) => cs.setIfInBounds (off + x.2) x.1) cells := e
  rw [e2, g2 k]
  simp only [Nat.add_zero, Array.getElem?_toList]
  by_cases h3 : k < off
  · rw [if_neg (by omega), if_pos h3]
  · rw [if_neg h3]
    by_cases h4 : k < off + v.cells.toList.length
    · rw [if_pos ⟨by omega, h4, by rw [Array.length_toList (xs := v.cells)] at h4; omega⟩, if_pos h4]
    · rw [if_neg (by omega), if_neg h4]
theorem fill_sound {place : Nat → Option (Nat × Nat)} {fs : List (Nat × Nat × Bool)} (hp : ∀ (i off sz : Nat) (ag : Bool), fs[i]? = some (off, sz, ag) → place i = some (off, sz)) {n : Nat} (hn : ∀ (i off sz : Nat) (ag : Bool), fs[i]? = some (off, sz, ag) → off + sz ≤ n) :
    ∀ {ps : List (Nat × SV)} {qs : List (Nat × Value)} {cs out : List SV1} {vs : Array Value}, fillParts fs cs ps = some out → All2 (fun p q => p.1 = q.1 ∧ SVR C.ti w S ω ν p.2 q.2) ps qs → cs.length = n → All2 (SR C.ti w S ω ν) cs vs.toList →
    ∃ us, Instr.fill place vs qs = some us ∧ All2 (SR C.ti w S ω ν) out us.toList
  | [], qs, cs, out, vs, h, hq, hl, hc => by
    cases hq
    simp only [fillParts, Option.some.injEq] at h
    subst h
    exact ⟨vs, rfl, hc⟩
  | (i, v) :: r, qs, cs, out, vs, h, hq, hl, hc => by
    cases hq with
    | cons h1 hq =>
      rename_i q qs
      obtain ⟨i', u⟩ := q
      obtain ⟨rfl, hv⟩ := h1
      simp only [fillParts] at h
      split at h
      · rename_i off sz ag hf
        split at h
        · rename_i hsz
          have hvc := hv.cells
          have hvl := hvc.length
          have hcl := hc.length
          have hle := hn _ _ _ _ hf
          have hus : u.cells.size = sz := by rw [← Array.length_toList, ← hvl]; exact hsz
          have hvs : vs.size = n := by rw [← Array.length_toList, ← hcl]; exact hl
          rw [fill_one (hp _ _ _ _ hf) hus (by omega)]
          refine fill_sound hp hn h hq ?_ ?_
          · simp only [List.length_append, List.length_take, List.length_drop]
            omega
          · simp only [List.toList_toArray]
            exact all2_splice hc hvc _ _
        · cases h
      · cases h
theorem mapM_some' {α β : Type} {f : α → Option β} : ∀ (l : List α) (g : α → β), (∀ x, x ∈ l → f x = some (g x)) → l.mapM f = some (l.map g)
  | [], g, h => by simp
  | x :: l, g, h => by
    simp only [List.mapM_cons, h x (by simp), mapM_some' l g fun y hy => h y (by simp [hy])]
    rfl
theorem stepBuild_sound (hT : TyOK C.P C.ti) (h : Sim C σ ν S ω a.tmps w) {t : TypeId} {parts : Array (Nat × Operand)} (ho : o.op = .build t parts) (hr : (stepBuild C.ti t parts.toList σ K').Run C.R ν r) : o.wp C.P a w (Post C σ ω o.dst K' r a.defers) Q := by
  unfold stepBuild at hr
  split at hr
  · rename_i st lv fs hti
    split at hr
    · rename_i ps hps
      split at hr
      · rename_i cs hcs
        have hq := lookParts_sound h hps
        have ht := hT t
        unfold TyF at ht
        rw [hti] at ht
        obtain ⟨it, z, d, hu, hrow, hit, hsz, hz, hzz, hkind⟩ := ht
        have hzs := zeros_sound (C := C) (w := w) (S := S) (ω := ω) (ν := ν) hzz
        have hlen : (lv.map zero1).length = lv.length := by simp
        have fin : ∀ {us : Array Value}, C.P.built t (parts.toList.map fun p => (p.1, a.eval p.2)) = some us → All2 (SR C.ti w S ω ν) cs us.toList → o.wp C.P a w (Post C σ ω o.dst K' r a.defers) Q := by
          intro us hb hus
          refine post_pure h (v := .agg us) ?_ hr ⟨us.toList, rfl, hus⟩
          have hrun := run_build w t (parts.map fun x => (x.1, a.eval x.2)) us (by simpa using hb)
          unfold execOp
          simp [ho, hrun]
        rcases hkind with ⟨fields, rfl, rfl, hfl, hf⟩ | ⟨n, e, i, rfl, rfl, hi, hpos, hfl, hg, hlv, _, _⟩
        · have hinfo : ∀ f, f ∈ fields.toList → (C.P.info? f.type).map (fun i => (f.offset, i.size)) = some (f.offset, ((C.P.info? f.type).map (·.size)).getD 0) := by
            intro f hfm
            obtain ⟨j, hj⟩ := List.mem_iff_getElem?.1 hfm
            obtain ⟨i, h1, _⟩ := hf j f (by simpa using hj)
            simp [h1]
          have hpl := mapM_some' fields.toList _ hinfo
          obtain ⟨us, h1, h2⟩ := fill_sound (C := C) (place := fun x => (fields.toList.map fun f => (f.offset, ((C.P.info? f.type).map (·.size)).getD 0)).toArray[x]?) (fs := fs) (n := lv.length) (fun i off sz ag hfi => by
            have hlt : i < fields.size := by rw [hfl]; exact (List.getElem?_eq_some_iff.1 hfi).1
            obtain ⟨i2, k1, k2, _⟩ := hf i fields[i] (Array.getElem?_eq_getElem hlt)
            rw [hfi] at k2
            simp only [Option.some.injEq, Prod.mk.injEq] at k2
            simp [Array.getElem?_eq_getElem hlt, k1, k2.1, k2.2.1]) (fun i off sz ag hfi => by
            have hlt : i < fields.size := by rw [hfl]; exact (List.getElem?_eq_some_iff.1 hfi).1
            obtain ⟨i2, k1, k2, _, k3, _⟩ := hf i fields[i] (Array.getElem?_eq_getElem hlt)
            rw [hfi] at k2
            simp only [Option.some.injEq, Prod.mk.injEq] at k2
            rw [k2.1, k2.2.1]
            exact k3) hcs hq hlen hzs
          refine fin ?_ h2
          unfold Program.built
          simp only [hit, hu, hz, hpl]
          exact h1
        · obtain ⟨us, h1, h2⟩ := fill_sound (C := C) (place := fun x => some (x * i.size, i.size)) (fs := fs) (n := lv.length) (fun j off sz ag hfi => by
            have hlt : j < n := by rw [← hfl]; exact (List.getElem?_eq_some_iff.1 hfi).1
            rw [hg j hlt] at hfi
            simp only [Option.some.injEq, Prod.mk.injEq] at hfi
            rw [← hfi.1, ← hfi.2.1]) (fun j off sz ag hfi => by
            have hlt : j < n := by rw [← hfl]; exact (List.getElem?_eq_some_iff.1 hfi).1
            rw [hg j hlt] at hfi
            simp only [Option.some.injEq, Prod.mk.injEq] at hfi
            have : (j + 1) * i.size ≤ n * i.size := Nat.mul_le_mul_right _ hlt
            rw [Nat.add_mul] at this
            rw [← hfi.1, ← hfi.2.1, hlv]
            omega) hcs hq hlen hzs
          refine fin ?_ h2
          unfold Program.built
          simp only [hit, hu, hz, hi]
          exact h1
      · exact hr.elim
    · exact hr.elim
  · exact hr.elim
end
end Go.SX
