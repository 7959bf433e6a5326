/-
slices.SortFunc over a row of the call's own, as an answer: the row holds what the library's sort makes of its elements.
-/
import Derived.Test.YtodlbeaidannaaaGreatSxCall
import Derived.Shelf.SlSortCmp.NoneTotal
set_option linter.unusedVariables false
set_option linter.unusedSectionVars false
namespace Go.SX
open Go.RowKit Go.Proofs Go.Shelf Go.Sort

/-- The shape of a call of slices.SortFunc with a plain function. -/
def sortSig (f t g : Nat) : Sig := { f := f, inS := [.v (.c (.own 0)), .v (.c (.fn g []))], inO := [.row t (.v 0)], nIn := 1, outS := [], outO := [.row t (.v 0)], nOut := 1, flat := true }

section
variable {P : Program} {ρ : Ren} {α : Type} [Inhabited α]
theorem cellsOf (enc : α → List Value) (k : Nat) (hk : ∀ x, (enc x).length = k) (d : Array α) (j c : Nat) (hj : j < d.size) (hc : c < k) : (flatK enc k d)[j * k + c]! = (enc d[j]!).getD c undef := by
  have h1 : (j + 1) * k ≤ d.size * k := Nat.mul_le_mul_right k hj
  rw [Nat.add_mul, Nat.one_mul] at h1
  rw [get_flatK _ _ _ _ (by omega)]
  have h2 : (j * k + c) / k = j := (blk_iff k j _ (by omega)).1 ⟨by omega, by omega⟩
  have h3 : (j * k + c) % k = c := by rw [Nat.mod_eq_sub_div_mul, h2]; omega
  rw [h2, h3, List.getElem!_eq_getElem?_getD, List.getD_eq_getElem?_getD, List.getElem?_eq_getElem (by rw [hk]; exact hc)]
  rfl
theorem divmod_lt {k n t : Nat} (h : t < n * k) : t / k < n ∧ t % k < k ∧ t = t / k * k + t % k := by
  have hk : 0 < k := by rcases Nat.eq_zero_or_pos k with h0 | h0; · subst h0; simp at h
                        · exact h0
  refine ⟨(Nat.div_lt_iff_lt_mul hk).2 h, Nat.mod_lt _ hk, ?_⟩
  rw [Nat.mul_comm]
  exact (Nat.div_add_mod t k).symm
theorem sort_goes (L : SlLaysF0.n6 P ρ) {ti : TypeId → TI} {t e : TypeId} {lv : List K} (hti : ti t = .sl e true lv)
    (aE : ∀ w, (isAgg (ρ.t 24)).run P w = .ok true w) (zE : ∀ w, (Go.sizeOf (ρ.t 24)).run P w = .ok lv.length w)
    (enc : α → List Value) (hk : ∀ x, (enc x).length = lv.length) (h1 : ∀ x, ∀ v ∈ enc x, v.oneCell' = true) (toD : α → D)
    (cf : α → α → Int) (hO : SWO (ltOf cf)) (g : Nat) (eg : ∀ args w, (callFunc g args).run P w = .ok (.enter g args) w)
    (hc : ∀ x y W, Calls P g #[.agg (enc x).toArray, .agg (enc y).toArray] W fun e w' => e = .returned (.int .i64 (cf x y)) ∧ ∃ q os', w' = grow (W.drewN q) os')
    (eF : ∀ args w, (callFunc (ρ.f 6) args).run P w = .ok (.enter (ρ.f 6) args) w)
    {xs : List α} (hlen : xs.length < 4611686018427387904) {vs : List Value} {w : World} {S F : Nat → Prop} {ω : Nat → Option Value}
    (hE : Entry ti (sortSig (ρ.f 6) t g) [.list (xs.map toD)] vs w S F ω)
    (hR : ∀ x, x ∈ xs → ∀ c k, lv[c]? = some k → Rd ti w S k (cellD true c (toD x)) ((enc x).getD c undef))
    (hV : ∀ us, RowCells ti w S true lv (xs.map toD) us → us.length = xs.length * lv.length → ∀ j c, j < xs.length → c < lv.length → us.getD (j * lv.length + c) undef = (enc (xs.getD j default)).getD c undef) :
    Goes P (ρ.f 6) vs.toArray w fun v w' => ∃ S' ω', Out ti (sortSig (ρ.f 6) t g) [.list ((pdq (ltOf cf) xs.toArray 0 xs.length (Lib.bitLen xs.length) true true).toList.map toD)] w S F ω v w' S' ω' := by
  have hv := hE.vals
  obtain ⟨v0, v1, rfl, ⟨hω, a, n, cap, hv0⟩, cv, hv1, hcv⟩ : ∃ v0 v1, vs = [v0, v1] ∧ (ω 0 = some v0 ∧ ∃ a n cap, v0 = .slice a n cap) ∧ ∃ cv : List Value, v1 = .func (.func g) #[] cv.toArray ∧ All2 (CapR ti w S ω [.list (xs.map toD)]) [] cv := by
    cases hv with
    | cons h1 hv => cases hv with
      | cons h2 hv => cases hv with
        | nil => exact ⟨_, _, rfl, h1, h2⟩
  obtain rfl : cv = [] := by cases hcv; rfl
  subst hv1
  obtain ⟨v, e', agg', lv', ds, us, hω', hti', hden, hown, hcells⟩ := hE.objs 0 _ rfl
  rw [hω] at hω'
  obtain rfl := Option.some.inj hω'
  rw [hti] at hti'
  cases hti'
  have hds : ds = xs.map toD := by
    have : (D.list (xs.map toD)) = .list ds := hden
    exact (D.list.inj this).symm
  subst hds
  obtain ⟨hl, hcase⟩ := hown
  rw [List.length_map] at hl
  have hcells' := hV us hcells hl
  have stays : ∀ w', w' = w → Out ti (sortSig (ρ.f 6) t g) [.list (xs.map toD)] w S F ω (.tuple #[]) w' S ω := by
    rintro _ rfl
    exact {
      frame := Fr.refl _ F
      smono := fun _ h => h
      sbd := fun _ h => .inl h
      stab := hE.stab
      omono := fun _ _ h => h
      dom := hE.dom
      vals := ⟨[], rfl, .nil⟩
      objs := hE.objs
      sep := hE.sep
      own := fun o ob b h1 h2 h3 => let ⟨x, y, z⟩ := hE.own o ob b h1 h2 h3; ⟨x, y, .inr z⟩ }
  rcases hcase with ⟨rfl, hn⟩ | ⟨gb, cap', cur, rfl, hb, hblk, hncap, hmax, hsz, htake⟩
  · rw [List.length_map] at hn
    have h0 := AnyF.slices_SortFunc_none (P := P) (ρ := ρ) L none 0 (.func (.func g) #[] #[]) w
    refine ⟨_, _, eF _ _, ?_⟩
    refine h0.mono ?_
    rintro _ w' ⟨rfl, rfl⟩
    obtain rfl : xs = [] := List.length_eq_zero_iff.1 hn
    refine ⟨S, ω, ?_⟩
    have : (pdq (ltOf cf) ([] : List α).toArray 0 ([] : List α).length (Lib.bitLen ([] : List α).length) true true).toList.map toD = ([] : List α).map toD := by
      have := (pdq_sorts (ltOf cf) hO ([] : List α).toArray 0 0 (Lib.bitLen 0) true true (Nat.zero_le _) (Nat.le_refl _) (Or.inl rfl)).1.1
      have h2 : (pdq (ltOf cf) ([] : List α).toArray 0 0 (Lib.bitLen 0) true true) = #[] := Array.size_eq_zero_iff.1 this
      show (pdq (ltOf cf) ([] : List α).toArray 0 0 (Lib.bitLen 0) true true).toList.map toD = _
      rw [h2]
    rw [this]
    exact stays _ rfl
  · rw [List.length_map] at hncap htake ⊢
    have hF := hE.own 0 _ gb rfl rfl (by rw [hω]; rfl)
    obtain ⟨hnS, hlt, hFg⟩ := hF
    have hsz' : xs.length * lv.length ≤ cur.size := by rw [hsz]; exact Nat.mul_le_mul_right _ hncap
    have hcur : ∀ j, j < xs.length * lv.length → cur[j]? = some ((flatK enc lv.length xs.toArray)[j]!) := by
      intro j hj
      obtain ⟨d1, d2, d3⟩ := divmod_lt hj
      have hu : us[j]? = cur[j]? := by
        rw [← htake, List.getElem?_take_of_lt hj]
        simp
      have hg := hcells' (j / lv.length) (j % lv.length) d1 d2
      rw [← d3] at hg
      have hf := cellsOf enc lv.length hk xs.toArray (j / lv.length) (j % lv.length) (by simpa using d1) d2
      rw [← d3] at hf
      have hx : xs.toArray[j / lv.length]! = xs.getD (j / lv.length) default := by
        rw [List.getElem!_toArray, List.getElem!_eq_getElem?_getD, List.getD_eq_getElem?_getD]
      rw [hx, ← hg] at hf
      rw [hf, ← hu, List.getD_eq_getElem?_getD, List.getElem?_eq_getElem (by rw [hl]; exact hj)]
      rfl
    have hH : HoldsK enc lv.length w gb 0 xs.toArray := by
      intro j hj
      rw [size_flatK, List.size_toArray] at hj
      rw [Nat.zero_add]
      refine ⟨?_, by simp [World.frozen?, hblk]⟩
      show (match w.heap[gb]? with | some (.cells c _ _) => if (none : Option _).isSome then none else c[j]? | _ => none) = _
      rw [hblk]
      exact hcur j hj
    have key := AnyQ.slices_SortFunc_eq L lv.length aE zE enc hk h1 cf hO g #[] gb 0 cap' xs.toArray w eg (fun m os dk _ x y => hc x y _) hH hlt (by simpa using hlen)
    rw [List.size_toArray] at key
    refine ⟨_, _, eF _ _, ?_⟩
    refine key.mono ?_
    rintro _ w' ⟨rfl, n, os, rfl⟩
    have hsorts := pdq_sorts (ltOf cf) hO xs.toArray 0 xs.length (Lib.bitLen xs.length) true true (Nat.zero_le _) (by simp) (Or.inl rfl)
    generalize hd' : pdq (ltOf cf) xs.toArray 0 xs.length (Lib.bitLen xs.length) true true = d' at hsorts
    obtain ⟨⟨hsd, _, hperm⟩, _⟩ := hsorts
    have hsd' : d'.size = xs.length := by rw [hsd]; simp
    have hdl : d'.toList.length = xs.length := by simpa using hsd'
    have hmem : ∀ x, x ∈ d'.toList → x ∈ xs := by
      intro x hx
      have e1 : d'.extract 0 xs.length = d' := by rw [← hsd']; exact Array.extract_size
      have e2 : xs.toArray.extract 0 xs.length = xs.toArray := by
        have := Array.extract_size (xs := xs.toArray)
        rwa [List.size_toArray] at this
      rw [e1, e2] at hperm
      exact hperm.mem_iff.1 hx
    have hhs : (sortWorldK enc lv.length w gb 0 n d' os).heap.size = w.heap.size + os.size := by
      show ((putRow id (Sort.ahead w n) gb 0 (flatK enc lv.length d')).heap ++ os).size = _
      rw [Array.size_append, Sort.size_putRow]
      rfl
    have hother : ∀ b, b < w.heap.size → b ≠ gb → (sortWorldK enc lv.length w gb 0 n d' os).heap[b]? = w.heap[b]? := by
      intro b hb hne
      show (((w.heap).modify gb _) ++ os)[b]? = _
      rw [Array.getElem?_append_left (by simpa using hb), Array.getElem?_modify, if_neg (fun h => hne h.symm)]
    have hnew : (sortWorldK enc lv.length w gb 0 n d' os).heap[gb]? = some (.cells (putCells id 0 (flatK enc lv.length d') cur) e (0, 0)) := by
      show (((w.heap).modify gb _) ++ os)[gb]? = _
      rw [Array.getElem?_append_left (by simpa using hlt), Array.getElem?_modify, if_pos rfl, hblk]
      rfl
    have hcur' : ∀ j, j < xs.length * lv.length → (putCells id 0 (flatK enc lv.length d') cur)[j]? = some ((flatK enc lv.length d')[j]!) := by
      intro j hj
      unfold putCells
      rw [Array.getElem?_mapIdx, Array.getElem?_eq_getElem (by omega)]
      simp [hsd', hj]
    have hSb : ∀ b, S b → (sortWorldK enc lv.length w gb 0 n d' os).heap[b]? = w.heap[b]? := fun b hb => hother b (hE.stab b hb) (fun h => hnS (h ▸ hb))
    refine ⟨S, ω, ?_⟩
    exact {
      frame := ⟨rfl, rfl, rfl, by rw [hhs]; omega, fun b hb hFb => hother b hb (fun h => hFb (h ▸ hFg))⟩
      smono := fun _ h => h
      sbd := fun _ h => .inl h
      stab := fun b hb => by rw [hhs]; have := hE.stab b hb; omega
      omono := fun _ _ h => h
      dom := hE.dom
      vals := ⟨[], rfl, .nil⟩
      objs := fun o ob ho => by
        have ho0 : o = 0 ∧ ob = .row t (.v 0) := by
          cases o with
          | zero => exact ⟨rfl, (Option.some.inj ho).symm⟩
          | succ o => cases ho
        obtain ⟨rfl, rfl⟩ := ho0
        refine ⟨_, e, true, lv, d'.toList.map toD, (putCells id 0 (flatK enc lv.length d') cur).toList.take (xs.length * lv.length), hω, hti, rfl, ⟨?_, .inr ⟨gb, cap', putCells id 0 (flatK enc lv.length d') cur, ?_, hb, hnew, ?_, hmax, ?_, ?_⟩⟩, ?_⟩
        · have hpl : (putCells id 0 (flatK enc lv.length d') cur).toList.length = cur.size := by simp [putCells]
          rw [List.length_take, hpl, List.length_map, hdl]
          omega
        · simp only [List.length_map, hdl]
        · simp only [List.length_map, hdl]; exact hncap
        · unfold putCells
          rw [Array.size_mapIdx]
          exact hsz
        · simp only [List.length_map, hdl]
        · intro j c k hj hkc
          rw [List.length_map, hdl] at hj
          have hcl : c < lv.length := (List.getElem?_eq_some_iff.1 hkc).1
          have hjx : j < xs.length := hj
          have hjd : j < d'.size := by omega
          have hlt2 : j * lv.length + c < xs.length * lv.length := by
            have : (j + 1) * lv.length ≤ xs.length * lv.length := Nat.mul_le_mul_right _ hjx
            rw [Nat.add_mul, Nat.one_mul] at this
            omega
          have hval : ((putCells id 0 (flatK enc lv.length d') cur).toList.take (xs.length * lv.length)).getD (j * lv.length + c) undef = (enc d'[j]!).getD c undef := by
            rw [List.getD_eq_getElem?_getD, List.getElem?_take_of_lt hlt2, Array.getElem?_toList, hcur' _ hlt2, cellsOf enc lv.length hk d' j c hjd hcl]
            rfl
          have hdj : (d'.toList.map toD).getD j default = toD d'[j]! := by
            rw [List.getD_eq_getElem?_getD, List.getElem?_map, Array.getElem?_toList, Array.getElem?_eq_getElem hjd, getElem!_pos d' j hjd]
            rfl
          rw [hval, hdj]
          refine (hR d'[j]! (hmem _ ?_) c k hkc).mono hSb fun _ h => h
          rw [getElem!_pos d' j hjd]
          exact Array.getElem_mem_toList hjd
      sep := hE.sep
      own := fun o ob b h1 h2 h3 => let ⟨x, y, z⟩ := hE.own o ob b h1 h2 h3; ⟨x, by rw [hhs]; omega, .inr z⟩ }
end
end Go.SX
