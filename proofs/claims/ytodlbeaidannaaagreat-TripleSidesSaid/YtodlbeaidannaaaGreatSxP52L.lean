/-
Chapter 52, plain: a triple of a description, turned around.
-/
import Derived.Test.YtodlbeaidannaaaGreatSxP52K
set_option linter.unusedVariables false
set_option linter.unusedSimpArgs false
set_option linter.unusedSectionVars false
namespace Go.SX.T52
open Go.SX

theorem e15501 (dn : List (Int × Int)) (hdn : Len dn.length) (hbn : ∀ x, x ∈ dn → B8 x.1 ∧ B8 x.2) (de : List (Int × Int × Int)) (hd : Len de.length) (hb : ∀ x, x ∈ de → B8 x.1 ∧ B8 x.2.1 ∧ B8 x.2.2) (a b : D) (cl : List Int) (hl5 : cl.length = 5) (hk : ∀ q : Nat, q < 5 → cl.getD q default = q) :
    ∀ k j : Nat, k + j = 9 → j ≤ 8 → j ≤ dn.length → ∀ (gn : List Int) (vs : List (List Int)), gn.length = j → vs.length = j → (∀ j, j < gn.length → 0 ≤ gn.getD j default ∧ gn.getD j default ≤ 4) → (∀ l, l ∈ vs → l = []) →
    ∃ (gn' : List Int) (ge' : List Ge) (vs' : List (List Int)), gn'.length ≤ 8 ∧ ExH gn' ge' vs' ∧ ge'.length ≤ 10 ∧ ev 15501 [a, b, u8D dn, trsD de, .int j, ndsD exNs, edsD exEs, intsD cl, intsD gn, gesD [], valsD vs] = some [intsD gn', gesD ge', valsD vs'] := by
  intro k
  induction k with
  | zero => intro j hj hj8; omega
  | succ k ih =>
    intro j hj hj8 hjd gn vs hg hv hn hvs
    have fin : ∃ (gn' : List Int) (ge' : List Ge) (vs' : List (List Int)), gn'.length ≤ 8 ∧ ExH gn' ge' vs' ∧ ge'.length ≤ 10 ∧ ev 15505 [a, b, u8D dn, trsD de, .int j, .int gn.length, .int 0, ndsD exNs, edsD exEs, intsD cl, intsD gn, gesD [], valsD vs] = some [intsD gn', gesD ge', valsD vs'] := by
      obtain ⟨ge', g1, g2, g3⟩ := e15505 (vs := vs) (show gn.length ≤ 8 by omega) hn de hd hb a b (u8D dn) (.int j) (intsD cl) 11 0 (by omega) (by omega) (by omega) [] (by simp) (fun j hj => by simp at hj)
      refine ⟨gn, ge', vs, by omega, ⟨hn, by omega, fun j hj => hvs _ (getD_mem hj), g2, by omega, by omega⟩, g1, g3⟩
    by_cases h1 : j < dn.length
    · by_cases h2 : j < 8
      · obtain ⟨⟨x1, x2⟩, _⟩ := hbn _ (getD_mem h1)
        have hin : (leI 0 j && ltI j dn.length) = true := by rw [and_iff, leI_iff, ltI_iff]; omega
        obtain ⟨t1, t2⟩ := tmod_in (n := 5) x1 (by omega)
        have hz5 : (!eqI ((5 : Nat) : Int) 0) = true := by decide
        have hm : (leI 0 ((dn.getD j default).1.tmod ((5 : Nat) : Int)) && ltI ((dn.getD j default).1.tmod ((5 : Nat) : Int)) ((5 : Nat) : Int)) = true := by rw [and_iff, leI_iff, ltI_iff]; omega
        have hkk := hk ((dn.getD j default).1.tmod ((5 : Nat) : Int)).toNat (by omega)
        have hat := e10200 exOk exTypes (t := ((dn.getD j default).1.tmod ((5 : Nat) : Int)).toNat) (by have : exNs.length = 5 := rfl; omega)
        rw [exAttrs (by omega)] at hat
        obtain ⟨gn', ge', vs', i1, i2, i3, i4⟩ := ih (j + 1) (by omega) (by omega) (by omega) (gn ++ [(((dn.getD j default).1.tmod ((5 : Nat) : Int)).toNat : Int)]) (vs ++ [[]]) (by simp [hg]) (by simp [hv]) (fun q hq => by
          by_cases hqg : q < gn.length
          · have : (gn ++ [(((dn.getD j default).1.tmod ((5 : Nat) : Int)).toNat : Int)]).getD q default = gn.getD q default := by simp only [List.getD_eq_getElem?_getD, List.getElem?_append_left hqg]
            rw [this]
            exact hn q hqg
          · have hqe : q = gn.length := by simp at hq; omega
            have : (gn ++ [(((dn.getD j default).1.tmod ((5 : Nat) : Int)).toNat : Int)]).getD q default = (((dn.getD j default).1.tmod ((5 : Nat) : Int)).toNat : Int) := by
              rw [hqe]
              simp [List.getD_eq_getElem?_getD]
            rw [this]
            omega) (fun l hl => by
          rcases List.mem_append.1 hl with h | h
          · exact hvs l h
          · simpa using h)
        refine ⟨gn', ge', vs', i1, i2, i3, ?_⟩
        have e1 : gn.map D.int ++ [.int (((dn.getD j default).1.tmod ((5 : Nat) : Int)).toNat : Int)] = (gn ++ [(((dn.getD j default).1.tmod ((5 : Nat) : Int)).toNat : Int)]).map D.int := by simp
        have e2 : vs.map intsD ++ [.list []] = (vs ++ [[]]).map intsD := by simp
        have h3 : ev 15503 [a, b, u8D dn, trsD de, .int j, .int (((dn.getD j default).1.tmod ((5 : Nat) : Int)).toNat : Int), .int 0, ndsD exNs, edsD exEs, intsD cl, atsD [], .list [], intsD gn, gesD [], valsD vs] = some [intsD gn', gesD ge', valsD vs'] := by
          have hf : ltI 0 ((([] : List D).length : Nat) : Int) = false := by decide
          refine ev_by u15503 ?_
          simp only [t15503, go_sem, List.length_map, hf, wrapS j (by omega), e1, e2, i4]
          rw [cond_le (by omega), cond_le (by omega)]
        refine ev_by u15501 ?_
        simp only [t15501, go_sem, List.length_map, idx_map _ _ _ h1, hin, o_rem, hl5, hz5, nowrap (n := (dn.getD j default).1) (by omega) (by omega), hm, idx_map _ cl ((dn.getD j default).1.tmod ((5 : Nat) : Int)).toNat (by rw [hl5]; omega), hkk, hat]
        rw [cond_lt (by omega), cond_lt (by omega), cond_lt (by decide)]
        exact h3
      · obtain ⟨gn', ge', vs', i1, i2, i3, i4⟩ := fin
        refine ⟨gn', ge', vs', i1, i2, i3, ?_⟩
        refine ev_by u15501 ?_
        simp only [t15501, go_sem, List.length_map]
        rw [cond_lt (by omega), cond_nlt (by omega)]
        exact i4
    · obtain ⟨gn', ge', vs', i1, i2, i3, i4⟩ := fin
      refine ⟨gn', ge', vs', i1, i2, i3, ?_⟩
      refine ev_by u15501 ?_
      simp only [t15501, go_sem, List.length_map]
      rw [cond_nlt (by omega)]
      exact i4
/-- A description's host. -/
theorem e15500 (dn : List (Int × Int)) (hdn : Len dn.length) (hbn : ∀ x, x ∈ dn → B8 x.1 ∧ B8 x.2) (de : List (Int × Int × Int)) (hd : Len de.length) (hb : ∀ x, x ∈ de → B8 x.1 ∧ B8 x.2.1 ∧ B8 x.2.2) :
    ∃ (gn : List Int) (ge : List Ge) (vs : List (List Int)), gn.length ≤ 8 ∧ ExH gn ge vs ∧ ge.length ≤ 10 ∧ ev 15500 [ndsD exNs, edsD exEs, u8D dn, trsD de] = some [intsD gn, gesD ge, valsD vs] := by
  obtain ⟨gn', ge', vs', i1, i2, i3, i4⟩ := e15501 dn hdn hbn de hd hb (ndsD exNs) (edsD exEs) [0, 1, 2, 3, 4] rfl (fun q hq => by
    have : q = 0 ∨ q = 1 ∨ q = 2 ∨ q = 3 ∨ q = 4 := by omega
    rcases this with rfl | rfl | rfl | rfl | rfl <;> rfl) 9 0 (by omega) (by omega) (by omega) [] [] rfl rfl (fun j hj => by simp at hj) (fun l hl => by cases hl)
  refine ⟨gn', ge', vs', i1, i2, i3, ?_⟩
  refine ev_by u15500 ?_
  simp only [t15500, go_sem, e15600]
  exact i4

/-! ### Few links -/
theorem nodup_le {α : Type} [DecidableEq α] : ∀ {l m : List α}, l.Nodup → (∀ x, x ∈ l → x ∈ m) → l.length ≤ m.length
  | [], m, _, _ => by simp
  | a :: l, m, h, hs => by
    rw [List.nodup_cons] at h
    have ha := hs a (by simp)
    have := nodup_le (l := l) (m := m.erase a) h.2 fun x hx => (List.mem_erase_of_ne (fun e => h.1 (by rw [← e]; exact hx))).2 (hs x (by simp [hx]))
    rw [List.length_erase_of_mem ha] at this
    have : 0 < m.length := List.length_pos_of_mem ha
    simp only [List.length_cons]
    omega
def prod (s t : List Int) : List (Int × Int) := s.flatMap fun a => t.map fun b => (a, b)
theorem prod_len (s t : List Int) : (prod s t).length = s.length * t.length := by
  induction s with
  | nil => simp [prod]
  | cons a s ih =>
    unfold prod at ih ⊢
    rw [List.flatMap_cons, List.length_append, ih, List.length_map, List.length_cons, Nat.succ_mul]
    omega
theorem idxK_three {p q r : Nat → Bool} (h1 : ∀ j, p j = true → q j = false ∧ r j = false) (h2 : ∀ j, q j = true → r j = false) : ∀ k i, (idxK p k i).length + (idxK q k i).length + (idxK r k i).length ≤ k
  | 0, i => by simp [idxK]
  | k + 1, i => by
    have ih := idxK_three h1 h2 k (i + 1)
    unfold idxK
    cases hp : p i
    · cases hq : q i
      · cases hr : r i <;> simp <;> omega
      · rw [h2 i hq]; simp; omega
    · rw [(h1 i hp).1, (h1 i hp).2]; simp; omega
theorem few_links {sn se gn : List Int} {ge : List Ge} {vs : List (List Int)} (V : VH sn se gn ge vs) (h8 : gn.length ≤ 8) : (linkSet sn gn ge).length ≤ 12 := by
  cases hl : linkSet sn gn ge with
  | nil => simp
  | cons p0 r0 =>
    rw [← hl]
    have hp0 : p0 ∈ linkSet sn gn ge := by rw [hl]; simp
    obtain ⟨a0, b0, ha0, hb0, ht0, _⟩ := linkSet_mem.1 hp0
    simp only [tells, and_iff, eqI_iff] at ht0
    obtain ⟨m1, m2, m3, m4, m5, m6⟩ := V.ek a0 ha0
    have hM : (ge.getD a0 default).src ∈ partV sn gn 2 := idxK_mem.2 ⟨(ge.getD a0 default).src.toNat, by omega, by omega, by omega, by rw [eqI_iff]; exact ht0.2.1⟩
    have hsub : ∀ x, x ∈ linkSet sn gn ge → x ∈ prod (partV sn gn 1) (partV sn gn 3) := by
      intro x hx
      obtain ⟨a, b, ha, hb, ht, rfl⟩ := linkSet_mem.1 hx
      simp only [tells, and_iff, eqI_iff] at ht
      obtain ⟨k1, k2, k3, k4, k5, k6⟩ := V.ek a ha
      obtain ⟨q1, q2, q3, q4, q5, q6⟩ := V.ek b hb
      unfold prod
      rw [List.mem_flatMap]
      refine ⟨(ge.getD a default).dst, idxK_mem.2 ⟨(ge.getD a default).dst.toNat, by omega, by omega, by omega, by rw [eqI_iff]; exact ht.2.2.1⟩, ?_⟩
      rw [List.mem_map]
      exact ⟨(ge.getD b default).dst, idxK_mem.2 ⟨(ge.getD b default).dst.toNat, by omega, by omega, by omega, by rw [eqI_iff]; exact ht.2.2.2⟩, rfl⟩
    have h1 := nodup_le (linkSet_nodup sn gn ge) hsub
    rw [prod_len] at h1
    have h3 : (partV sn gn 1).length + (partV sn gn 2).length + (partV sn gn 3).length ≤ gn.length := by
      refine idxK_three (fun j hj => ?_) (fun j hj => ?_) gn.length 0
      · rw [eqI_iff] at hj
        exact ⟨by rw [eqI_false]; omega, by rw [eqI_false]; omega⟩
      · rw [eqI_iff] at hj
        rw [eqI_false]; omega
    have h2 : 0 < (partV sn gn 2).length := List.length_pos_of_mem hM
    generalize (partV sn gn 1).length = s at *
    generalize (partV sn gn 3).length = t at *
    have hs : s = 0 ∨ s = 1 ∨ s = 2 ∨ s = 3 ∨ s = 4 ∨ s = 5 ∨ s = 6 ∨ s = 7 := by omega
    rcases hs with rfl | rfl | rfl | rfl | rfl | rfl | rfl | rfl <;> omega
/-- The links of a small triple, in some order. -/
theorem e400s {ns : List Nd} {es : List Ed} (ht : OkT ns es) {sn se gn : List Int} {ge : List Ge} {vs : List (List Int)} (hf : FewH gn ge vs) (h0 : validErr ns es sn se gn ge vs = 0) (h8 : gn.length ≤ 8) :
    ∃ l : List (Int × Int), List.Perm l (linkSet sn gn ge) ∧ ev 400 [ndsD ns, edsD es, intsD sn, intsD se, intsD gn, gesD ge, valsD vs] = some [prsD l, .int 0] := by
  obtain ⟨_, _, V⟩ := validErr_ok h0
  obtain ⟨l, p, h⟩ := e6900s (few_links V h8)
  refine ⟨l, p, ?_⟩
  rw [e400 ht hf h0, h]
  rfl

/-! ### Turned -/
theorem soOf_turn {sn gn : List Int} {v : Int} (h1 : 0 ≤ gn.getD v.toNat default) (h2 : gn.getD v.toNat default < sn.length) : soOf (turn sn) gn v = 4 - soOf sn gn v := by
  unfold soOf
  exact turn_get (by omega)
theorem partV_turn {sn gn : List Int} (h : ∀ j, j < gn.length → 0 ≤ gn.getD j default ∧ gn.getD j default < sn.length) (s : Int) : partV (turn sn) gn (4 - s) = partV sn gn s := by
  unfold partV
  have : ∀ k i, i + k ≤ gn.length → idxK (fun j => eqI ((turn sn).getD (gn.getD j default).toNat default) (4 - s)) k i = idxK (fun j => eqI (sn.getD (gn.getD j default).toNat default) s) k i := by
    intro k
    induction k with
    | zero => intro i _; rfl
    | succ k ih =>
      intro i hi
      have hj := h i (by omega)
      unfold idxK
      rw [turn_get (by omega), eqI_turn, ih (i + 1) (by omega)]
  exact this _ _ (by omega)
theorem partE_turn {se : List Int} {ge : List Ge} (h : ∀ j, j < ge.length → 0 ≤ (ge.getD j default).ty ∧ (ge.getD j default).ty < se.length) (s : Int) : partE (turn se) ge (4 - s) = partE se ge s := by
  unfold partE
  have : ∀ k i, i + k ≤ ge.length → idxK (fun j => eqI ((turn se).getD (ge.getD j default).ty.toNat default) (4 - s)) k i = idxK (fun j => eqI (se.getD (ge.getD j default).ty.toNat default) s) k i := by
    intro k
    induction k with
    | zero => intro i _; rfl
    | succ k ih =>
      intro i hi
      have hj := h i (by omega)
      unfold idxK
      rw [turn_get (by omega), eqI_turn, ih (i + 1) (by omega)]
  exact this _ _ (by omega)
theorem tells_turn {sn se gn : List Int} {ge : List Ge} {vs : List (List Int)} (V : VH sn se gn ge vs) {a b : Nat} (ha : a < ge.length) (hb : b < ge.length) : tells (turn sn) gn (ge.getD a default) (ge.getD b default) = tells sn gn (ge.getD b default) (ge.getD a default) := by
  obtain ⟨k1, k2, k3, k4, k5, k6⟩ := V.ek a ha
  obtain ⟨q1, q2, q3, q4, q5, q6⟩ := V.ek b hb
  have n1 := V.nk (ge.getD a default).src.toNat (by omega)
  have n2 := V.nk (ge.getD a default).dst.toNat (by omega)
  have n3 := V.nk (ge.getD b default).dst.toNat (by omega)
  unfold tells
  rw [soOf_turn n1.1 n1.2, soOf_turn n2.1 n2.2, soOf_turn n3.1 n3.2, Bool.eq_iff_iff]
  simp only [and_iff, eqI_iff]
  constructor
  · rintro ⟨h1, h2, h3, h4⟩
    exact ⟨h1.symm, by rw [← h1]; omega, by omega, by omega⟩
  · rintro ⟨h1, h2, h3, h4⟩
    exact ⟨h1.symm, by rw [← h1]; omega, by omega, by omega⟩
def flip (p : Int × Int) : Int × Int := (p.2, p.1)
theorem flip_inj {p q : Int × Int} (h : flip p = flip q) : p = q := by
  obtain ⟨a, b⟩ := p
  obtain ⟨c, d⟩ := q
  simp only [flip, Prod.mk.injEq] at h
  rw [h.1, h.2]
theorem linkSet_turn {sn se gn : List Int} {ge : List Ge} {vs : List (List Int)} (V : VH sn se gn ge vs) {q : Int × Int} : flip q ∈ linkSet (turn sn) gn ge ↔ q ∈ linkSet sn gn ge := by
  obtain ⟨x, y⟩ := q
  rw [linkSet_mem, linkSet_mem]
  constructor
  · rintro ⟨a, b, ha, hb, ht, he⟩
    rw [tells_turn V ha hb] at ht
    simp only [flip, Prod.mk.injEq] at he
    exact ⟨b, a, hb, ha, ht, by rw [he.1, he.2]⟩
  · rintro ⟨a, b, ha, hb, ht, he⟩
    rw [← tells_turn V hb ha] at ht
    simp only [Prod.mk.injEq] at he
    exact ⟨b, a, hb, ha, ht, by simp only [flip, he.1, he.2]⟩
theorem nodup_map {α β : Type} {f : α → β} (hf : ∀ a b, f a = f b → a = b) : ∀ {l : List α}, l.Nodup → (l.map f).Nodup
  | [], _ => .nil
  | a :: l, h => by
    rw [List.nodup_cons] at h
    rw [List.map_cons, List.nodup_cons]
    refine ⟨fun hm => ?_, nodup_map hf h.2⟩
    obtain ⟨b, hb, he⟩ := List.mem_map.1 hm
    exact h.1 (hf _ _ he ▸ hb)
theorem linkSet_turn_len {sn se gn : List Int} {ge : List Ge} {vs : List (List Int)} (V : VH sn se gn ge vs) : (linkSet (turn sn) gn ge).length = (linkSet sn gn ge).length := by
  have h1 := nodup_le (l := (linkSet sn gn ge).map flip) (m := linkSet (turn sn) gn ge) (nodup_map (fun _ _ => flip_inj) (linkSet_nodup _ _ _)) fun x hx => by
    obtain ⟨q, hq, rfl⟩ := List.mem_map.1 hx
    exact (linkSet_turn V).2 hq
  have h2 := nodup_le (l := (linkSet (turn sn) gn ge).map flip) (m := linkSet sn gn ge) (nodup_map (fun _ _ => flip_inj) (linkSet_nodup _ _ _)) fun x hx => by
    obtain ⟨q, hq, rfl⟩ := List.mem_map.1 hx
    refine (linkSet_turn V).1 ?_
    exact hq
  rw [List.length_map] at h1 h2
  omega
theorem e15401 (l m : List (Int × Int)) (hl : l.length ≤ 1000) (hm : m.length ≤ 1000) (h : ∀ p, p ∈ l → flip p ∈ m) (c0 c1 c2 c3 c4 c5 c6 c7 : D) (d10 d11 d12 d13 d14 d15 d16 d17 d18 d19 d20 d21 d22 d23 d24 d25 d26 d27 d28 : D) : ∀ i, i ≤ l.length →
    ev 15401 [c0, c1, c2, c3, c4, c5, c6, c7, .int l.length, .int i, d10, d11, d12, d13, d14, d15, d16, d17, d18, d19, d20, d21, d22, d23, d24, d25, d26, d27, d28, prsD l, prsD m] = some [.bool true] := by
  refine down ?_ fun i hi ih => ?_
  · refine ev_by u15401 ?_
    simp only [t15401, go_sem, ltI_irr]
  · have hin : (leI 0 i && ltI i l.length) = true := by rw [and_iff, leI_iff, ltI_iff]; omega
    have hh := h _ (getD_mem hi)
    have hc : hasP m ((l.getD i default).2, (l.getD i default).1) = true := hasP_iff.2 hh
    refine ev_by u15401 ?_
    simp only [t15401, go_sem, List.length_map, idx_map _ _ _ hi, hin, e6700 m (by omega), hc, wrapS i (by omega), ih]
    rw [cond_lt (by omega)]
theorem e15400 (dn : List (Int × Int)) (hdn : Len dn.length) (hbn : ∀ x, x ∈ dn → B8 x.1 ∧ B8 x.2) (de : List (Int × Int × Int)) (hd : Len de.length) (hb : ∀ x, x ∈ de → B8 x.1 ∧ B8 x.2.1 ∧ B8 x.2.2) : ev 15400 [u8D dn, trsD de] = some [.bool true] := by
  obtain ⟨gn, ge, vs, l8, H, l10, hm⟩ := e15500 dn hdn hbn de hd hb
  have h0 := H.valid
  have h0' := H.valid'
  obtain ⟨_, _, V⟩ := validErr_ok h0
  have hf := H.few
  have hsw := e10900 (sn := exSn) (se := exSe) exOk
  rw [show swapRes exNs exEs exSn exSe = [intsD (turn exSn), intsD (turn exSe), .int 0] from if_pos exSorts] at hsw
  have s1 := e13300 exOk hf 1 (sn := exSn) (se := exSe)
  have s2 := e13300 exOk hf 3 (sn := turn exSn) (se := turn exSe)
  have r1 : sideRes exNs exEs exSn exSe gn ge vs 1 = [intsD (takeV (partV exSn gn 1) gn), gesD (takeE (partV exSn gn 1) (partE exSe ge 1) ge), valsD (takeL (partV exSn gn 1) vs), intsD (partV exSn gn 1), intsD (partE exSe ge 1), .int 0] := by
    unfold sideRes
    rw [if_pos h0, if_pos (.inl rfl)]
  have r2 : sideRes exNs exEs (turn exSn) (turn exSe) gn ge vs 3 = [intsD (takeV (partV exSn gn 1) gn), gesD (takeE (partV exSn gn 1) (partE exSe ge 1) ge), valsD (takeL (partV exSn gn 1) vs), intsD (partV exSn gn 1), intsD (partE exSe ge 1), .int 0] := by
    unfold sideRes
    rw [if_pos h0', if_pos (.inr rfl), show (3 : Int) = 4 - 1 by decide, partV_turn V.nk, partE_turn (fun j hj => ⟨(V.ek j hj).1, (V.ek j hj).2.1⟩)]
  rw [r1] at s1
  rw [r2] at s2
  obtain ⟨l, pl, hl⟩ := e400s exOk hf h0 l8
  obtain ⟨m, pm, hm'⟩ := e400s exOk hf h0' l8
  have P := part_ok h0 (.inl rfl : (1 : Int) = 1 ∨ (1 : Int) = 3)
  have q1 := P.ln
  have q2 := P.le
  have q3 := V.lv
  have hlen : l.length = m.length := by rw [pl.length_eq, pm.length_eq, linkSet_turn_len V]
  have h12 := few_links V l8
  have hlk : ∀ p, p ∈ l → flip p ∈ m := fun p hp => pm.mem_iff.2 ((linkSet_turn V).2 (pl.mem_iff.1 hp))
  have h00 : eqI 0 0 = true := by decide
  have hll : eqI (l.length : Int) (m.length : Int) = true := by rw [eqI_iff]; omega
  have hsame := e12900 (takeV (partV exSn gn 1) gn) (takeE (partV exSn gn 1) (partE exSe ge 1) ge) (takeL (partV exSn gn 1) vs) (by simp [Len, takeV]; omega) (by simp [Len, takeE]; omega) (by simp [Len, takeL]; omega) (fun x hx => by
    obtain ⟨k, hk, rfl⟩ := List.mem_map.1 hx
    obtain ⟨k1, k2⟩ := P.rn k hk
    have := hf.2.2.2 k.toNat (by omega)
    unfold Len
    omega)
  have h73 := e15300 (partV exSn gn 1) (partE exSe ge 1) (by unfold Len; omega) (by unfold Len; omega)
  have hlast := e15401 l m (by rw [pl.length_eq]; omega) (by rw [← hlen, pl.length_eq]; omega) hlk
  refine ev_by u15400 ?_
  simp only [t15400, go_sem, awake_ok, e200, hm, hsw, s1, s2, hl, hm', h00, hsame, h73, List.length_map, hll]
  exact hlast _ _ _ _ _ _ _ _ _ _ _ _ _ _ _ _ _ _ _ _ _ _ _ _ _ _ _ 0 (by omega)

/-! ### Descriptions as they come -/
theorem ti61 : env.ti 61 = .sl 102 true [.int .u8, .int .u8] := by kernel_rfl
theorem ti62 : env.ti 62 = .sl 108 true [.int .u8, .int .u8, .int .u8] := by kernel_rfl
theorem wf_u8 {n : Int} (h : (Lit.int .u8 n).wf = true) : B8 n := by
  simp [Lit.wf, IntKind.min, IntKind.max, IntKind.signed, IntKind.bits] at h
  exact h
theorem dec_u8s {d : D} (h : WK env.ti (.sl 61) d) : ∃ l : List (Int × Int), d = u8D l ∧ Len l.length ∧ ∀ x, x ∈ l → B8 x.1 ∧ B8 x.2 :=
  dec_list ti61 h (f := Pr.d) (p := fun x => B8 x.1 ∧ B8 x.2) fun x hs hc => by
    obtain ⟨l, rfl, hl⟩ := hs rfl
    match l, hl with
    | [a, b], _ =>
      obtain ⟨n1, e1, w1⟩ := dec_int (hc 0 _ rfl)
      obtain ⟨n2, e2, w2⟩ := dec_int (hc 1 _ rfl)
      have e1' : a = .int n1 := e1
      have e2' : b = .int n2 := e2
      exact ⟨(n1, n2), by rw [e1', e2'], wf_u8 w1, wf_u8 w2⟩
theorem dec_trs {d : D} (h : WK env.ti (.sl 62) d) : ∃ l : List (Int × Int × Int), d = trsD l ∧ Len l.length ∧ ∀ x, x ∈ l → B8 x.1 ∧ B8 x.2.1 ∧ B8 x.2.2 :=
  dec_list ti62 h (f := Tr.d) (p := fun x => B8 x.1 ∧ B8 x.2.1 ∧ B8 x.2.2) fun x hs hc => by
    obtain ⟨l, rfl, hl⟩ := hs rfl
    match l, hl with
    | [a, b, c], _ =>
      obtain ⟨n1, e1, w1⟩ := dec_int (hc 0 _ rfl)
      obtain ⟨n2, e2, w2⟩ := dec_int (hc 1 _ rfl)
      obtain ⟨n3, e3, w3⟩ := dec_int (hc 2 _ rfl)
      have e1' : a = .int n1 := e1
      have e2' : b = .int n2 := e2
      have e3' : c = .int n3 := e3
      exact ⟨(n1, n2, n3), by rw [e1', e2', e3'], wf_u8 w1, wf_u8 w2, wf_u8 w3⟩
theorem kinds64 : [64].flatMap (kindsOf env.ti) = [.sl 61, .sl 62] := by kernel_rfl
theorem tripleTurned_pure (ν : List D) (h : All2 (WK env.ti) ([64].flatMap (kindsOf env.ti)) ν) : Ev tree prim (154 * 100) ν [.bool true] := by
  rw [kinds64] at h
  obtain ⟨x1, r, rfl, h1, h⟩ := all2_cons h
  obtain ⟨x2, r, rfl, h2, h⟩ := all2_cons h
  obtain rfl := all2_nil h
  obtain ⟨dn, rfl, a1, a2⟩ := dec_u8s h1
  obtain ⟨de, rfl, b1, b2⟩ := dec_trs h2
  exact (evr_iff primDet).1 (e15400 dn a1 a2 de b1 b2)
end Go.SX.T52
