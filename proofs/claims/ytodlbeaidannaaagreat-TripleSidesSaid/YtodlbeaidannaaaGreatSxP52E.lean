/-
Chapter 52, plain: small inputs, sorts, sorts exchanged.
-/
import Derived.Test.YtodlbeaidannaaaGreatSxP52D
set_option linter.unusedVariables false
set_option linter.unusedSimpArgs false
set_option linter.unusedSectionVars false
namespace Go.SX.T52
open Go.SX

/-! ### Small inputs -/
structure Ge where
  ty : Int
  src : Int
  dst : Int
  deriving Inhabited
abbrev intsD (l : List Int) : D := .list (l.map D.int)
abbrev Ge.d (e : Ge) : D := .agg [.int e.ty, .int e.src, .int e.dst]
abbrev gesD (l : List Ge) : D := .list (l.map Ge.d)
abbrev valsD (l : List (List Int)) : D := .list (l.map intsD)
/-- As long as lists come. -/
abbrev Len (n : Nat) : Prop := n ≤ 1152921504606846976
def Q (l : Nat) (ds : List D) (p : Prop) : Prop := ∃ b : Bool, ev l ds = some [.bool b] ∧ (b = true → p)
theorem Q.no {l : Nat} {ds : List D} {p : Prop} (h : ev l ds = some [.bool false]) : Q l ds p := ⟨false, h, fun h => by cases h⟩
theorem Q.imp {l l' : Nat} {ds ds' : List D} {p q : Prop} (h : Q l ds p) (he : ev l' ds' = ev l ds) (hi : p → q) : Q l' ds' q := by
  obtain ⟨b, h1, h2⟩ := h
  exact ⟨b, he.trans h1, fun hb => hi (h2 hb)⟩
def FewS (l : List ByteArray) (i : Nat) : Prop := ∀ j, i ≤ j → j < l.length → (l.getD j default).size ≤ 40
def FewA (a : At) : Prop := a.name.size ≤ 40 ∧ a.names.length ≤ 25 ∧ FewS a.names 0
def FewN (n : Nd) : Prop := n.name.size ≤ 40 ∧ n.attrs.length ≤ 30 ∧ ∀ k, k < n.attrs.length → FewA (n.attrs.getD k default)
def LenA (a : At) : Prop := Len a.name.size ∧ Len a.names.length ∧ ∀ s, s ∈ a.names → Len s.size
def LenN (n : Nd) : Prop := Len n.name.size ∧ Len n.attrs.length ∧ ∀ a, a ∈ n.attrs → LenA a
def LenT (ns : List Nd) (es : List Ed) : Prop := Len ns.length ∧ Len es.length ∧ (∀ n, n ∈ ns → LenN n) ∧ ∀ e, e ∈ es → Len e.name.size
theorem e7207 {es : List Ed} (hl : Len es.length) (a b c d : D) : ∀ i, i ≤ es.length → Q 7207 [a, edsD es, b, c, d, .int i] (∀ j, i ≤ j → j < es.length → (es.getD j default).name.size ≤ 40) := by
  refine down ?_ fun i hi ih => ?_
  · refine ⟨true, ?_, fun _ j h1 h2 => by omega⟩
    refine ev_by u7207 ?_
    simp only [t7207, go_sem, List.length_map, ltI_irr]
  · have hin : (leI 0 i && ltI i es.length) = true := by rw [and_iff, leI_iff, ltI_iff]; omega
    by_cases h : (es.getD i default).name.size ≤ 40
    · refine ih.imp ?_ fun hp j h1 h2 => ?_
      · rw [ev_eq u7207 rfl]
        simp only [t7207, go_sem, List.length_map, idx_map _ _ _ hi, hin, wrapS i (by omega)]
        rw [cond_lt (by omega), cond_nlt (by omega)]
      · by_cases hji : j = i
        · rw [hji]; exact h
        · exact hp j (by omega) h2
    · refine Q.no ?_
      refine ev_by u7207 ?_
      simp only [t7207, go_sem, List.length_map, idx_map _ _ _ hi, hin]
      rw [cond_lt (by omega), cond_lt (by omega)]
theorem e7205 {l : List ByteArray} (hl : Len l.length) {a b c d e g h i : D} {P : Prop} (k : Nat) (hk : k ≤ 4611686018427387904) (K : Q 7203 [a, b, c, d, e, .int (k + 1 : Nat)] P) : ∀ j, j ≤ l.length → Q 7205 [a, b, c, d, e, .int k, .int j, g, h, i, strsD l] (P ∧ FewS l j) := by
  refine down ?_ fun j hj ih => ?_
  · refine K.imp ?_ fun hp => ⟨hp, fun q h1 h2 => by omega⟩
    rw [ev_eq u7205 rfl]
    simp only [t7205, go_sem, List.length_map, ltI_irr, wrapS k hk]
  · have hin : (leI 0 j && ltI j l.length) = true := by rw [and_iff, leI_iff, ltI_iff]; omega
    by_cases hs : (l.getD j default).size ≤ 40
    · refine ih.imp ?_ fun hp => ⟨hp.1, fun q h1 h2 => ?_⟩
      · rw [ev_eq u7205 rfl]
        simp only [t7205, go_sem, List.length_map, idx_map _ _ _ hj, hin, wrapS j (by omega)]
        rw [cond_lt (by omega), cond_nlt (by omega)]
      · by_cases hji : q = j
        · rw [hji]; exact hs
        · exact hp.2 q (by omega) h2
    · refine Q.no ?_
      refine ev_by u7205 ?_
      simp only [t7205, go_sem, List.length_map, idx_map _ _ _ hj, hin]
      rw [cond_lt (by omega), cond_lt (by omega)]
theorem e7203 {ns : List Nd} (hl : Len ns.length) (hn : ∀ n, n ∈ ns → LenN n) {es : List Ed} {b : D} (sum : Int) {i : Nat} (hi : i < ns.length) {P : Prop} (K : Q 7201 [ndsD ns, edsD es, b, .int sum, .int (i + 1 : Nat)] P) :
    ∀ k, k ≤ (ns.getD i default).attrs.length → Q 7203 [ndsD ns, edsD es, b, .int sum, .int i, .int k] (P ∧ ∀ q, k ≤ q → q < (ns.getD i default).attrs.length → FewA ((ns.getD i default).attrs.getD q default)) := by
  have ho := hn _ (getD_mem hi)
  have hal := ho.2.1
  have hin : (leI 0 i && ltI i ns.length) = true := by rw [and_iff, leI_iff, ltI_iff]; omega
  refine down ?_ fun k hk ih => ?_
  · refine K.imp ?_ fun hp => ⟨hp, fun q h1 h2 => by omega⟩
    rw [ev_eq u7203 rfl]
    simp only [t7203, go_sem, List.length_map, idx_map _ _ _ hi, hin, ltI_irr, wrapS i (by omega)]
  · have hkn : (leI 0 k && ltI k (ns.getD i default).attrs.length) = true := by rw [and_iff, leI_iff, ltI_iff]; omega
    have ha := ho.2.2 _ (getD_mem hk)
    by_cases h1 : ((ns.getD i default).attrs.getD k default).name.size ≤ 40
    · by_cases h2 : ((ns.getD i default).attrs.getD k default).names.length ≤ 25
      · refine (e7205 ha.2.1 (g := .str ((ns.getD i default).attrs.getD k default).name) (h := .int ((ns.getD i default).attrs.getD k default).low) (i := .int ((ns.getD i default).attrs.getD k default).high) k (by omega) ih 0 (by omega)).imp ?_ fun hp => ⟨hp.1.1, fun q g1 g2 => ?_⟩
        · rw [ev_eq u7203 rfl]
          simp only [t7203, go_sem, List.length_map, idx_map _ _ _ hi, idx_map _ _ _ hk, hin, hkn]
          rw [cond_lt (by omega), cond_nlt (by omega), cond_nlt (by omega)]
          rfl
        · by_cases hqk : q = k
          · rw [hqk]; exact ⟨h1, h2, hp.2⟩
          · exact hp.1.2 q (by omega) g2
      · refine Q.no ?_
        refine ev_by u7203 ?_
        simp only [t7203, go_sem, List.length_map, idx_map _ _ _ hi, idx_map _ _ _ hk, hin, hkn]
        rw [cond_lt (by omega), cond_nlt (by omega), cond_lt (by omega)]
    · refine Q.no ?_
      refine ev_by u7203 ?_
      simp only [t7203, go_sem, List.length_map, idx_map _ _ _ hi, idx_map _ _ _ hk, hin, hkn]
      rw [cond_lt (by omega), cond_lt (by omega)]
theorem e7201 {ns : List Nd} {es : List Ed} (ht : LenT ns es) {b : D} : ∀ i, i ≤ ns.length → ∀ sum : Int, 0 ≤ sum → sum ≤ 30 → Q 7201 [ndsD ns, edsD es, b, .int sum, .int i] ((∀ j, i ≤ j → j < ns.length → FewN (ns.getD j default)) ∧ ∀ j, j < es.length → (es.getD j default).name.size ≤ 40) := by
  have hl := ht.1
  refine down ?_ fun i hi ih => ?_
  · intro sum h0 h1
    refine (e7207 ht.2.1 (ndsD ns) b (.int sum) (.int ns.length) 0 (by omega)).imp ?_ fun hp => ⟨fun j g1 g2 => by omega, fun j hj => hp j (by omega) hj⟩
    rw [ev_eq u7201 rfl]
    simp only [t7201, go_sem, List.length_map, ltI_irr]
    rfl
  · intro sum h0 h1
    have ho := ht.2.2.1 _ (getD_mem hi)
    have hal := ho.2.1
    have hin : (leI 0 i && ltI i ns.length) = true := by rw [and_iff, leI_iff, ltI_iff]; omega
    by_cases h2 : sum + (ns.getD i default).attrs.length ≤ 30
    · by_cases h3 : (ns.getD i default).name.size ≤ 40
      · refine (e7203 hl ht.2.2.1 (sum + (ns.getD i default).attrs.length) hi (ih (sum + (ns.getD i default).attrs.length) (by omega) h2) 0 (by omega)).imp ?_ fun hp => ⟨fun j g1 g2 => ?_, hp.1.2⟩
        · rw [ev_eq u7201 rfl]
          simp only [t7201, go_sem, List.length_map, idx_map _ _ _ hi, hin, nowrap (n := sum + (ns.getD i default).attrs.length) (by omega) (by omega)]
          rw [cond_lt (by omega), cond_nlt (by omega), cond_nlt (by omega)]
          rfl
        · by_cases hji : j = i
          · rw [hji]; exact ⟨h3, by omega, fun k hk => hp.2 k (by omega) hk⟩
          · exact hp.1.1 j (by omega) g2
      · refine Q.no ?_
        refine ev_by u7201 ?_
        simp only [t7201, go_sem, List.length_map, idx_map _ _ _ hi, hin, nowrap (n := sum + (ns.getD i default).attrs.length) (by omega) (by omega)]
        rw [cond_lt (by omega), cond_nlt (by omega), cond_lt (by omega)]
    · refine Q.no ?_
      refine ev_by u7201 ?_
      simp only [t7201, go_sem, List.length_map, idx_map _ _ _ hi, hin, nowrap (n := sum + (ns.getD i default).attrs.length) (by omega) (by omega)]
      rw [cond_lt (by omega), cond_lt (by omega)]
theorem mem_getD {α : Type} [Inhabited α] {l : List α} {x : α} (h : x ∈ l) : ∃ i, i < l.length ∧ l.getD i default = x := by
  obtain ⟨i, hi, rfl⟩ := List.getElem_of_mem h
  exact ⟨i, hi, by rw [List.getD_eq_getElem?_getD, List.getElem?_eq_getElem hi]; rfl⟩
theorem FewN.ok {n : Nd} (h : FewN n) : OkN n := by
  refine ⟨by have := h.1; unfold Short; omega, by have := h.2.1; omega, fun a ha => ?_⟩
  obtain ⟨k, hk, rfl⟩ := mem_getD ha
  obtain ⟨g1, g2, g3⟩ := h.2.2 k hk
  refine ⟨by unfold Short; omega, by omega, fun s hs => ?_⟩
  obtain ⟨j, hj, rfl⟩ := mem_getD hs
  have := g3 j (by omega) hj
  unfold Short
  omega
theorem e7200 {ns : List Nd} {es : List Ed} (ht : LenT ns es) : Q 7200 [ndsD ns, edsD es] (ns.length ≤ 20 ∧ es.length ≤ 30 ∧ OkT ns es) := by
  by_cases h1 : ns.length ≤ 20
  · by_cases h2 : es.length ≤ 30
    · refine (e7201 ht (b := .bool false) 0 (by omega) 0 (by omega) (by omega)).imp ?_ fun hp => ⟨h1, h2, by omega, by omega, fun n hn => ?_, fun e he => ?_⟩
      · rw [ev_eq u7200 rfl]
        simp only [t7200, go_sem, List.length_map]
        rw [cond_nlt (by omega), cond_nlt (by omega)]
        rfl
      · obtain ⟨k, hk, rfl⟩ := mem_getD hn
        exact (hp.1 k (by omega) hk).ok
      · obtain ⟨k, hk, rfl⟩ := mem_getD he
        have := hp.2 k hk
        unfold Short
        omega
    · refine Q.no ?_
      refine ev_by u7200 ?_
      simp only [t7200, go_sem, List.length_map]
      rw [cond_nlt (by omega), cond_lt (by omega)]
  · refine Q.no ?_
    refine ev_by u7200 ?_
    simp only [t7200, go_sem, List.length_map]
    rw [cond_lt (by omega)]
theorem e7300 {a b : List Int} (ha : Len a.length) (hb : Len b.length) : Q 7300 [intsD a, intsD b] (a.length + b.length ≤ 50) := by
  refine ⟨leI ((a.length : Int) + b.length) 50, ?_, fun h => by rw [leI_iff] at h; omega⟩
  refine ev_by u7300 ?_
  simp only [t7300, go_sem, List.length_map, nowrap (n := (a.length : Int) + b.length) (by omega) (by omega)]
theorem e7500 (a : List Int) (b : List Ge) : Q 7500 [intsD a, gesD b] (a.length ≤ 45 ∧ b.length ≤ 90) := by
  refine ⟨leI a.length 45 && leI b.length 90, ?_, fun h => by rw [and_iff, leI_iff, leI_iff] at h; omega⟩
  refine ev_by u7500 ?_
  simp only [t7500, go_sem, List.length_map]
  cases leI a.length 45 <;> rfl
theorem e7401 {vs : List (List Int)} (hl : Len vs.length) (a b c : D) : ∀ i, i ≤ vs.length → Q 7401 [a, b, valsD vs, c, .int i] (∀ j, i ≤ j → j < vs.length → (vs.getD j default).length ≤ 12) := by
  refine down ?_ fun i hi ih => ?_
  · refine ⟨true, ?_, fun _ j h1 h2 => by omega⟩
    refine ev_by u7401 ?_
    simp only [t7401, go_sem, List.length_map, ltI_irr]
  · have hin : (leI 0 i && ltI i vs.length) = true := by rw [and_iff, leI_iff, ltI_iff]; omega
    by_cases h : (vs.getD i default).length ≤ 12
    · refine ih.imp ?_ fun hp j h1 h2 => ?_
      · rw [ev_eq u7401 rfl]
        simp only [t7401, go_sem, List.length_map, idx_map _ _ _ hi, hin, wrapS i (by omega)]
        rw [cond_lt (by omega), cond_nlt (by omega)]
      · by_cases hji : j = i
        · rw [hji]; exact h
        · exact hp j (by omega) h2
    · refine Q.no ?_
      refine ev_by u7401 ?_
      simp only [t7401, go_sem, List.length_map, idx_map _ _ _ hi, hin]
      rw [cond_lt (by omega), cond_lt (by omega)]
def FewH (gn : List Int) (ge : List Ge) (vs : List (List Int)) : Prop := gn.length ≤ 45 ∧ ge.length ≤ 90 ∧ vs.length ≤ 45 ∧ ∀ j, j < vs.length → (vs.getD j default).length ≤ 12
theorem e7400 {gn : List Int} {ge : List Ge} {vs : List (List Int)} (hv : Len vs.length) : Q 7400 [intsD gn, gesD ge, valsD vs] (FewH gn ge vs) := by
  obtain ⟨b, h1, h2⟩ := e7500 gn ge
  cases b
  · refine Q.no ?_
    refine ev_by u7400 ?_
    simp only [t7400, go_sem, h1]
  · obtain ⟨g1, g2⟩ := h2 rfl
    by_cases h3 : vs.length ≤ 45
    · refine (e7401 hv (intsD gn) (gesD ge) (.bool false) 0 (by omega)).imp ?_ fun hp => ⟨g1, g2, h3, fun j hj => hp j (by omega) hj⟩
      rw [ev_eq u7400 rfl]
      simp only [t7400, go_sem, h1, List.length_map]
      rw [cond_nlt (by omega)]
      rfl
    · refine Q.no ?_
      refine ev_by u7400 ?_
      simp only [t7400, go_sem, h1, List.length_map]
      rw [cond_lt (by omega)]
theorem e7100 {ns : List Nd} {es : List Ed} (ht : LenT ns es) {sn se : List Int} (hsn : Len sn.length) (hse : Len se.length) {gn : List Int} {ge : List Ge} {vs : List (List Int)} (hv : Len vs.length) :
    Q 7100 [ndsD ns, edsD es, intsD sn, intsD se, intsD gn, gesD ge, valsD vs] (ns.length ≤ 20 ∧ es.length ≤ 30 ∧ OkT ns es ∧ sn.length + se.length ≤ 50 ∧ FewH gn ge vs) := by
  obtain ⟨b1, h1, p1⟩ := e7200 ht
  obtain ⟨b2, h2, p2⟩ := e7300 hsn hse
  obtain ⟨b3, h3, p3⟩ := e7400 (gn := gn) (ge := ge) hv
  refine ⟨b1 && (b2 && b3), ?_, fun h => ?_⟩
  · refine ev_by u7100 ?_
    simp only [t7100, go_sem, h1, h2, h3]
    cases b1 <;> cases b2 <;> cases b3 <;> rfl
  · simp only [Bool.and_eq_true] at h
    obtain ⟨q1, q2, q3⟩ := p1 h.1
    exact ⟨q1, q2, q3, p2 h.2.1, p3 h.2.2⟩

/-! ### Sorts -/
def sortB (n : Int) : Bool := leI 1 n && leI n 3
def nodeSort (ns : List Nd) (sn : List Int) (i : Nat) : Int := bif sortB (sn.getD i default) then (bif leI 0 (ns.getD i default).parent then (bif eqI (sn.getD (ns.getD i default).parent.toNat default) (sn.getD i default) then 0 else 13) else 0) else 6
def edgeSort (es : List Ed) (sn se : List Int) (i : Nat) : Int := bif sortB (se.getD i default) then
    (bif eqI (sn.getD (es.getD i default).src.toNat default) (se.getD i default) then
      (bif eqI (sn.getD (es.getD i default).dst.toNat default) (se.getD i default) == eqI (se.getD i default) 2 then 13 else 0) else 13) else 6
def sortsErr (ns : List Nd) (es : List Ed) (sn se : List Int) : Int := thenE (typesErr ns es) (if sn.length = ns.length then (if se.length = es.length then thenE (scan (nodeSort ns sn) ns.length 0) (scan (edgeSort es sn se) es.length 0) else 20) else 20)
theorem e4100 (n : Int) : ev 4100 [.int n] = some [.bool (sortB n)] := by
  refine ev_by u4100 ?_
  simp only [t4100, go_sem, sortB]
  cases leI 1 n <;> rfl
theorem e9600 (n : Int) : ev 9600 [.int n] = some [.bool (sortB n)] := by
  refine ev_by u9600 ?_
  simp only [t9600, go_sem, sortB]
  cases leI 1 n <;> rfl
section
variable {ns : List Nd} {es : List Ed} {sn se : List Int} (ht : OkT ns es) (hv : typesErr ns es = 0) (h1 : sn.length = ns.length) (h2 : se.length = es.length)
include ht hv h1 h2
theorem e4200 {i : Nat} (hi : i < es.length) : ev 4200 [ndsD ns, edsD es, intsD sn, intsD se, .int i] = some [.int (edgeSort es sn se i)] := by
  have hl := ht.2.1
  obtain ⟨hlt, _, _, hnv, hev⟩ := typesErr_ok hv
  obtain ⟨r1, r2, r3, r4⟩ := edgeErr_in (hev i hi)
  have hin : (leI 0 i && ltI i es.length) = true := by rw [and_iff, leI_iff, ltI_iff]; omega
  have hf : (leI 0 (es.getD i default).src && ltI (es.getD i default).src ns.length) = true := by rw [and_iff, leI_iff, ltI_iff]; omega
  have hg : (leI 0 (es.getD i default).dst && ltI (es.getD i default).dst ns.length) = true := by rw [and_iff, leI_iff, ltI_iff]; omega
  refine ev_by u4200 ?_
  simp only [t4200, go_sem, List.length_map, h1, h2, idx_map _ _ _ hi, idx_map _ se i (by omega), hin, e4100, hf, hg, idx_map _ sn (es.getD i default).src.toNat (by omega), idx_map _ sn (es.getD i default).dst.toNat (by omega)]
  unfold edgeSort
  cases sortB (se.getD i default)
  · rfl
  · cases eqI (sn.getD (es.getD i default).src.toNat default) (se.getD i default)
    · rfl
    · cases eqI (sn.getD (es.getD i default).dst.toNat default) (se.getD i default) <;> cases eqI (se.getD i default) 2 <;> rfl
theorem e603 (a b c d e f g h : D) : ∀ i, i ≤ es.length → ev 603 [a, b, c, d, e, f, g, h, .int se.length, .int i, ndsD ns, edsD es, intsD sn, intsD se] = some [.int (scan (edgeSort es sn se) (es.length - i) i)] := by
  have hl := ht.2.1
  refine down ?_ fun i hi ih => ?_
  · refine ev_by u603 ?_
    simp only [t603, go_sem, h2, scan_end, ltI_irr]
  · rw [h2] at ih ⊢
    refine ev_by u603 ?_
    simp only [t603, go_sem, e4200 ht hv h1 h2 hi, wrapS i (by omega), ih]
    rw [scan_step _ hi, cond_lt (by omega)]
    by_cases h0 : edgeSort es sn se i = 0
    · rw [cond_eq h0, if_pos h0]
    · rw [cond_ne h0, if_neg h0]
theorem e601 (a b : D) : ∀ i, i ≤ ns.length → ev 601 [ndsD ns, edsD es, intsD sn, intsD se, a, b, .int sn.length, .int i] = some [.int (thenE (scan (nodeSort ns sn) (ns.length - i) i) (scan (edgeSort es sn se) es.length 0))] := by
  have hl := ht.1
  obtain ⟨hlt, _, _, hnv, hev⟩ := typesErr_ok hv
  refine down ?_ fun i hi ih => ?_
  · rw [h1, scan_end]
    refine ev_by u601 ?_
    simp only [t601, go_sem, ltI_irr, List.length_map]
    exact e603 ht hv h1 h2 _ _ _ _ _ _ _ _ 0 (by omega)
  · rw [h1] at ih ⊢
    have hin : (leI 0 i && ltI i ns.length) = true := by rw [and_iff, leI_iff, ltI_iff]; omega
    obtain ⟨p1, p2⟩ := nodeErr_parent (hnv i hi)
    rw [scan_step _ hi]
    have hns : nodeSort ns sn i = bif sortB (sn.getD i default) then (bif leI 0 (ns.getD i default).parent then (bif eqI (sn.getD (ns.getD i default).parent.toNat default) (sn.getD i default) then 0 else 13) else 0) else 6 := rfl
    refine ev_by u601 ?_
    simp only [t601, go_sem, List.length_map, h1, idx_map _ _ _ hi, idx_map _ sn i (by omega), hin, e4100, wrapS i (by omega), ih]
    rw [cond_lt (by omega), hns]
    cases sortB (sn.getD i default)
    · rfl
    · cases hp : leI 0 (ns.getD i default).parent
      · rfl
      · rw [leI_iff] at hp
        have hpn : ltI (ns.getD i default).parent ns.length = true := by rw [ltI_iff]; omega
        simp only [go_sem, hpn, Bool.true_and, idx_map _ sn (ns.getD i default).parent.toNat (by omega)]
        cases eqI (sn.getD (ns.getD i default).parent.toNat default) (sn.getD i default) <;> rfl
theorem e7803 (a b c d e : D) : ∀ i, i ≤ es.length → ev 7803 [ndsD ns, edsD es, a, b, c, d, e, .int i, intsD sn, intsD se] = some [.int (scan (edgeSort es sn se) (es.length - i) i)] := by
  have hl := ht.2.1
  obtain ⟨hlt, _, _, hnv, hev⟩ := typesErr_ok hv
  refine down ?_ fun i hi ih => ?_
  · refine ev_by u7803 ?_
    simp only [t7803, go_sem, List.length_map, scan_end, ltI_irr]
  · obtain ⟨r1, r2, r3, r4⟩ := edgeErr_in (hev i hi)
    have hin : (leI 0 i && ltI i es.length) = true := by rw [and_iff, leI_iff, ltI_iff]; omega
    have hf : (leI 0 (es.getD i default).src && ltI (es.getD i default).src ns.length) = true := by rw [and_iff, leI_iff, ltI_iff]; omega
    have hg : (leI 0 (es.getD i default).dst && ltI (es.getD i default).dst ns.length) = true := by rw [and_iff, leI_iff, ltI_iff]; omega
    refine ev_by u7803 ?_
    simp only [t7803, go_sem, List.length_map, h1, h2, idx_map _ _ _ hi, idx_map _ se i (by omega), hin, e9600, hf, hg, idx_map _ sn (es.getD i default).src.toNat (by omega), idx_map _ sn (es.getD i default).dst.toNat (by omega), wrapS i (by omega), ih]
    have hes : edgeSort es sn se i = bif sortB (se.getD i default) then
      (bif eqI (sn.getD (es.getD i default).src.toNat default) (se.getD i default) then
        (bif eqI (sn.getD (es.getD i default).dst.toNat default) (se.getD i default) == eqI (se.getD i default) 2 then 13 else 0) else 13) else 6 := rfl
    rw [scan_step _ hi, cond_lt (by omega), hes]
    cases sortB (se.getD i default)
    · rfl
    · cases eqI (sn.getD (es.getD i default).src.toNat default) (se.getD i default)
      · rfl
      · cases hq : eqI (se.getD i default) 2
        · cases eqI (sn.getD (es.getD i default).dst.toNat default) (se.getD i default) <;> rfl
        · rw [eqI_iff] at hq
          rw [hq]
          cases eqI (sn.getD (es.getD i default).dst.toNat default) 2 <;> rfl
theorem e7801 (a b c d : D) : ∀ i, i ≤ ns.length → ev 7801 [ndsD ns, edsD es, a, b, c, d, .int i, intsD sn, intsD se] = some [.int (thenE (scan (nodeSort ns sn) (ns.length - i) i) (scan (edgeSort es sn se) es.length 0))] := by
  have hl := ht.1
  obtain ⟨hlt, _, _, hnv, hev⟩ := typesErr_ok hv
  refine down ?_ fun i hi ih => ?_
  · rw [scan_end]
    refine ev_by u7801 ?_
    simp only [t7801, go_sem, ltI_irr, List.length_map]
    exact e7803 ht hv h1 h2 _ _ _ _ _ 0 (by omega)
  · have hin : (leI 0 i && ltI i ns.length) = true := by rw [and_iff, leI_iff, ltI_iff]; omega
    obtain ⟨p1, p2⟩ := nodeErr_parent (hnv i hi)
    rw [scan_step _ hi]
    have hns : nodeSort ns sn i = bif sortB (sn.getD i default) then (bif leI 0 (ns.getD i default).parent then (bif eqI (sn.getD (ns.getD i default).parent.toNat default) (sn.getD i default) then 0 else 13) else 0) else 6 := rfl
    refine ev_by u7801 ?_
    simp only [t7801, go_sem, List.length_map, h1, idx_map _ _ _ hi, idx_map _ sn i (by omega), hin, e9600, wrapS i (by omega), ih]
    rw [cond_lt (by omega), hns]
    cases sortB (sn.getD i default)
    · rfl
    · cases hp : leI 0 (ns.getD i default).parent
      · rfl
      · rw [leI_iff] at hp
        have hpn : ltI (ns.getD i default).parent ns.length = true := by rw [ltI_iff]; omega
        simp only [go_sem, hpn, Bool.true_and, idx_map _ sn (ns.getD i default).parent.toNat (by omega)]
        cases eqI (sn.getD (ns.getD i default).parent.toNat default) (sn.getD i default) <;> rfl
end
theorem e600 {ns : List Nd} {es : List Ed} {sn se : List Int} (ht : OkT ns es) : ev 600 [ndsD ns, edsD es, intsD sn, intsD se] = some [.int (sortsErr ns es sn se)] := by
  obtain ⟨s, h⟩ := e700 ht
  refine ev_by u600 ?_
  simp only [t600, go_sem, h, List.length_map]
  unfold sortsErr
  by_cases hv : typesErr ns es = 0
  · rw [cond_eq hv]
    unfold thenE
    rw [if_pos hv]
    by_cases h1 : sn.length = ns.length
    · rw [cond_eq (by omega), if_pos h1]
      by_cases h2 : se.length = es.length
      · rw [cond_eq (by omega), if_pos h2]
        exact e601 ht hv h1 h2 _ _ 0 (by omega)
      · rw [cond_ne (by omega), if_neg h2]
    · rw [cond_ne (by omega), if_neg h1]
  · rw [cond_ne hv]
    unfold thenE
    rw [if_neg hv]
theorem e7800 {ns : List Nd} {es : List Ed} {sn se : List Int} (ht : OkT ns es) : ev 7800 [ndsD ns, edsD es, intsD sn, intsD se] = some [.int (sortsErr ns es sn se)] := by
  obtain ⟨s, h⟩ := e7900 ht
  refine ev_by u7800 ?_
  simp only [t7800, go_sem, h, List.length_map]
  unfold sortsErr
  by_cases hv : typesErr ns es = 0
  · rw [cond_eq hv]
    unfold thenE
    rw [if_pos hv]
    by_cases h1 : sn.length = ns.length
    · rw [cond_eq (by omega), if_pos h1]
      by_cases h2 : se.length = es.length
      · rw [cond_eq (by omega), if_pos h2]
        exact e7801 ht hv h1 h2 _ _ _ _ 0 (by omega)
      · rw [cond_ne (by omega), if_neg h2]
    · rw [cond_ne (by omega), if_neg h1]
  · rw [cond_ne hv]
    unfold thenE
    rw [if_neg hv]
end Go.SX.T52
