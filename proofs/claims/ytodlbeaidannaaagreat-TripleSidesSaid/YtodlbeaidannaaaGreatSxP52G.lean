/-
Chapter 52, plain: graphs and hosts, by the program and by the specification.
-/
import Derived.Test.YtodlbeaidannaaaGreatSxP52F
set_option linter.unusedVariables false
set_option linter.unusedSimpArgs false
set_option linter.unusedSectionVars false
namespace Go.SX.T52
open Go.SX

/-! ### Graphs -/
def kindB (p : Int) : Bool := leI 0 p && leI p 99
def rightB (n : Nat) (e : Ge) : Bool := kindB e.ty && (inB n e.src && inB n e.dst)
def graphErr (gn : List Int) (ge : List Ge) : Int := if 40 < gn.length then 3 else if 80 < ge.length then 3 else
  bif anyK (fun j => !kindB (gn.getD j default)) gn.length 0 then 6 else bif anyK (fun j => !rightB gn.length (ge.getD j default)) ge.length 0 then 6 else 0
theorem e4700 (p : Int) : ev 4700 [.int p] = some [.bool (!kindB p)] := by
  have h : ev 4800 [.int p, .int 99] = some [.bool (kindB p)] := by
    refine ev_by u4800 ?_
    simp only [t4800, go_sem, kindB]
    cases leI 0 p <;> rfl
  refine ev_by u4700 ?_
  simp only [t4700, go_sem, h]
theorem e4601 (l : List Int) (hl : l.length ≤ 1000000) (x : D) : ∀ i, i ≤ l.length → ev 4601 [intsD l, x, .int l.length, .int i] = some [.int (findK (fun j => !kindB (l.getD j default)) (l.length - i) i)] := by
  refine down ?_ fun i hi ih => ?_
  · refine ev_by u4601 ?_
    simp only [t4601, go_sem, findK_end, ltI_irr]
  · have hin : (leI 0 i && ltI i l.length) = true := by rw [and_iff, leI_iff, ltI_iff]; omega
    refine ev_by u4601 ?_
    simp only [t4601, go_sem, List.length_map, idx_map _ _ _ hi, hin, e4700, wrapS i (by omega), ih]
    rw [findK_step _ hi, cond_lt (by omega)]
    cases kindB (l.getD i default) <;> rfl
theorem e4500 (l : List Int) (hl : l.length ≤ 1000000) : ev 4500 [intsD l] = some [.bool (anyK (fun j => !kindB (l.getD j default)) l.length 0)] := by
  have h : ev 4600 [intsD l] = some [.int (findK (fun j => !kindB (l.getD j default)) l.length 0)] := by
    refine ev_by u4600 ?_
    simp only [t4600, go_sem, List.length_map]
    exact e4601 l hl _ 0 (by omega)
  refine ev_by u4500 ?_
  simp only [t4500, go_sem, h, leI_find]
theorem e4800p (p : Int) (n : Nat) : ev 4800 [.int p, .int ((n : Int) - 1)] = some [.bool (inB n p)] := by
  refine ev_by u4800 ?_
  simp only [t4800, go_sem]
  rw [← leI_pred]
  cases leI 0 p <;> rfl
theorem e5100 (e : Ge) (gn : List Int) (hl : gn.length ≤ 1000000) (x : D) : ev 5100 [.int e.ty, .int e.src, .int e.dst, intsD gn, x] = some [.bool (!rightB gn.length e)] := by
  have h0 : ev 4800 [.int e.ty, .int 99] = some [.bool (kindB e.ty)] := by
    refine ev_by u4800 ?_
    simp only [t4800, go_sem, kindB]
    cases leI 0 e.ty <;> rfl
  have h : ev 5200 [.int e.ty, .int e.src, .int e.dst, .int gn.length] = some [.bool (rightB gn.length e)] := by
    refine ev_by u5200 ?_
    simp only [t5200, go_sem, h0, nowrap (n := (gn.length : Int) - 1) (by omega) (by omega), e4800p]
    unfold rightB
    cases kindB e.ty <;> cases inB gn.length e.src <;> rfl
  refine ev_by u5100 ?_
  simp only [t5100, go_sem, List.length_map, h]
theorem e5001 (l : List Ge) (hl : l.length ≤ 1000000) (gn : List Int) (hg : gn.length ≤ 1000000) (x y : D) : ∀ i, i ≤ l.length → ev 5001 [gesD l, intsD gn, x, y, .int l.length, .int i] = some [.int (findK (fun j => !rightB gn.length (l.getD j default)) (l.length - i) i)] := by
  refine down ?_ fun i hi ih => ?_
  · refine ev_by u5001 ?_
    simp only [t5001, go_sem, findK_end, ltI_irr]
  · have hin : (leI 0 i && ltI i l.length) = true := by rw [and_iff, leI_iff, ltI_iff]; omega
    refine ev_by u5001 ?_
    simp only [t5001, go_sem, List.length_map, idx_map _ _ _ hi, hin, e5100 _ gn hg, wrapS i (by omega), ih]
    rw [findK_step _ hi, cond_lt (by omega)]
    cases rightB gn.length (l.getD i default) <;> rfl
theorem e4900 (l : List Ge) (hl : l.length ≤ 1000000) (gn : List Int) (hg : gn.length ≤ 1000000) (x : D) : ev 4900 [gesD l, intsD gn, x] = some [.bool (anyK (fun j => !rightB gn.length (l.getD j default)) l.length 0)] := by
  have h : ev 5000 [gesD l, intsD gn, x] = some [.int (findK (fun j => !rightB gn.length (l.getD j default)) l.length 0)] := by
    refine ev_by u5000 ?_
    simp only [t5000, go_sem, List.length_map]
    exact e5001 l hl gn hg _ _ 0 (by omega)
  refine ev_by u4900 ?_
  simp only [t4900, go_sem, h, leI_find]
theorem e4400 (gn : List Int) (ge : List Ge) (h1 : gn.length ≤ 1000000) (h2 : ge.length ≤ 1000000) : ev 4400 [intsD gn, gesD ge] = some [.int (graphErr gn ge)] := by
  refine ev_by u4400 ?_
  simp only [t4400, go_sem, List.length_map, e4500 gn h1, e4900 ge h2 gn h1]
  unfold graphErr
  split
  · rw [cond_lt (by omega)]
  · rw [cond_nlt (by omega)]
    split
    · rw [cond_lt (by omega)]
    · rw [cond_nlt (by omega)]
      generalize anyK _ gn.length 0 = q
      generalize anyK _ ge.length 0 = q'
      cases q <;> cases q' <;> rfl
theorem e9900 (p : Int) : ev 9900 [.int p] = some [.bool (kindB p)] := by
  refine ev_by u9900 ?_
  simp only [t9900, go_sem, kindB]
  cases leI 0 p <;> rfl
theorem e10000 (e : Ge) (n : Nat) : ev 10000 [.int e.ty, .int e.src, .int e.dst, .int n] = some [.bool (rightB n e)] := by
  refine ev_by u10000 ?_
  simp only [t10000, go_sem, e9900]
  unfold rightB inB
  cases kindB e.ty <;> cases leI 0 e.src <;> cases ltI e.src n <;> cases leI 0 e.dst <;> rfl
theorem e9803 (gn : List Int) (ge : List Ge) (h2 : ge.length ≤ 1000000) (a b c d : D) : ∀ i, i ≤ ge.length → ev 9803 [a, b, c, d, .int i, intsD gn, gesD ge] = some [.int (bif anyK (fun j => !rightB gn.length (ge.getD j default)) (ge.length - i) i then 6 else 0)] := by
  refine down ?_ fun i hi ih => ?_
  · refine ev_by u9803 ?_
    simp only [t9803, go_sem, List.length_map, anyK_end, ltI_irr]
  · have hin : (leI 0 i && ltI i ge.length) = true := by rw [and_iff, leI_iff, ltI_iff]; omega
    refine ev_by u9803 ?_
    simp only [t9803, go_sem, List.length_map, idx_map _ _ _ hi, hin, e10000, wrapS i (by omega), ih]
    rw [anyK_step _ hi, cond_lt (by omega)]
    cases rightB gn.length (ge.getD i default) <;> rfl
theorem e9801 (gn : List Int) (ge : List Ge) (h1 : gn.length ≤ 1000000) (h2 : ge.length ≤ 1000000) (a b c : D) : ∀ i, i ≤ gn.length → ev 9801 [a, b, c, .int i, intsD gn, gesD ge] = some [.int (bif anyK (fun j => !kindB (gn.getD j default)) (gn.length - i) i then 6 else bif anyK (fun j => !rightB gn.length (ge.getD j default)) ge.length 0 then 6 else 0)] := by
  refine down ?_ fun i hi ih => ?_
  · refine ev_by u9801 ?_
    simp only [t9801, go_sem, List.length_map, anyK_end, ltI_irr]
    exact e9803 gn ge h2 _ _ _ _ 0 (by omega)
  · have hin : (leI 0 i && ltI i gn.length) = true := by rw [and_iff, leI_iff, ltI_iff]; omega
    refine ev_by u9801 ?_
    simp only [t9801, go_sem, List.length_map, idx_map _ _ _ hi, hin, e9900, wrapS i (by omega), ih]
    rw [anyK_step _ hi, cond_lt (by omega)]
    cases kindB (gn.getD i default) <;> rfl
theorem e9800 (gn : List Int) (ge : List Ge) (h1 : gn.length ≤ 1000000) (h2 : ge.length ≤ 1000000) : ev 9800 [intsD gn, gesD ge] = some [.int (graphErr gn ge)] := by
  refine ev_by u9800 ?_
  simp only [t9800, go_sem, List.length_map]
  unfold graphErr
  split
  · rw [cond_lt (by omega)]
  · rw [cond_nlt (by omega)]
    split
    · rw [cond_lt (by omega)]
    · rw [cond_nlt (by omega)]
      exact e9801 gn ge h1 h2 _ _ _ 0 (by omega)
theorem anyK_false {p : Nat → Bool} : ∀ (k i : Nat), anyK p k i = false → ∀ j, i ≤ j → j < i + k → p j = false
  | 0, i, _, j, h1, h2 => by omega
  | k + 1, i, h, j, h1, h2 => by
    simp only [anyK, Bool.or_eq_false_iff] at h
    by_cases hji : j = i
    · rw [hji]; exact h.1
    · exact anyK_false k (i + 1) h.2 j (by omega) (by omega)
theorem anyK_true {p : Nat → Bool} : ∀ (k i : Nat), anyK p k i = true → ∃ j, i ≤ j ∧ j < i + k ∧ p j = true
  | 0, i, h => by cases h
  | k + 1, i, h => by
    simp only [anyK, Bool.or_eq_true] at h
    rcases h with h | h
    · exact ⟨i, Nat.le_refl _, by omega, h⟩
    · obtain ⟨j, h1, h2, h3⟩ := anyK_true k (i + 1) h
      exact ⟨j, by omega, by omega, h3⟩
theorem anyK_of {p : Nat → Bool} {k i j : Nat} (h1 : i ≤ j) (h2 : j < i + k) (h : p j = true) : anyK p k i = true := by
  cases hq : anyK p k i
  · rw [anyK_false k i hq j h1 h2] at h; cases h
  · rfl
theorem graphErr_ok {gn : List Int} {ge : List Ge} (h : graphErr gn ge = 0) : gn.length ≤ 40 ∧ ge.length ≤ 80 ∧ (∀ j, j < gn.length → 0 ≤ gn.getD j default) ∧
    ∀ j, j < ge.length → 0 ≤ (ge.getD j default).ty ∧ 0 ≤ (ge.getD j default).src ∧ (ge.getD j default).src < gn.length ∧ 0 ≤ (ge.getD j default).dst ∧ (ge.getD j default).dst < gn.length := by
  unfold graphErr at h
  split at h
  · cases h
  · split at h
    · cases h
    · revert h
      cases h1 : anyK (fun j => !kindB (gn.getD j default)) gn.length 0
      · cases h2 : anyK (fun j => !rightB gn.length (ge.getD j default)) ge.length 0
        · intro _
          refine ⟨by omega, by omega, fun j hj => ?_, fun j hj => ?_⟩
          · have := anyK_false _ _ h1 j (by omega) (by omega)
            simp only [Bool.not_eq_false', kindB, and_iff, leI_iff] at this
            omega
          · have := anyK_false _ _ h2 j (by omega) (by omega)
            simp only [Bool.not_eq_false', rightB, kindB, inB, and_iff, leI_iff, ltI_iff] at this
            omega
        · intro h; cases h
      · intro h; cases h

/-! ### Types of nodes -/
theorem Par_of {ns : List Nd} {es : List Ed} (hv : typesErr ns es = 0) : Par ns ns.length := fun j hj => (nodeErr_parent ((typesErr_ok hv).2.2.2.1 j hj)).2
theorem set_self {α β : Type} [Inhabited α] (f : α → β) (l : List α) {i : Nat} (h : i < l.length) : (l.map f).set i (f (l.getD i default)) = l.map f := by
  apply List.ext_getElem?
  intro j
  by_cases hji : i = j
  · subst hji
    rw [List.getElem?_set_self (by simpa using h), List.getElem?_map, List.getElem?_eq_getElem h, List.getD_eq_getElem?_getD, List.getElem?_eq_getElem h]
    rfl
  · rw [List.getElem?_set_ne hji]
theorem e5900 {l : List ByteArray} (hl : l.length ≤ 1000000) : ev 5900 [strsD l] = some [strsD l] := by
  refine ev_by u5900 ?_
  unfold t5900
  have h1 : (T.ck (.o2 .le (.o1 .len (.v 0)) (.i 1073741824)) (.ret [.v 0])).go ev [strsD l] = some [strsD l] := by
    simp only [go_sem, List.length_map]
    rw [cond_le (by omega)]
  rw [go_am_eq]
  · exact h1
  · intro h0
    have h0' : l.map D.str = [] := h0
    rw [h1]
    show some [D.list []] = some [D.list (l.map D.str)]
    rw [h0']
theorem e5401 (all : List At) (h : ∀ a, a ∈ all → OkA a) (hl : all.length ≤ 1000000) (a b c d : D) : ∀ i, i ≤ all.length → ev 5401 [a, b, c, d, .int all.length, .int i, atsD all] = some [atsD all, .int 0] := by
  refine down ?_ fun i hi ih => ?_
  · refine ev_by u5401 ?_
    simp only [t5401, go_sem, ltI_irr]
  · have hin : (leI 0 i && ltI i all.length) = true := by rw [and_iff, leI_iff, ltI_iff]; omega
    have ho := (h _ (getD_mem hi)).2.1
    refine ev_by u5401 ?_
    simp only [t5401, go_sem, List.length_map, idx_map _ _ _ hi, hin, e5900 (l := (all.getD i default).names) (by omega), wrapS i (by omega)]
    rw [cond_lt (by omega), set_self At.d all hi]
    exact ih
section
variable {ns : List Nd} {es : List Ed} (ht : OkT ns es) (hv : typesErr ns es = 0)
include ht hv
theorem e5800 (p : Int) (h1 : 0 ≤ p) (h2 : p < ns.length) (x : D) : ev 5800 [.int p, ndsD ns, x] = some [.bool false] := by
  refine ev_by u5800 ?_
  simp only [t5800, go_sem, List.length_map]
  rw [cond_nlt (by omega)]
  congr 2
  congr 1
  rw [leI_false]
  omega
theorem e5701 (l : List Int) (hl : l.length ≤ 1000000) (hb : ∀ p, p ∈ l → 0 ≤ p ∧ p < ns.length) (x y : D) : ∀ i, i ≤ l.length → ev 5701 [intsD l, ndsD ns, x, y, .int l.length, .int i] = some [.int (-1)] := by
  refine down ?_ fun i hi ih => ?_
  · refine ev_by u5701 ?_
    simp only [t5701, go_sem, ltI_irr]
  · have hin : (leI 0 i && ltI i l.length) = true := by rw [and_iff, leI_iff, ltI_iff]; omega
    obtain ⟨p1, p2⟩ := hb _ (getD_mem hi)
    refine ev_by u5701 ?_
    simp only [t5701, go_sem, List.length_map, idx_map _ _ _ hi, hin, e5800 ht hv _ p1 p2, wrapS i (by omega), ih]
    rw [cond_lt (by omega)]
theorem e5500 (l : List Int) (hl : l.length ≤ 1000000) (hb : ∀ p, p ∈ l → 0 ≤ p ∧ p < ns.length) : ev 5500 [ndsD ns, edsD es, intsD l] = some [.int 0] := by
  obtain ⟨s, h⟩ := e700 ht
  rw [hv] at h
  have h2 : ev 5700 [intsD l, ndsD ns, edsD es] = some [.int (-1)] := by
    refine ev_by u5700 ?_
    simp only [t5700, go_sem, List.length_map]
    exact e5701 ht hv l hl hb _ _ 0 (by omega)
  have hm : leI 0 (-1) = false := by decide
  have h3 : ev 5600 [intsD l, ndsD ns, edsD es] = some [.bool false] := by
    refine ev_by u5600 ?_
    simp only [t5600, go_sem, h2, hm]
  have h00 : eqI 0 0 = true := by decide
  refine ev_by u5500 ?_
  simp only [t5500, go_sem, h, h00, h3]
theorem e5400 {t : Nat} (h : t < ns.length) : ev 5400 [ndsD ns, edsD es, .int t] = some [atsD (attrsN ns (t + 1) t), .int 0] := by
  have hl := ht.1
  obtain ⟨hb, hok⟩ := attrsN_ok ht.2.2.1 (Nat.le_refl _) (Par_of hv) (t + 1) t (by omega) h
  have h1 := e5500 ht hv [(t : Int)] (by simp) (fun p hp => by simp only [List.mem_singleton] at hp; omega)
  have h1' : ev 5500 [ndsD ns, edsD es, .list [.int t]] = some [.int 0] := h1
  have h00 : eqI 0 0 = true := by decide
  refine ev_by u5400 ?_
  simp only [t5400, go_sem, h1', h00, e2900 hl ht.2.2.1 (Nat.le_refl _) (Par_of hv) (edsD es) (t + 1) t (by omega) (by omega) h, List.length_map]
  exact e5401 _ hok (by omega) _ _ _ _ 0 (by omega)
theorem e10300 {a b : Int} (h1 : 0 ≤ a) (h2 : a < ns.length) (h3 : 0 ≤ b) (h4 : b < ns.length) : ev 10300 [ndsD ns, edsD es, .int a, .int b] = some [.int 0] := by
  obtain ⟨s, h⟩ := e7900 ht
  have hl := ht.1
  rw [hv] at h
  have h00 : eqI 0 0 = true := by decide
  have ha : inB ns.length a = true := by simp only [inB, and_iff, leI_iff, ltI_iff]; omega
  have hb : inB ns.length b = true := by simp only [inB, and_iff, leI_iff, ltI_iff]; omega
  refine ev_by u10300 ?_
  simp only [t10300, go_sem, h, h00, List.length_map, e9000, nowrap (n := (ns.length : Int) - 1) (by omega) (by omega), leI_pred, ha, hb]
theorem e10201 (all : List At) (h : ∀ a, a ∈ all → OkA a) (hl : all.length ≤ 1000000) (a b c d : D) : ∀ i, i ≤ all.length → ev 10201 [a, b, c, d, .int i, atsD (all.take i), atsD all] = some [atsD all, .int 0] := by
  refine down ?_ fun i hi ih => ?_
  · refine ev_by u10201 ?_
    simp only [t10201, go_sem, List.length_map, ltI_irr, List.take_length]
  · have hin : (leI 0 i && ltI i all.length) = true := by rw [and_iff, leI_iff, ltI_iff]; omega
    have ho := (h _ (getD_mem hi)).2.1
    refine ev_by u10201 ?_
    simp only [t10201, go_sem, List.length_map, idx_map _ _ _ hi, hin, wrapS i (by omega), length_take' (Nat.le_of_lt hi)]
    rw [cond_lt (by omega), cond_le (by omega), cond_le (by omega)]
    have e1 : (all.take i).map At.d ++ [At.d (all.getD i default)] = (all.take (i + 1)).map At.d := by
      rw [List.take_add_one, List.getElem?_eq_getElem hi, List.map_append, List.getD_eq_getElem?_getD, List.getElem?_eq_getElem hi]
      rfl
    rw [e1]
    exact ih
theorem e10200 {t : Nat} (h : t < ns.length) : ev 10200 [ndsD ns, edsD es, .int t] = some [atsD (attrsN ns (t + 1) t), .int 0] := by
  have hl := ht.1
  obtain ⟨hb, hok⟩ := attrsN_ok ht.2.2.1 (Nat.le_refl _) (Par_of hv) (t + 1) t (by omega) h
  have h00 : eqI 0 0 = true := by decide
  refine ev_by u10200 ?_
  simp only [t10200, go_sem, e10300 ht hv (a := t) (b := t) (by omega) (by omega) (by omega) (by omega), h00, e9100 hl ht.2.2.1 (Nat.le_refl _) (Par_of hv) (edsD es) (t + 1) t (by omega) (by omega) h]
  exact e10201 ht hv _ hok (by omega) _ _ _ _ 0 (by omega)
end

/-! ### Values -/
def valErr (all : List At) (vs : List Int) (j : Nat) : Int := bif ltI (vs.getD j default) (all.getD j default).low then 6 else bif ltI (all.getD j default).high (vs.getD j default) then 6 else 0
def nodeVErr (ns : List Nd) (t : Int) (vs : List Int) : Int := bif leI ns.length t then 6 else bif (ns.getD t.toNat default).abs then 13 else
  (if vs.length = (attrsN ns (t.toNat + 1) t.toNat).length then scan (valErr (attrsN ns (t.toNat + 1) t.toNat) vs) (attrsN ns (t.toNat + 1) t.toNat).length 0 else 20)
theorem e5301 (all : List At) (vs : List Int) (hl : all.length ≤ 1000000) (he : vs.length = all.length) (a b c d : D) : ∀ i, i ≤ all.length → ev 5301 [a, b, c, intsD vs, d, .int all.length, .int i, atsD all] = some [.int (scan (valErr all vs) (all.length - i) i)] := by
  refine down ?_ fun i hi ih => ?_
  · refine ev_by u5301 ?_
    simp only [t5301, go_sem, scan_end, ltI_irr]
  · have hin : (leI 0 i && ltI i all.length) = true := by rw [and_iff, leI_iff, ltI_iff]; omega
    refine ev_by u5301 ?_
    simp only [t5301, go_sem, List.length_map, he, idx_map _ _ _ hi, idx_map _ vs i (by omega), hin, wrapS i (by omega), ih]
    rw [scan_step _ hi, cond_lt (by omega)]
    unfold valErr
    cases ltI (vs.getD i default) (all.getD i default).low <;> cases ltI (all.getD i default).high (vs.getD i default) <;> rfl
theorem e10101 (all : List At) (vs : List Int) (hl : all.length ≤ 1000000) (he : vs.length = all.length) (a b c d : D) : ∀ i, i ≤ all.length → ev 10101 [a, b, c, intsD vs, d, .int i, atsD all] = some [.int (scan (valErr all vs) (all.length - i) i)] := by
  refine down ?_ fun i hi ih => ?_
  · refine ev_by u10101 ?_
    simp only [t10101, go_sem, List.length_map, scan_end, ltI_irr]
  · have hin : (leI 0 i && ltI i all.length) = true := by rw [and_iff, leI_iff, ltI_iff]; omega
    refine ev_by u10101 ?_
    simp only [t10101, go_sem, List.length_map, he, idx_map _ _ _ hi, idx_map _ vs i (by omega), hin, wrapS i (by omega), ih]
    rw [scan_step _ hi, cond_lt (by omega)]
    unfold valErr
    cases ltI (vs.getD i default) (all.getD i default).low <;> cases ltI (all.getD i default).high (vs.getD i default) <;> rfl
section
variable {ns : List Nd} {es : List Ed} (ht : OkT ns es) (hv : typesErr ns es = 0)
include ht hv
theorem e5300 {t : Int} (h0 : 0 ≤ t) (vs : List Int) : ev 5300 [ndsD ns, edsD es, .int t, intsD vs] = some [.int (nodeVErr ns t vs)] := by
  have hl := ht.1
  unfold nodeVErr
  cases hc : leI ns.length t
  · rw [leI_false] at hc
    have hin : (leI 0 t && ltI t ns.length) = true := by rw [and_iff, leI_iff, ltI_iff]; omega
    have htn : t.toNat < ns.length := by omega
    have hte : ((t.toNat : Nat) : Int) = t := by omega
    obtain ⟨hb, hok⟩ := attrsN_ok ht.2.2.1 (Nat.le_refl _) (Par_of hv) (t.toNat + 1) t.toNat (by omega) htn
    have h1 := e5400 ht hv htn
    rw [hte] at h1
    refine ev_by u5300 ?_
    simp only [t5300, go_sem, List.length_map, idx_map _ _ _ htn, hin, h1]
    rw [cond_nle (by omega)]
    cases (ns.getD t.toNat default).abs
    · simp only [go_sem]
      split
      · rename_i he
        rw [cond_eq (by omega)]
        exact e5301 _ vs (by omega) he _ _ _ _ 0 (by omega)
      · rename_i he
        rw [cond_ne (by omega)]
    · rfl
  · refine ev_by u5300 ?_
    simp only [t5300, go_sem, List.length_map, hc]
theorem e10100 {t : Int} (h0 : 0 ≤ t) (vs : List Int) : ev 10100 [ndsD ns, edsD es, .int t, intsD vs] = some [.int (nodeVErr ns t vs)] := by
  have hl := ht.1
  unfold nodeVErr
  cases hc : leI ns.length t
  · rw [leI_false] at hc
    have hin : (leI 0 t && ltI t ns.length) = true := by rw [and_iff, leI_iff, ltI_iff]; omega
    have htn : t.toNat < ns.length := by omega
    have hte : ((t.toNat : Nat) : Int) = t := by omega
    obtain ⟨hb, hok⟩ := attrsN_ok ht.2.2.1 (Nat.le_refl _) (Par_of hv) (t.toNat + 1) t.toNat (by omega) htn
    have h1 := e10200 ht hv htn
    rw [hte] at h1
    refine ev_by u10100 ?_
    simp only [t10100, go_sem, List.length_map, idx_map _ _ _ htn, hin, h1]
    rw [cond_nle (by omega)]
    cases (ns.getD t.toNat default).abs
    · simp only [go_sem]
      split
      · rename_i he
        rw [cond_eq (by omega)]
        exact e10101 _ vs (by omega) he _ _ _ _ 0 (by omega)
      · rename_i he
        rw [cond_ne (by omega)]
    · rfl
  · refine ev_by u10100 ?_
    simp only [t10100, go_sem, List.length_map, hc]
end
theorem nodeVErr_in {ns : List Nd} {t : Int} {vs : List Int} (h : nodeVErr ns t vs = 0) : t < ns.length := by
  unfold nodeVErr at h
  revert h
  cases hc : leI ns.length t
  · rw [leI_false] at hc
    exact fun _ => hc
  · intro h; cases h

/-! ### Supertypes -/
def hasI (l : List Int) (b : Int) : Bool := anyK (fun j => eqI b (l.getD j default)) l.length 0
theorem hasI_iff {l : List Int} {b : Int} : hasI l b = true ↔ b ∈ l := by
  unfold hasI
  constructor
  · intro h
    obtain ⟨j, _, h2, h3⟩ := anyK_true _ _ h
    rw [eqI_iff] at h3
    rw [h3]
    exact getD_mem (by omega)
  · intro h
    obtain ⟨j, hj, hje⟩ := mem_getD h
    exact anyK_of (j := j) (by omega) (by omega) (by rw [eqI_iff]; exact hje.symm)
theorem e6501 (l : List Int) (hl : l.length ≤ 1000000) (b : Int) (x : D) : ∀ i, i ≤ l.length → ev 6501 [intsD l, .int b, x, .int l.length, .int i] = some [.int (findK (fun j => eqI b (l.getD j default)) (l.length - i) i)] := by
  refine down ?_ fun i hi ih => ?_
  · refine ev_by u6501 ?_
    simp only [t6501, go_sem, findK_end, ltI_irr]
  · have hin : (leI 0 i && ltI i l.length) = true := by rw [and_iff, leI_iff, ltI_iff]; omega
    refine ev_by u6501 ?_
    simp only [t6501, go_sem, List.length_map, idx_map _ _ _ hi, hin, wrapS i (by omega), ih]
    rw [findK_step _ hi, cond_lt (by omega)]
    cases eqI b (l.getD i default) <;> rfl
theorem e6400 (l : List Int) (hl : l.length ≤ 1000000) (b : Int) : ev 6400 [intsD l, .int b] = some [.bool (hasI l b)] := by
  have h : ev 6500 [intsD l, .int b] = some [.int (findK (fun j => eqI b (l.getD j default)) l.length 0)] := by
    refine ev_by u6500 ?_
    simp only [t6500, go_sem, List.length_map]
    exact e6501 l hl b _ 0 (by omega)
  refine ev_by u6400 ?_
  simp only [t6400, go_sem, h, leI_find]
  rfl
theorem swap_mem {l : List Int} {i j : Nat} (hi : i < l.length) (hj : j < l.length) (b : Int) : b ∈ (l.set i (l.getD j default)).set j (l.getD i default) ↔ b ∈ l := by
  have ei : l.getD i default = l[i] := by simp [List.getD_eq_getElem?_getD, hi]
  have ej : l.getD j default = l[j] := by simp [List.getD_eq_getElem?_getD, hj]
  rw [ei, ej]
  exact (List.set_set_perm hi hj).mem_iff
theorem e6301 : ∀ (k : Nat) (i : Nat) (j : Int) (l : List Int), l.length ≤ 1000000 → j < l.length → -1 ≤ j → j - i ≤ k → ∃ l' : List Int, ev 6301 [.int i, .int j, intsD l] = some [intsD l'] ∧ l'.length = l.length ∧ ∀ b, b ∈ l' ↔ b ∈ l := by
  intro k
  induction k with
  | zero =>
    intro i j l hl h1 h2 h3
    refine ⟨l, ?_, rfl, fun b => Iff.rfl⟩
    refine ev_by u6301 ?_
    simp only [t6301, go_sem]
    rw [cond_nlt (by omega)]
  | succ k ih =>
    intro i j l hl h1 h2 h3
    by_cases hij : (i : Int) < j
    · have hi : i < l.length := by omega
      have hj : j.toNat < l.length := by omega
      have hie : (leI 0 i && ltI i l.length) = true := by rw [and_iff, leI_iff, ltI_iff]; omega
      have hje : (leI 0 j && ltI j l.length) = true := by rw [and_iff, leI_iff, ltI_iff]; omega
      obtain ⟨l', g1, g2, g3⟩ := ih (i + 1) (j - 1) ((l.set i (l.getD j.toNat default)).set j.toNat (l.getD i default)) (by simpa using hl) (by simp only [List.length_set]; omega) (by omega) (by omega)
      refine ⟨l', ?_, by rw [g2]; simp, fun b => by rw [g3 b, swap_mem hi hj]⟩
      have e1 : ((l.map D.int).set i (.int (l.getD j.toNat default))).set j.toNat (.int (l.getD i default)) = ((l.set i (l.getD j.toNat default)).set j.toNat (l.getD i default)).map D.int := by rw [List.map_set, List.map_set]
      refine ev_by u6301 ?_
      simp only [t6301, go_sem, List.length_map, List.length_set, idx_map _ _ _ hi, idx_map _ _ _ hj, hie, hje, wrapS i (by omega), nowrap (n := j - 1) (by omega) (by omega), e1]
      rw [cond_lt hij]
      exact g1
    · refine ⟨l, ?_, rfl, fun b => Iff.rfl⟩
      refine ev_by u6301 ?_
      simp only [t6301, go_sem]
      rw [cond_nlt (by omega)]
theorem e6300 (l : List Int) (hl : l.length ≤ 1000000) : ∃ l' : List Int, ev 6300 [intsD l] = some [intsD l'] ∧ l'.length = l.length ∧ ∀ b, b ∈ l' ↔ b ∈ l := by
  obtain ⟨l', h1, h2, h3⟩ := e6301 l.length 0 ((l.length : Int) - 1) l hl (by omega) (by omega) (by omega)
  refine ⟨l', ?_, h2, h3⟩
  refine ev_by u6300 ?_
  simp only [t6300, go_sem, List.length_map, nowrap (n := (l.length : Int) - 1) (by omega) (by omega)]
  exact h1
def chainN (ns : List Nd) : Nat → Nat → List Int
  | 0, _ => []
  | k + 1, a => (a : Int) :: (bif leI 0 (ns.getD a default).parent then chainN ns k (ns.getD a default).parent.toNat else [])
theorem chainN_len (ns : List Nd) : ∀ (k a : Nat), (chainN ns k a).length ≤ k
  | 0, a => by simp [chainN]
  | k + 1, a => by
    unfold chainN
    cases leI 0 (ns.getD a default).parent
    · simp
    · have := chainN_len ns k (ns.getD a default).parent.toNat
      simp only [go_sem, List.length_cons]
      omega
def isB (ns : List Nd) (a b : Int) : Bool := hasI (chainN ns (a.toNat + 1) a.toNat) b
theorem e6201n (ns : List Nd) (x : D) (p : Int) (hp : p < 0) (l : List Int) (hl : l.length ≤ 1000000) : ∃ l' : List Int, ev 6201 [ndsD ns, x, .int p, intsD l] = some [intsD l'] ∧ l'.length = l.length ∧ ∀ b, b ∈ l' ↔ b ∈ l := by
  obtain ⟨l', h1, h2, h3⟩ := e6300 l hl
  refine ⟨l', ?_, h2, h3⟩
  refine ev_by u6201 ?_
  simp only [t6201, go_sem, h1]
  rw [cond_nle hp]
theorem e6201 {ns : List Nd} (hl : ns.length ≤ 1000) (hp : Par ns ns.length) (x : D) : ∀ (k a : Nat), a < k → a < ns.length → k ≤ 1001 → ∀ l : List Int, l.length + k ≤ 1000000 → ∃ l' : List Int, ev 6201 [ndsD ns, x, .int a, intsD l] = some [intsD l'] ∧ l'.length = l.length + (chainN ns k a).length ∧ ∀ b, b ∈ l' ↔ b ∈ l ++ chainN ns k a
  | 0, a, h, _, _, l, _ => by omega
  | k + 1, a, h, ha, hk, l, hll => by
    have hin : (leI 0 a && ltI a ns.length) = true := by rw [and_iff, leI_iff, ltI_iff]; omega
    have e1 : l.map D.int ++ [.int a] = (l ++ [(a : Int)]).map D.int := by simp
    unfold chainN
    cases hq : leI 0 (ns.getD a default).parent
    · rw [leI_false] at hq
      obtain ⟨l', g1, g2, g3⟩ := e6201n ns x (ns.getD a default).parent hq (l ++ [(a : Int)]) (by simp; omega)
      refine ⟨l', ?_, by rw [g2]; simp, fun b => by rw [g3 b]; simp⟩
      refine ev_by u6201 ?_
      simp only [t6201, go_sem, List.length_map, idx_map _ _ a ha, hin, e1, g1]
      rw [cond_le (by omega), cond_le (by omega)]
    · obtain ⟨h1, h2⟩ := hp.lt ha hq
      obtain ⟨l', g1, g2, g3⟩ := e6201 hl hp x k (ns.getD a default).parent.toNat (by omega) (by omega) (by omega) (l ++ [(a : Int)]) (by simp; omega)
      rw [h2] at g1
      refine ⟨l', ?_, by rw [g2]; simp; omega, fun b => by rw [g3 b]; simp⟩
      refine ev_by u6201 ?_
      simp only [t6201, go_sem, List.length_map, idx_map _ _ a ha, hin, e1, g1]
      rw [cond_le (by omega), cond_le (by omega)]
theorem e6100 {ns : List Nd} (hl : ns.length ≤ 1000) (hp : Par ns ns.length) (x : D) {a : Int} (h0 : 0 ≤ a) (h1 : a < ns.length) (b : Int) : ev 6100 [ndsD ns, x, .int a, .int b] = some [.bool (isB ns a b)] := by
  have hae : ((a.toNat : Nat) : Int) = a := by omega
  obtain ⟨l', g1, g2, g3⟩ := e6201 hl hp x (a.toNat + 1) a.toNat (by omega) (by omega) (by omega) [] (by simp; omega)
  have hc := chainN_len ns (a.toNat + 1) a.toNat
  rw [hae] at g1
  have h6 : ev 6200 [ndsD ns, x, .int a] = some [intsD l'] := by
    refine ev_by u6200 ?_
    simp only [t6200, go_sem]
    exact g1
  refine ev_by u6100 ?_
  simp only [t6100, go_sem, h6, e6400 l' (by rw [g2]; simp; omega) b]
  refine some_bool ?_
  unfold isB
  rw [Bool.eq_iff_iff, hasI_iff, hasI_iff, g3 b]
  simp
theorem e10500n (ns x : D) (p b : Int) (hp : p < 0) (hb : 0 ≤ b) : ev 10500 [ns, x, .int p, .int b] = some [.bool false] := by
  refine ev_by u10500 ?_
  simp only [t10500, go_sem]
  rw [cond_ne (by omega), cond_nle hp]
theorem hasI_cons (a : Int) (l : List Int) (b : Int) : hasI (a :: l) b = (eqI a b || hasI l b) := by
  rw [Bool.eq_iff_iff, Bool.or_eq_true, hasI_iff, hasI_iff, eqI_iff, List.mem_cons]
  constructor
  · rintro (h | h)
    · exact .inl h.symm
    · exact .inr h
  · rintro (h | h)
    · exact .inl h.symm
    · exact .inr h
theorem e10500 {ns : List Nd} (hl : ns.length ≤ 1000) (hp : Par ns ns.length) (x : D) {b : Int} (hb : 0 ≤ b) : ∀ (k a : Nat), a < k → a < ns.length → ev 10500 [ndsD ns, x, .int a, .int b] = some [.bool (hasI (chainN ns k a) b)]
  | 0, a, h, _ => by omega
  | k + 1, a, h, ha => by
    have hin : (leI 0 a && ltI a ns.length) = true := by rw [and_iff, leI_iff, ltI_iff]; omega
    unfold chainN
    rw [hasI_cons]
    cases hq : leI 0 (ns.getD a default).parent
    · rw [leI_false] at hq
      refine ev_by u10500 ?_
      simp only [t10500, go_sem, List.length_map, idx_map _ _ a ha, hin, e10500n _ _ _ b hq hb]
      rw [cond_le (by omega)]
      cases eqI (a : Int) b <;> rfl
    · obtain ⟨h1, h2⟩ := hp.lt ha hq
      have ih := e10500 hl hp x hb k (ns.getD a default).parent.toNat (by omega) (by omega)
      rw [h2] at ih
      refine ev_by u10500 ?_
      simp only [t10500, go_sem, List.length_map, idx_map _ _ a ha, hin, ih]
      rw [cond_le (by omega)]
      cases eqI (a : Int) b <;> rfl
theorem e10500' {ns : List Nd} (hl : ns.length ≤ 1000) (hp : Par ns ns.length) (x : D) {a : Int} (h0 : 0 ≤ a) (h1 : a < ns.length) {b : Int} (hb : 0 ≤ b) : ev 10500 [ndsD ns, x, .int a, .int b] = some [.bool (isB ns a b)] := by
  have := e10500 hl hp x hb (a.toNat + 1) a.toNat (by omega) (by omega)
  rw [show ((a.toNat : Nat) : Int) = a by omega] at this
  exact this
def fitsB (ns : List Nd) (es : List Ed) (ty a b : Int) : Bool := inB es.length ty && (isB ns a (es.getD ty.toNat default).src && isB ns b (es.getD ty.toNat default).dst)
section
variable {ns : List Nd} {es : List Ed} (ht : OkT ns es) (hv : typesErr ns es = 0) {a b ty : Int} (h1 : 0 ≤ a) (h2 : a < ns.length) (h3 : 0 ≤ b) (h4 : b < ns.length)
include ht hv h1 h2 h3 h4
theorem e6000 : ev 6000 [ndsD ns, edsD es, .int ty, .int a, .int b] = some [.bool (fitsB ns es ty a b)] := by
  have hl := ht.1
  have hg := e5500 ht hv [a, b] (by simp) (fun p hp => by simp only [List.mem_cons, List.not_mem_nil, or_false] at hp; omega)
  have hg' : ev 5500 [ndsD ns, edsD es, .list [.int a, .int b]] = some [.int 0] := hg
  have h00 : eqI 0 0 = true := by decide
  unfold fitsB inB
  by_cases c1 : ty < 0
  · refine ev_by u6000 ?_
    simp only [t6000, go_sem, hg', h00]
    rw [cond_lt c1]
    refine some_bool ?_
    rw [show leI 0 ty = false by rw [leI_false]; omega]
    rfl
  · by_cases c2 : (es.length : Int) ≤ ty
    · refine ev_by u6000 ?_
      simp only [t6000, go_sem, hg', h00, List.length_map]
      rw [cond_nlt (by omega), cond_le c2]
      refine some_bool ?_
      rw [show ltI ty es.length = false by rw [ltI_false]; omega]
      cases leI 0 ty <;> rfl
    · have hin : (leI 0 ty && ltI ty es.length) = true := by rw [and_iff, leI_iff, ltI_iff]; omega
      have htn : ty.toNat < es.length := by omega
      refine ev_by u6000 ?_
      simp only [t6000, go_sem, hg', h00, List.length_map, hin, idx_map _ _ _ htn, e6100 hl (Par_of hv) _ h1 h2, e6100 hl (Par_of hv) _ h3 h4]
      rw [cond_nlt (by omega), cond_nle (by omega)]
      cases isB ns a (es.getD ty.toNat default).src <;> rfl
theorem e10400 : ev 10400 [ndsD ns, edsD es, .int ty, .int a, .int b] = some [.bool (fitsB ns es ty a b)] := by
  have hl := ht.1
  have hl2 := ht.2.1
  have h00 : eqI 0 0 = true := by decide
  unfold fitsB
  cases hc : inB es.length ty
  · refine ev_by u10400 ?_
    simp only [t10400, go_sem, e10300 ht hv h1 h2 h3 h4, h00, List.length_map, e9000, nowrap (n := (es.length : Int) - 1) (by omega) (by omega), leI_pred, hc]
    rfl
  · have hc' := hc
    simp only [inB, and_iff, leI_iff, ltI_iff] at hc'
    have hin : (leI 0 ty && ltI ty es.length) = true := hc
    have htn : ty.toNat < es.length := by omega
    obtain ⟨r1, r2, r3, r4⟩ := edgeErr_in ((typesErr_ok hv).2.2.2.2 ty.toNat htn)
    refine ev_by u10400 ?_
    simp only [t10400, go_sem, e10300 ht hv h1 h2 h3 h4, h00, List.length_map, e9000, nowrap (n := (es.length : Int) - 1) (by omega) (by omega), leI_pred, hc, hin, idx_map _ _ _ htn, e10500' hl (Par_of hv) _ h1 h2 r1, e10500' hl (Par_of hv) _ h3 h4 r3]
    cases isB ns a (es.getD ty.toNat default).src <;> rfl
end

/-! ### Hosts -/
def edgeV (ns : List Nd) (es : List Ed) (gn : List Int) (ge : List Ge) (i : Nat) : Int := bif leI es.length (ge.getD i default).ty then 6 else
  bif fitsB ns es (ge.getD i default).ty (gn.getD (ge.getD i default).src.toNat default) (gn.getD (ge.getD i default).dst.toNat default) then 0 else 13
def hostErr (ns : List Nd) (es : List Ed) (gn : List Int) (ge : List Ge) (vs : List (List Int)) : Int := thenE (typesErr ns es) (thenE (graphErr gn ge)
  (if vs.length = gn.length then thenE (scan (fun i => nodeVErr ns (gn.getD i default) (vs.getD i default)) gn.length 0) (scan (edgeV ns es gn ge) ge.length 0) else 20))
def Tells (l : Nat) (ds : List D) (e : Int) : Prop := ∃ n : Int, ev l ds = some [.int n, .int e]
section
variable {ns : List Nd} {es : List Ed} (ht : OkT ns es) (hv : typesErr ns es = 0) {gn : List Int} {ge : List Ge} {vs : List (List Int)} (hg : graphErr gn ge = 0) (hl : vs.length = gn.length)
include ht hv hg hl
theorem e4303 (hn : ∀ i, i < gn.length → nodeVErr ns (gn.getD i default) (vs.getD i default) = 0) (a b c d e f g h i j k x : D) : ∀ q, q ≤ ge.length → Tells 4303 [a, b, c, d, e, f, g, h, i, j, k, gesD ge, .int ge.length, .int q, ndsD ns, edsD es, intsD gn, gesD ge, x] (scan (edgeV ns es gn ge) (ge.length - q) q) := by
  obtain ⟨l1, l2, gk, gr⟩ := graphErr_ok hg
  refine down ?_ fun q hq ih => ?_
  · refine ⟨-1, ?_⟩
    refine ev_by u4303 ?_
    simp only [t4303, go_sem, scan_end, ltI_irr]
  · obtain ⟨n, ih⟩ := ih
    have hin : (leI 0 q && ltI q ge.length) = true := by rw [and_iff, leI_iff, ltI_iff]; omega
    obtain ⟨r0, r1, r2, r3, r4⟩ := gr q hq
    have hs : (leI 0 (ge.getD q default).src && ltI (ge.getD q default).src gn.length) = true := by rw [and_iff, leI_iff, ltI_iff]; omega
    have hd : (leI 0 (ge.getD q default).dst && ltI (ge.getD q default).dst gn.length) = true := by rw [and_iff, leI_iff, ltI_iff]; omega
    have n1 := nodeVErr_in (hn (ge.getD q default).src.toNat (by omega))
    have n2 := nodeVErr_in (hn (ge.getD q default).dst.toNat (by omega))
    have k1 := gk (ge.getD q default).src.toNat (by omega)
    have k2 := gk (ge.getD q default).dst.toNat (by omega)
    rw [scan_step _ hq]
    have hee : edgeV ns es gn ge q = bif leI es.length (ge.getD q default).ty then 6 else
      bif fitsB ns es (ge.getD q default).ty (gn.getD (ge.getD q default).src.toNat default) (gn.getD (ge.getD q default).dst.toNat default) then 0 else 13 := rfl
    rw [hee]
    cases hc : leI es.length (ge.getD q default).ty
    · cases hf : fitsB ns es (ge.getD q default).ty (gn.getD (ge.getD q default).src.toNat default) (gn.getD (ge.getD q default).dst.toNat default)
      · refine ⟨q, ?_⟩
        refine ev_by u4303 ?_
        simp only [t4303, go_sem, List.length_map, idx_map _ _ _ hq, hin, hc, hs, hd, idx_map _ gn (ge.getD q default).src.toNat (by omega), idx_map _ gn (ge.getD q default).dst.toNat (by omega), e6000 ht hv k1 n1 k2 n2, hf]
        rw [cond_lt (by omega)]
        rfl
      · refine ⟨n, ?_⟩
        refine ev_by u4303 ?_
        simp only [t4303, go_sem, List.length_map, idx_map _ _ _ hq, hin, hc, hs, hd, idx_map _ gn (ge.getD q default).src.toNat (by omega), idx_map _ gn (ge.getD q default).dst.toNat (by omega), e6000 ht hv k1 n1 k2 n2, hf, wrapS q (by omega), ih]
        rw [cond_lt (by omega)]
        rfl
    · refine ⟨q, ?_⟩
      refine ev_by u4303 ?_
      simp only [t4303, go_sem, List.length_map, idx_map _ _ _ hq, hin, hc]
      rw [cond_lt (by omega)]
      rfl
theorem e4301 (a b c d : D) : ∀ q, q ≤ gn.length → (∀ i, i < q → nodeVErr ns (gn.getD i default) (vs.getD i default) = 0) → Tells 4301 [ndsD ns, edsD es, intsD gn, gesD ge, valsD vs, a, b, c, d, .int gn.length, .int q, ndsD ns, edsD es, intsD gn, gesD ge, valsD vs] (thenE (scan (fun i => nodeVErr ns (gn.getD i default) (vs.getD i default)) (gn.length - q) q) (scan (edgeV ns es gn ge) ge.length 0)) := by
  obtain ⟨l1, l2, gk, gr⟩ := graphErr_ok hg
  refine down ?_ fun q hq ih => ?_
  · intro hn
    obtain ⟨n, h⟩ := e4303 ht hv hg hl hn (ndsD ns) (edsD es) (intsD gn) (gesD ge) (valsD vs) a b c d (.int gn.length) (.int gn.length) (valsD vs) 0 (by omega)
    refine ⟨n, ?_⟩
    rw [scan_end]
    refine ev_by u4301 ?_
    simp only [t4301, go_sem, List.length_map, ltI_irr]
    exact h
  · intro hn
    have hin : (leI 0 q && ltI q gn.length) = true := by rw [and_iff, leI_iff, ltI_iff]; omega
    rw [scan_step _ hq]
    by_cases h0 : nodeVErr ns (gn.getD q default) (vs.getD q default) = 0
    · obtain ⟨n, ih⟩ := ih fun i hi => by
        by_cases hiq : i = q
        · rw [hiq]; exact h0
        · exact hn i (by omega)
      refine ⟨n, ?_⟩
      refine ev_by u4301 ?_
      simp only [t4301, go_sem, List.length_map, hl, idx_map _ _ _ hq, idx_map _ vs q (by omega), hin, e5300 ht hv (gk q hq), wrapS q (by omega), ih]
      rw [cond_lt (by omega), cond_eq h0, if_pos h0]
    · refine ⟨q, ?_⟩
      refine ev_by u4301 ?_
      simp only [t4301, go_sem, List.length_map, hl, idx_map _ _ _ hq, idx_map _ vs q (by omega), hin, e5300 ht hv (gk q hq)]
      rw [cond_lt (by omega), cond_ne h0, if_neg h0]
      unfold thenE
      rw [if_neg h0]
theorem e9703 (hn : ∀ i, i < gn.length → nodeVErr ns (gn.getD i default) (vs.getD i default) = 0) (a b c d e f g h i j x : D) : ∀ q, q ≤ ge.length → Tells 9703 [a, b, c, d, e, f, g, h, i, j, .int q, ndsD ns, edsD es, intsD gn, gesD ge, x] (scan (edgeV ns es gn ge) (ge.length - q) q) := by
  obtain ⟨l1, l2, gk, gr⟩ := graphErr_ok hg
  refine down ?_ fun q hq ih => ?_
  · refine ⟨-1, ?_⟩
    refine ev_by u9703 ?_
    simp only [t9703, go_sem, List.length_map, scan_end, ltI_irr]
  · obtain ⟨n, ih⟩ := ih
    have hin : (leI 0 q && ltI q ge.length) = true := by rw [and_iff, leI_iff, ltI_iff]; omega
    obtain ⟨r0, r1, r2, r3, r4⟩ := gr q hq
    have hs : (leI 0 (ge.getD q default).src && ltI (ge.getD q default).src gn.length) = true := by rw [and_iff, leI_iff, ltI_iff]; omega
    have hd : (leI 0 (ge.getD q default).dst && ltI (ge.getD q default).dst gn.length) = true := by rw [and_iff, leI_iff, ltI_iff]; omega
    have n1 := nodeVErr_in (hn (ge.getD q default).src.toNat (by omega))
    have n2 := nodeVErr_in (hn (ge.getD q default).dst.toNat (by omega))
    have k1 := gk (ge.getD q default).src.toNat (by omega)
    have k2 := gk (ge.getD q default).dst.toNat (by omega)
    rw [scan_step _ hq]
    have hee : edgeV ns es gn ge q = bif leI es.length (ge.getD q default).ty then 6 else
      bif fitsB ns es (ge.getD q default).ty (gn.getD (ge.getD q default).src.toNat default) (gn.getD (ge.getD q default).dst.toNat default) then 0 else 13 := rfl
    rw [hee]
    cases hc : leI es.length (ge.getD q default).ty
    · cases hf : fitsB ns es (ge.getD q default).ty (gn.getD (ge.getD q default).src.toNat default) (gn.getD (ge.getD q default).dst.toNat default)
      · refine ⟨q, ?_⟩
        refine ev_by u9703 ?_
        simp only [t9703, go_sem, List.length_map, idx_map _ _ _ hq, hin, hc, hs, hd, idx_map _ gn (ge.getD q default).src.toNat (by omega), idx_map _ gn (ge.getD q default).dst.toNat (by omega), e10400 ht hv k1 n1 k2 n2, hf]
        rw [cond_lt (by omega)]
        rfl
      · refine ⟨n, ?_⟩
        refine ev_by u9703 ?_
        simp only [t9703, go_sem, List.length_map, idx_map _ _ _ hq, hin, hc, hs, hd, idx_map _ gn (ge.getD q default).src.toNat (by omega), idx_map _ gn (ge.getD q default).dst.toNat (by omega), e10400 ht hv k1 n1 k2 n2, hf, wrapS q (by omega), ih]
        rw [cond_lt (by omega)]
        rfl
    · refine ⟨q, ?_⟩
      refine ev_by u9703 ?_
      simp only [t9703, go_sem, List.length_map, idx_map _ _ _ hq, hin, hc]
      rw [cond_lt (by omega)]
      rfl
theorem e9701 (a b c d e f g h i : D) : ∀ q, q ≤ gn.length → (∀ i, i < q → nodeVErr ns (gn.getD i default) (vs.getD i default) = 0) → Tells 9701 [a, b, c, d, e, f, g, h, i, .int q, ndsD ns, edsD es, intsD gn, gesD ge, valsD vs] (thenE (scan (fun i => nodeVErr ns (gn.getD i default) (vs.getD i default)) (gn.length - q) q) (scan (edgeV ns es gn ge) ge.length 0)) := by
  obtain ⟨l1, l2, gk, gr⟩ := graphErr_ok hg
  refine down ?_ fun q hq ih => ?_
  · intro hn
    obtain ⟨n, h⟩ := e9703 ht hv hg hl hn a b c d e f g h i (.int gn.length) (valsD vs) 0 (by omega)
    refine ⟨n, ?_⟩
    rw [scan_end]
    refine ev_by u9701 ?_
    simp only [t9701, go_sem, List.length_map, ltI_irr]
    exact h
  · intro hn
    have hin : (leI 0 q && ltI q gn.length) = true := by rw [and_iff, leI_iff, ltI_iff]; omega
    rw [scan_step _ hq]
    by_cases h0 : nodeVErr ns (gn.getD q default) (vs.getD q default) = 0
    · obtain ⟨n, ih⟩ := ih fun i hi => by
        by_cases hiq : i = q
        · rw [hiq]; exact h0
        · exact hn i (by omega)
      refine ⟨n, ?_⟩
      refine ev_by u9701 ?_
      simp only [t9701, go_sem, List.length_map, hl, idx_map _ _ _ hq, idx_map _ vs q (by omega), hin, e10100 ht hv (gk q hq), wrapS q (by omega), ih]
      rw [cond_lt (by omega), cond_eq h0, if_pos h0]
    · refine ⟨q, ?_⟩
      refine ev_by u9701 ?_
      simp only [t9701, go_sem, List.length_map, hl, idx_map _ _ _ hq, idx_map _ vs q (by omega), hin, e10100 ht hv (gk q hq)]
      rw [cond_lt (by omega), cond_ne h0, if_neg h0]
      unfold thenE
      rw [if_neg h0]
end
section
variable {ns : List Nd} {es : List Ed} (ht : OkT ns es) {gn : List Int} {ge : List Ge} {vs : List (List Int)} (hg1 : gn.length ≤ 1000) (hg2 : ge.length ≤ 1000)
include ht hg1 hg2
theorem e4300 : Tells 4300 [ndsD ns, edsD es, intsD gn, gesD ge, valsD vs] (hostErr ns es gn ge vs) := by
  obtain ⟨s, h⟩ := e700 ht
  unfold hostErr
  by_cases hv : typesErr ns es = 0
  · rw [hv] at h ⊢
    have h00 : eqI 0 0 = true := by decide
    by_cases hg : graphErr gn ge = 0
    · rw [hg]
      unfold thenE
      rw [if_pos rfl, if_pos rfl]
      by_cases hl : vs.length = gn.length
      · rw [if_pos hl]
        obtain ⟨n, hn⟩ := e4301 ht hv hg hl (.int 0) (.int 0) (.int 0) (.int 0) 0 (by omega) (fun i hi => by omega)
        refine ⟨n, ?_⟩
        refine ev_by u4300 ?_
        simp only [t4300, go_sem, h, h00, e4400 gn ge (by omega) (by omega), hg, List.length_map]
        rw [cond_eq (by omega)]
        exact hn
      · rw [if_neg hl]
        refine ⟨-1, ?_⟩
        refine ev_by u4300 ?_
        simp only [t4300, go_sem, h, h00, e4400 gn ge (by omega) (by omega), hg, List.length_map]
        rw [cond_ne (by omega)]
    · unfold thenE
      rw [if_pos rfl, if_neg hg]
      refine ⟨-1, ?_⟩
      refine ev_by u4300 ?_
      simp only [t4300, go_sem, h, h00, e4400 gn ge (by omega) (by omega)]
      rw [cond_ne hg]
  · unfold thenE
    rw [if_neg hv]
    refine ⟨-1, ?_⟩
    refine ev_by u4300 ?_
    simp only [t4300, go_sem, h]
    rw [cond_ne hv]
theorem e9700 : Tells 9700 [ndsD ns, edsD es, intsD gn, gesD ge, valsD vs] (hostErr ns es gn ge vs) := by
  obtain ⟨s, h⟩ := e7900 ht
  unfold hostErr
  by_cases hv : typesErr ns es = 0
  · rw [hv] at h ⊢
    have h00 : eqI 0 0 = true := by decide
    by_cases hg : graphErr gn ge = 0
    · rw [hg]
      unfold thenE
      rw [if_pos rfl, if_pos rfl]
      by_cases hl : vs.length = gn.length
      · rw [if_pos hl]
        obtain ⟨n, hn⟩ := e9701 ht hv hg hl (ndsD ns) (edsD es) (intsD gn) (gesD ge) (valsD vs) (.int 0) (.int 0) (.int 0) (.int 0) 0 (by omega) (fun i hi => by omega)
        refine ⟨n, ?_⟩
        refine ev_by u9700 ?_
        simp only [t9700, go_sem, h, h00, e9800 gn ge (by omega) (by omega), hg, List.length_map]
        rw [cond_eq (by omega)]
        exact hn
      · rw [if_neg hl]
        refine ⟨-1, ?_⟩
        refine ev_by u9700 ?_
        simp only [t9700, go_sem, h, h00, e9800 gn ge (by omega) (by omega), hg, List.length_map]
        rw [cond_ne (by omega)]
    · unfold thenE
      rw [if_pos rfl, if_neg hg]
      refine ⟨-1, ?_⟩
      refine ev_by u9700 ?_
      simp only [t9700, go_sem, h, h00, e9800 gn ge (by omega) (by omega)]
      rw [cond_ne hg]
  · unfold thenE
    rw [if_neg hv]
    refine ⟨-1, ?_⟩
    refine ev_by u9700 ?_
    simp only [t9700, go_sem, h]
    rw [cond_ne hv]
def validErr (ns : List Nd) (es : List Ed) (sn se gn : List Int) (ge : List Ge) (vs : List (List Int)) : Int := thenE (sortsErr ns es sn se) (hostErr ns es gn ge vs)
theorem e500 (sn se : List Int) : ev 500 [ndsD ns, edsD es, intsD sn, intsD se, intsD gn, gesD ge, valsD vs] = some [.int (validErr ns es sn se gn ge vs)] := by
  obtain ⟨n, h⟩ := e4300 ht hg1 hg2 (vs := vs)
  refine ev_by u500 ?_
  simp only [t500, go_sem, e600 ht, h]
  unfold validErr thenE
  split
  · rename_i h0; rw [cond_eq h0]
  · rename_i h0; rw [cond_ne h0]
theorem e7700 (sn se : List Int) : ev 7700 [ndsD ns, edsD es, intsD sn, intsD se, intsD gn, gesD ge, valsD vs] = some [.int (validErr ns es sn se gn ge vs)] := by
  obtain ⟨n, h⟩ := e9700 ht hg1 hg2 (vs := vs)
  refine ev_by u7700 ?_
  simp only [t7700, go_sem, e7800 ht, h]
  unfold validErr thenE
  split
  · rename_i h0; rw [cond_eq h0]
  · rename_i h0; rw [cond_ne h0]
end
end Go.SX.T52
