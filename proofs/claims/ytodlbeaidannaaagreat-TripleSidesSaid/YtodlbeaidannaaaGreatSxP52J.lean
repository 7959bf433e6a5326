/-
Chapter 52, plain: linked pairs, up to their order.
-/
import Derived.Test.YtodlbeaidannaaaGreatSxP52I
set_option linter.unusedVariables false
set_option linter.unusedSimpArgs false
set_option linter.unusedSectionVars false
namespace Go.SX.T52
open Go.SX

/-! ### Pairs gathered -/
abbrev Pr.d (p : Int × Int) : D := .agg [.int p.1, .int p.2]
abbrev prsD (l : List (Int × Int)) : D := .list (l.map Pr.d)
def eqP (p q : Int × Int) : Bool := eqI p.1 q.1 && eqI p.2 q.2
theorem eqP_iff (p q : Int × Int) : eqP p q = true ↔ p = q := by
  obtain ⟨a, b⟩ := p
  obtain ⟨c, d⟩ := q
  simp only [eqP, and_iff, eqI_iff, Prod.mk.injEq]
def hasP (l : List (Int × Int)) (p : Int × Int) : Bool := anyK (fun j => eqP p (l.getD j default)) l.length 0
theorem hasP_iff {l : List (Int × Int)} {p : Int × Int} : hasP l p = true ↔ p ∈ l := by
  unfold hasP
  constructor
  · intro h
    obtain ⟨j, _, h2, h3⟩ := anyK_true _ _ h
    rw [eqP_iff] at h3
    rw [h3]
    exact getD_mem (by omega)
  · intro h
    obtain ⟨j, hj, hje⟩ := mem_getD h
    exact anyK_of (j := j) (by omega) (by omega) ((eqP_iff _ _).2 hje.symm)
theorem e6801 (l : List (Int × Int)) (hl : l.length ≤ 1000000) (a b : Int) (x : D) : ∀ i, i ≤ l.length → ev 6801 [prsD l, .int a, .int b, x, .int l.length, .int i] = some [.int (findK (fun j => eqP (a, b) (l.getD j default)) (l.length - i) i)] := by
  refine down ?_ fun i hi ih => ?_
  · refine ev_by u6801 ?_
    simp only [t6801, go_sem, findK_end, ltI_irr]
  · have hin : (leI 0 i && ltI i l.length) = true := by rw [and_iff, leI_iff, ltI_iff]; omega
    refine ev_by u6801 ?_
    simp only [t6801, go_sem, List.length_map, idx_map _ _ _ hi, hin, wrapS i (by omega), ih]
    rw [findK_step _ hi, cond_lt (by omega)]
    have hx : eqP (a, b) (l.getD i default) = (eqI a (l.getD i default).1 && eqI b (l.getD i default).2) := rfl
    rw [hx]
    cases eqI a (l.getD i default).1 && eqI b (l.getD i default).2 <;> rfl
theorem e6700 (l : List (Int × Int)) (hl : l.length ≤ 1000000) (a b : Int) : ev 6700 [prsD l, .int a, .int b] = some [.bool (hasP l (a, b))] := by
  have h : ev 6800 [prsD l, .int a, .int b] = some [.int (findK (fun j => eqP (a, b) (l.getD j default)) l.length 0)] := by
    refine ev_by u6800 ?_
    simp only [t6800, go_sem, List.length_map]
    exact e6801 l hl a b _ 0 (by omega)
  refine ev_by u6700 ?_
  simp only [t6700, go_sem, h, leI_find]
  rfl
theorem e6600 {sn gn : List Int} {se : D} {ge : D} {v : Int} (h1 : 0 ≤ v) (h2 : v < gn.length) (h3 : 0 ≤ gn.getD v.toNat default) (h4 : gn.getD v.toNat default < sn.length) : ev 6600 [.int v, intsD sn, se, intsD gn, ge] = some [.int (sn.getD (gn.getD v.toNat default).toNat default)] := by
  have hin : (leI 0 v && ltI v gn.length) = true := by rw [and_iff, leI_iff, ltI_iff]; omega
  have hk : (leI 0 (gn.getD v.toNat default) && ltI (gn.getD v.toNat default) sn.length) = true := by rw [and_iff, leI_iff, ltI_iff]; omega
  refine ev_by u6600 ?_
  simp only [t6600, go_sem, List.length_map, idx_map _ gn v.toNat (by omega), hin, hk, idx_map _ sn (gn.getD v.toNat default).toNat (by omega)]
def soOf (sn gn : List Int) (v : Int) : Int := sn.getD (gn.getD v.toNat default).toNat default
/-- Whether two edges tell a link. -/
def tells (sn gn : List Int) (x y : Ge) : Bool := eqI x.src y.src && (eqI (soOf sn gn x.src) 2 && (eqI (soOf sn gn x.dst) 1 && eqI (soOf sn gn y.dst) 3))
def addP (acc : List (Int × Int)) (p : Int × Int) : List (Int × Int) := bif hasP acc p then acc else acc ++ [p]
def inner (sn gn : List Int) (ge : List Ge) (x : Ge) : Nat → Nat → List (Int × Int) → List (Int × Int)
  | 0, _, acc => acc
  | k + 1, j, acc => inner sn gn ge x k (j + 1) (bif tells sn gn x (ge.getD j default) then addP acc (x.dst, (ge.getD j default).dst) else acc)
def outer (sn gn : List Int) (ge : List Ge) : Nat → Nat → List (Int × Int) → List (Int × Int)
  | 0, _, acc => acc
  | k + 1, i, acc => outer sn gn ge k (i + 1) (inner sn gn ge (ge.getD i default) ge.length 0 acc)
theorem addP_len (acc : List (Int × Int)) (p : Int × Int) : (addP acc p).length ≤ acc.length + 1 := by
  unfold addP
  cases hasP acc p <;> simp
theorem inner_len (sn gn : List Int) (ge : List Ge) (x : Ge) : ∀ k j acc, (inner sn gn ge x k j acc).length ≤ acc.length + k
  | 0, j, acc => by simp [inner]
  | k + 1, j, acc => by
    unfold inner
    cases tells sn gn x (ge.getD j default)
    · have := inner_len sn gn ge x k (j + 1) acc
      simp only [go_sem]; omega
    · have := inner_len sn gn ge x k (j + 1) (addP acc (x.dst, (ge.getD j default).dst))
      have := addP_len acc (x.dst, (ge.getD j default).dst)
      simp only [go_sem]; omega
theorem addP_nodup {acc : List (Int × Int)} {p : Int × Int} (h : acc.Nodup) : (addP acc p).Nodup := by
  unfold addP
  cases hc : hasP acc p
  · have hn : p ∉ acc := fun hm => by rw [hasP_iff.2 hm] at hc; cases hc
    simp only [go_sem]
    rw [List.nodup_append]
    refine ⟨h, by simp, fun a ha b hb => ?_⟩
    simp only [List.mem_singleton] at hb
    rw [hb]
    intro he
    exact hn (he ▸ ha)
  · exact h
theorem addP_mem {acc : List (Int × Int)} {p q : Int × Int} : q ∈ addP acc p ↔ q ∈ acc ∨ q = p := by
  unfold addP
  cases hc : hasP acc p
  · simp
  · simp only [go_sem]
    rw [hasP_iff] at hc
    constructor
    · exact .inl
    · rintro (h | h)
      · exact h
      · rw [h]; exact hc
theorem inner_nodup (sn gn : List Int) (ge : List Ge) (x : Ge) : ∀ k j acc, acc.Nodup → (inner sn gn ge x k j acc).Nodup
  | 0, j, acc, h => h
  | k + 1, j, acc, h => by
    unfold inner
    cases tells sn gn x (ge.getD j default)
    · exact inner_nodup sn gn ge x k (j + 1) acc h
    · exact inner_nodup sn gn ge x k (j + 1) _ (addP_nodup h)
theorem inner_mem (sn gn : List Int) (ge : List Ge) (x : Ge) (q : Int × Int) : ∀ k j acc, q ∈ inner sn gn ge x k j acc ↔ q ∈ acc ∨ ∃ i, j ≤ i ∧ i < j + k ∧ tells sn gn x (ge.getD i default) = true ∧ q = (x.dst, (ge.getD i default).dst)
  | 0, j, acc => by
    unfold inner
    constructor
    · exact .inl
    · rintro (h | ⟨i, h1, h2, _⟩)
      · exact h
      · omega
  | k + 1, j, acc => by
    unfold inner
    rw [inner_mem sn gn ge x q k (j + 1)]
    cases ht : tells sn gn x (ge.getD j default)
    · simp only [go_sem]
      constructor
      · rintro (h | ⟨i, h1, h2, h3, h4⟩)
        · exact .inl h
        · exact .inr ⟨i, by omega, by omega, h3, h4⟩
      · rintro (h | ⟨i, h1, h2, h3, h4⟩)
        · exact .inl h
        · by_cases hij : i = j
          · rw [hij, ht] at h3; cases h3
          · exact .inr ⟨i, by omega, by omega, h3, h4⟩
    · simp only [go_sem, addP_mem]
      constructor
      · rintro ((h | h) | ⟨i, h1, h2, h3, h4⟩)
        · exact .inl h
        · exact .inr ⟨j, by omega, by omega, ht, h⟩
        · exact .inr ⟨i, by omega, by omega, h3, h4⟩
      · rintro (h | ⟨i, h1, h2, h3, h4⟩)
        · exact .inl (.inl h)
        · by_cases hij : i = j
          · rw [hij] at h4; exact .inl (.inr h4)
          · exact .inr ⟨i, by omega, by omega, h3, h4⟩
theorem outer_nodup (sn gn : List Int) (ge : List Ge) : ∀ k i acc, acc.Nodup → (outer sn gn ge k i acc).Nodup
  | 0, i, acc, h => h
  | k + 1, i, acc, h => outer_nodup sn gn ge k (i + 1) _ (inner_nodup sn gn ge _ _ _ _ h)
theorem outer_mem (sn gn : List Int) (ge : List Ge) (q : Int × Int) : ∀ k i acc, q ∈ outer sn gn ge k i acc ↔ q ∈ acc ∨ ∃ a b, i ≤ a ∧ a < i + k ∧ b < ge.length ∧ tells sn gn (ge.getD a default) (ge.getD b default) = true ∧ q = ((ge.getD a default).dst, (ge.getD b default).dst)
  | 0, i, acc => by
    unfold outer
    constructor
    · exact .inl
    · rintro (h | ⟨a, b, h1, h2, _⟩)
      · exact h
      · omega
  | k + 1, i, acc => by
    unfold outer
    rw [outer_mem sn gn ge q k (i + 1), inner_mem]
    constructor
    · rintro ((h | ⟨b, h1, h2, h3, h4⟩) | ⟨a, b, h1, h2, h3, h4, h5⟩)
      · exact .inl h
      · exact .inr ⟨i, b, by omega, by omega, by omega, h3, h4⟩
      · exact .inr ⟨a, b, by omega, by omega, h3, h4, h5⟩
    · rintro (h | ⟨a, b, h1, h2, h3, h4, h5⟩)
      · exact .inl (.inl h)
      · by_cases hai : a = i
        · rw [hai] at h4 h5; exact .inl (.inr ⟨b, by omega, by omega, h4, h5⟩)
        · exact .inr ⟨a, b, by omega, by omega, h3, h4, h5⟩
theorem outer_len (sn gn : List Int) (ge : List Ge) : ∀ k i acc, (outer sn gn ge k i acc).length ≤ acc.length + k * ge.length
  | 0, i, acc => by simp [outer]
  | k + 1, i, acc => by
    unfold outer
    have h1 := outer_len sn gn ge k (i + 1) (inner sn gn ge (ge.getD i default) ge.length 0 acc)
    have h2 := inner_len sn gn ge (ge.getD i default) ge.length 0 acc
    rw [Nat.succ_mul]
    omega
def linkSet (sn gn : List Int) (ge : List Ge) : List (Int × Int) := outer sn gn ge ge.length 0 []
theorem linkSet_mem {sn gn : List Int} {ge : List Ge} {q : Int × Int} : q ∈ linkSet sn gn ge ↔ ∃ a b, a < ge.length ∧ b < ge.length ∧ tells sn gn (ge.getD a default) (ge.getD b default) = true ∧ q = ((ge.getD a default).dst, (ge.getD b default).dst) := by
  unfold linkSet
  rw [outer_mem]
  constructor
  · rintro (h | ⟨a, b, _, h2, h3, h4, h5⟩)
    · cases h
    · exact ⟨a, b, by omega, h3, h4, h5⟩
  · rintro ⟨a, b, h1, h2, h3, h4⟩
    exact .inr ⟨a, b, by omega, by omega, h2, h3, h4⟩
theorem linkSet_nodup (sn gn : List Int) (ge : List Ge) : (linkSet sn gn ge).Nodup := outer_nodup _ _ _ _ _ _ .nil
theorem linkSet_len (sn gn : List Int) (ge : List Ge) : (linkSet sn gn ge).length ≤ ge.length * ge.length := by
  have := outer_len sn gn ge ge.length 0 []
  simpa [linkSet] using this
section
variable {sn se gn : List Int} {ge : List Ge} {vs : List (List Int)} (V : VH sn se gn ge vs)
include V
theorem e403 (a b : D) (v7 v8 : D) {i : Nat} (hi : i < ge.length) : ∀ j, j ≤ ge.length → ∀ acc : List (Int × Int), acc.length + (ge.length - j) ≤ 1000000 →
    ev 403 [a, b, intsD sn, intsD se, intsD gn, gesD ge, valsD vs, v7, v8, .int i, .int ge.length, .int j, prsD acc, .int (ge.getD i default).ty, .int (ge.getD i default).src, .int (ge.getD i default).dst] =
      ev 401 [a, b, intsD sn, intsD se, intsD gn, gesD ge, valsD vs, v7, v8, .int (i + 1 : Nat), prsD (inner sn gn ge (ge.getD i default) (ge.length - j) j acc)] := by
  have l2 := V.l2
  obtain ⟨k1, k2, k3, k4, k5, k6⟩ := V.ek i hi
  have n1 := V.nk (ge.getD i default).src.toNat (by omega)
  have n2 := V.nk (ge.getD i default).dst.toNat (by omega)
  refine down ?_ fun j hj ih => ?_
  · intro acc _
    rw [ev_eq u403 rfl]
    simp only [t403, go_sem, ltI_irr, wrapS i (by omega)]
    rw [Nat.sub_self]
    rfl
  · intro acc hacc
    have hin : (leI 0 j && ltI j ge.length) = true := by rw [and_iff, leI_iff, ltI_iff]; omega
    obtain ⟨m1, m2, m3, m4, m5, m6⟩ := V.ek j hj
    have n3 := V.nk (ge.getD j default).dst.toNat (by omega)
    have s1 := e6600 (sn := sn) (gn := gn) (se := intsD se) (ge := gesD ge) k3 k4 n1.1 n1.2
    have s2 := e6600 (sn := sn) (gn := gn) (se := intsD se) (ge := gesD ge) k5 k6 n2.1 n2.2
    have s3 := e6600 (sn := sn) (gn := gn) (se := intsD se) (ge := gesD ge) m5 m6 n3.1 n3.2
    have hc := e6700 acc (by omega) (ge.getD i default).dst (ge.getD j default).dst
    have e1 : acc.map Pr.d ++ [.agg [.int (ge.getD i default).dst, .int (ge.getD j default).dst]] = (acc ++ [((ge.getD i default).dst, (ge.getD j default).dst)]).map Pr.d := by simp
    rw [show ge.length - j = (ge.length - (j + 1)) + 1 by omega]
    have hx : inner sn gn ge (ge.getD i default) ((ge.length - (j + 1)) + 1) j acc = inner sn gn ge (ge.getD i default) (ge.length - (j + 1)) (j + 1) (bif tells sn gn (ge.getD i default) (ge.getD j default) then addP acc ((ge.getD i default).dst, (ge.getD j default).dst) else acc) := rfl
    rw [hx]
    have ih0 := ih acc (by omega)
    have ih1 := ih (acc ++ [((ge.getD i default).dst, (ge.getD j default).dst)]) (by simp; omega)
    rw [ev_eq u403 rfl]
    simp only [t403, go_sem, List.length_map, idx_map _ _ _ hj, hin, s1, s2, s3, hc, wrapS j (by omega), e1, ih0, ih1]
    rw [cond_lt (by omega), cond_le (by omega)]
    have ht : tells sn gn (ge.getD i default) (ge.getD j default) = (eqI (ge.getD i default).src (ge.getD j default).src && (eqI (sn.getD (gn.getD (ge.getD i default).src.toNat default).toNat default) 2 && (eqI (sn.getD (gn.getD (ge.getD i default).dst.toNat default).toNat default) 1 && eqI (sn.getD (gn.getD (ge.getD j default).dst.toNat default).toNat default) 3))) := rfl
    have ha : addP acc ((ge.getD i default).dst, (ge.getD j default).dst) = bif hasP acc ((ge.getD i default).dst, (ge.getD j default).dst) then acc else acc ++ [((ge.getD i default).dst, (ge.getD j default).dst)] := rfl
    rw [ht, ha]
    cases eqI (ge.getD i default).src (ge.getD j default).src
    · rfl
    · cases eqI (sn.getD (gn.getD (ge.getD i default).src.toNat default).toNat default) 2
      · rfl
      · cases eqI (sn.getD (gn.getD (ge.getD i default).dst.toNat default).toNat default) 1
        · rfl
        · cases eqI (sn.getD (gn.getD (ge.getD j default).dst.toNat default).toNat default) 3
          · rfl
          · cases hasP acc ((ge.getD i default).dst, (ge.getD j default).dst) <;> rfl
theorem e401 (a b : D) (v7 : D) : ∀ i, i ≤ ge.length → ∀ acc : List (Int × Int), acc.length + (ge.length - i) * ge.length ≤ 900000 →
    ev 401 [a, b, intsD sn, intsD se, intsD gn, gesD ge, valsD vs, v7, .int ge.length, .int i, prsD acc] = callK (ev 6900 [prsD (outer sn gn ge (ge.length - i) i acc)]) 1 fun rs => some [rs.getD 0 default, .int 0] := by
  have l2 := V.l2
  refine down ?_ fun i hi ih => ?_
  · intro acc _
    rw [ev_eq u401 rfl]
    simp only [t401, go_sem, ltI_irr]
    rw [Nat.sub_self]
    rfl
  · intro acc hacc
    have hin : (leI 0 i && ltI i ge.length) = true := by rw [and_iff, leI_iff, ltI_iff]; omega
    have h403 := e403 V a b v7 (.int ge.length) hi 0 (by omega) acc (by
      have : (ge.length - i) * ge.length ≥ 1 * ge.length := Nat.mul_le_mul_right _ (by omega)
      omega)
    rw [Nat.sub_zero] at h403
    have hlen := inner_len sn gn ge (ge.getD i default) ge.length 0 acc
    have ih0 := ih (inner sn gn ge (ge.getD i default) ge.length 0 acc) (by
      have : (ge.length - i) * ge.length = (ge.length - (i + 1)) * ge.length + ge.length := by
        rw [show ge.length - i = (ge.length - (i + 1)) + 1 by omega, Nat.succ_mul]
      omega)
    rw [show ge.length - i = (ge.length - (i + 1)) + 1 by omega]
    have hx : outer sn gn ge ((ge.length - (i + 1)) + 1) i acc = outer sn gn ge (ge.length - (i + 1)) (i + 1) (inner sn gn ge (ge.getD i default) ge.length 0 acc) := rfl
    rw [hx, ← ih0]
    rw [ev_eq u401 rfl]
    simp only [t401, go_sem, List.length_map, idx_map _ _ _ hi, hin]
    rw [cond_lt (by omega)]
    exact h403
end
/-- The links, up to their order. -/
theorem e400 {ns : List Nd} {es : List Ed} (ht : OkT ns es) {sn se gn : List Int} {ge : List Ge} {vs : List (List Int)} (hf : FewH gn ge vs) (h0 : validErr ns es sn se gn ge vs = 0) :
    ev 400 [ndsD ns, edsD es, intsD sn, intsD se, intsD gn, gesD ge, valsD vs] = callK (ev 6900 [prsD (linkSet sn gn ge)]) 1 fun rs => some [rs.getD 0 default, .int 0] := by
  obtain ⟨f1, f2, f3, f4⟩ := hf
  have hv := e500 ht (gn := gn) (ge := ge) (vs := vs) (by omega) (by omega) sn se
  rw [h0] at hv
  obtain ⟨_, _, V⟩ := validErr_ok h0
  have l2 := V.l2
  have h00 : eqI 0 0 = true := by decide
  have h := e401 V (ndsD ns) (edsD es) (.int 0) 0 (by omega) [] (by
    have : (ge.length - 0) * ge.length ≤ 80 * 80 := Nat.mul_le_mul (by omega) (by omega)
    simp only [List.length_nil]
    omega)
  rw [Nat.sub_zero] at h
  rw [ev_eq u400 rfl]
  simp only [t400, go_sem, hv, h00, List.length_map]
  exact h
theorem e400n {ns : List Nd} {es : List Ed} (ht : OkT ns es) {sn se gn : List Int} {ge : List Ge} {vs : List (List Int)} (hf : FewH gn ge vs) (h0 : validErr ns es sn se gn ge vs ≠ 0) :
    ev 400 [ndsD ns, edsD es, intsD sn, intsD se, intsD gn, gesD ge, valsD vs] = some [prsD [], .int (validErr ns es sn se gn ge vs)] := by
  obtain ⟨f1, f2, f3, f4⟩ := hf
  have hv := e500 ht (gn := gn) (ge := ge) (vs := vs) (by omega) (by omega) sn se
  refine ev_by u400 ?_
  simp only [t400, go_sem, hv]
  rw [cond_ne h0]
  rfl
end Go.SX.T52
