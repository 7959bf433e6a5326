/-
Chapter 52, plain: the elements of a sort, pairs of hosts, hosts compared with themselves.
-/
import Derived.Test.YtodlbeaidannaaaGreatSxP52G
set_option linter.unusedVariables false
set_option linter.unusedSimpArgs false
set_option linter.unusedSectionVars false
namespace Go.SX.T52
open Go.SX

/-! ### Valid triples -/
structure VH (sn se gn : List Int) (ge : List Ge) (vs : List (List Int)) : Prop where
  nk : ∀ j, j < gn.length → 0 ≤ gn.getD j default ∧ gn.getD j default < sn.length
  ek : ∀ j, j < ge.length → 0 ≤ (ge.getD j default).ty ∧ (ge.getD j default).ty < se.length ∧ 0 ≤ (ge.getD j default).src ∧ (ge.getD j default).src < gn.length ∧ 0 ≤ (ge.getD j default).dst ∧ (ge.getD j default).dst < gn.length
  l1 : gn.length ≤ 40
  l2 : ge.length ≤ 80
  lv : vs.length = gn.length
theorem thenE_ok {a b : Int} (h : thenE a b = 0) : a = 0 ∧ b = 0 := by
  unfold thenE at h
  split at h
  · rename_i h0; exact ⟨h0, h⟩
  · rename_i h0; exact absurd h h0
theorem edgeV_in {ns : List Nd} {es : List Ed} {gn : List Int} {ge : List Ge} {i : Nat} (h : edgeV ns es gn ge i = 0) : (ge.getD i default).ty < es.length := by
  unfold edgeV at h
  revert h
  cases hc : leI es.length (ge.getD i default).ty
  · rw [leI_false] at hc
    exact fun _ => hc
  · intro h; cases h
theorem hostErr_ok {ns : List Nd} {es : List Ed} {gn : List Int} {ge : List Ge} {vs : List (List Int)} (h : hostErr ns es gn ge vs = 0) : typesErr ns es = 0 ∧ graphErr gn ge = 0 ∧ vs.length = gn.length ∧
    (∀ j, j < gn.length → nodeVErr ns (gn.getD j default) (vs.getD j default) = 0) ∧ ∀ j, j < ge.length → edgeV ns es gn ge j = 0 := by
  unfold hostErr at h
  obtain ⟨h1, h⟩ := thenE_ok h
  obtain ⟨h2, h⟩ := thenE_ok h
  split at h
  · rename_i h3
    obtain ⟨h4, h5⟩ := thenE_ok h
    exact ⟨h1, h2, h3, fun j hj => scan_zero _ _ h4 j (by omega) (by omega), fun j hj => scan_zero _ _ h5 j (by omega) (by omega)⟩
  · cases h
theorem validErr_ok {ns : List Nd} {es : List Ed} {sn se gn : List Int} {ge : List Ge} {vs : List (List Int)} (h : validErr ns es sn se gn ge vs = 0) : sortsErr ns es sn se = 0 ∧ hostErr ns es gn ge vs = 0 ∧ VH sn se gn ge vs := by
  unfold validErr at h
  obtain ⟨h1, h2⟩ := thenE_ok h
  obtain ⟨_, a1, a2, _, _⟩ := sortsErr_ok h1
  obtain ⟨_, g0, b1, b2, b3⟩ := hostErr_ok h2
  obtain ⟨c1, c2, c3, c4⟩ := graphErr_ok g0
  exact ⟨h1, h2, ⟨fun j hj => ⟨c3 j hj, by rw [a1]; exact nodeVErr_in (b2 j hj)⟩, fun j hj => ⟨(c4 j hj).1, by rw [a2]; exact edgeV_in (b3 j hj), (c4 j hj).2⟩, c1, c2, b1⟩⟩

/-! ### The elements of a sort -/
def idxK (p : Nat → Bool) : Nat → Nat → List Int
  | 0, _ => []
  | k + 1, i => (bif p i then [(i : Int)] else []) ++ idxK p k (i + 1)
theorem idxK_end (p : Nat → Bool) (n : Nat) : idxK p (n - n) n = [] := by rw [Nat.sub_self]; rfl
theorem idxK_step (p : Nat → Bool) {n i : Nat} (h : i < n) : idxK p (n - i) i = (bif p i then [(i : Int)] else []) ++ idxK p (n - (i + 1)) (i + 1) := by
  rw [show n - i = (n - (i + 1)) + 1 by omega]
  rfl
theorem idxK_len (p : Nat → Bool) : ∀ (k i : Nat), (idxK p k i).length ≤ k
  | 0, i => by simp [idxK]
  | k + 1, i => by
    have := idxK_len p k (i + 1)
    unfold idxK
    cases p i <;> simp <;> omega
theorem idxK_mem {p : Nat → Bool} : ∀ {k i : Nat} {x : Int}, x ∈ idxK p k i ↔ ∃ j : Nat, x = j ∧ i ≤ j ∧ j < i + k ∧ p j = true
  | 0, i, x => by
    simp only [idxK, List.not_mem_nil, false_iff]
    rintro ⟨j, _, h1, h2, _⟩
    omega
  | k + 1, i, x => by
    unfold idxK
    rw [List.mem_append, idxK_mem]
    constructor
    · rintro (h | ⟨j, h1, h2, h3, h4⟩)
      · cases hp : p i
        · rw [hp] at h; cases h
        · rw [hp] at h
          simp only [go_sem, List.mem_singleton] at h
          exact ⟨i, h, by omega, by omega, hp⟩
      · exact ⟨j, h1, by omega, by omega, h4⟩
    · rintro ⟨j, h1, h2, h3, h4⟩
      by_cases hji : j = i
      · subst hji
        rw [h4]
        exact .inl (by simp [h1])
      · exact .inr ⟨j, h1, by omega, by omega, h4⟩
def partV (sn gn : List Int) (s : Int) : List Int := idxK (fun j => eqI (sn.getD (gn.getD j default).toNat default) s) gn.length 0
def partE (se : List Int) (ge : List Ge) (s : Int) : List Int := idxK (fun j => eqI (se.getD (ge.getD j default).ty.toNat default) s) ge.length 0
theorem app_one (o : List Int) (i : Int) : o.map D.int ++ [.int i] = (o ++ [i]).map D.int := by simp
section
variable {sn se gn : List Int} {ge : List Ge} {vs : List (List Int)} (h : VH sn se gn ge vs) (s : Int)
include h
theorem e11903 {e : D} (a b c d : D) : ∀ i, i ≤ ge.length → ∀ o : List Int, o.length ≤ i → ev 11903 [a, intsD se, b, gesD ge, .int s, c, d, .int ge.length, .int i, e, intsD o] = some [e, intsD (o ++ idxK (fun j => eqI (se.getD (ge.getD j default).ty.toNat default) s) (ge.length - i) i)] := by
  have hl := h.l2
  refine down ?_ fun i hi ih => ?_
  · intro o ho
    refine ev_by u11903 ?_
    simp only [t11903, go_sem, ltI_irr, idxK_end, List.append_nil]
  · intro o ho
    have hin : (leI 0 i && ltI i ge.length) = true := by rw [and_iff, leI_iff, ltI_iff]; omega
    obtain ⟨k1, k2, _⟩ := h.ek i hi
    have hk : (leI 0 (ge.getD i default).ty && ltI (ge.getD i default).ty se.length) = true := by rw [and_iff, leI_iff, ltI_iff]; omega
    refine ev_by u11903 ?_
    simp only [t11903, go_sem, List.length_map, idx_map _ _ _ hi, hin, hk, idx_map _ se (ge.getD i default).ty.toNat (by omega), wrapS i (by omega), app_one]
    rw [cond_lt (by omega), cond_le (by omega), idxK_step _ hi]
    cases eqI (se.getD (ge.getD i default).ty.toNat default) s
    · exact ih o (by omega)
    · have := ih (o ++ [(i : Int)]) (by simp; omega)
      simp only [go_sem, this, List.append_assoc]
theorem e11901 : ∀ i, i ≤ gn.length → ∀ o : List Int, o.length ≤ i → ev 11901 [intsD sn, intsD se, intsD gn, gesD ge, .int s, .int gn.length, .int i, intsD o, intsD []] = some [intsD (o ++ idxK (fun j => eqI (sn.getD (gn.getD j default).toNat default) s) (gn.length - i) i), intsD (partE se ge s)] := by
  have hl := h.l1
  refine down ?_ fun i hi ih => ?_
  · intro o ho
    refine ev_by u11901 ?_
    simp only [t11901, go_sem, List.length_map, ltI_irr, idxK_end, List.append_nil]
    exact e11903 h s _ _ _ _ 0 (by omega) [] (by simp)
  · intro o ho
    have hin : (leI 0 i && ltI i gn.length) = true := by rw [and_iff, leI_iff, ltI_iff]; omega
    obtain ⟨k1, k2⟩ := h.nk i hi
    have hk : (leI 0 (gn.getD i default) && ltI (gn.getD i default) sn.length) = true := by rw [and_iff, leI_iff, ltI_iff]; omega
    refine ev_by u11901 ?_
    simp only [t11901, go_sem, List.length_map, idx_map _ _ _ hi, hin, hk, idx_map _ sn (gn.getD i default).toNat (by omega), wrapS i (by omega), app_one]
    rw [cond_lt (by omega), cond_le (by omega), idxK_step _ hi]
    cases eqI (sn.getD (gn.getD i default).toNat default) s
    · exact ih o (by omega)
    · have := ih (o ++ [(i : Int)]) (by simp; omega)
      rw [List.append_assoc] at this
      exact this
theorem e11900 : ev 11900 [intsD sn, intsD se, intsD gn, gesD ge, .int s] = some [intsD (partV sn gn s), intsD (partE se ge s)] := by
  refine ev_by u11900 ?_
  simp only [t11900, go_sem, List.length_map]
  exact e11901 h s 0 (by omega) [] (by simp)
theorem e10603 {e : D} (a b c : D) : ∀ i, i ≤ ge.length → ∀ o : List Int, o.length ≤ i → ev 10603 [a, intsD se, b, gesD ge, .int s, c, .int i, e, intsD o] = some [e, intsD (o ++ idxK (fun j => eqI (se.getD (ge.getD j default).ty.toNat default) s) (ge.length - i) i)] := by
  have hl := h.l2
  refine down ?_ fun i hi ih => ?_
  · intro o ho
    refine ev_by u10603 ?_
    simp only [t10603, go_sem, List.length_map, ltI_irr, idxK_end, List.append_nil]
  · intro o ho
    have hin : (leI 0 i && ltI i ge.length) = true := by rw [and_iff, leI_iff, ltI_iff]; omega
    obtain ⟨k1, k2, _⟩ := h.ek i hi
    have hk : (leI 0 (ge.getD i default).ty && ltI (ge.getD i default).ty se.length) = true := by rw [and_iff, leI_iff, ltI_iff]; omega
    refine ev_by u10603 ?_
    simp only [t10603, go_sem, List.length_map, idx_map _ _ _ hi, hin, hk, idx_map _ se (ge.getD i default).ty.toNat (by omega), wrapS i (by omega), app_one]
    rw [cond_lt (by omega), cond_le (by omega), idxK_step _ hi]
    cases eqI (se.getD (ge.getD i default).ty.toNat default) s
    · exact ih o (by omega)
    · have := ih (o ++ [(i : Int)]) (by simp; omega)
      simp only [go_sem, this, List.append_assoc]
theorem e10601 : ∀ i, i ≤ gn.length → ∀ o : List Int, o.length ≤ i → ev 10601 [intsD sn, intsD se, intsD gn, gesD ge, .int s, .int i, intsD o, intsD []] = some [intsD (o ++ idxK (fun j => eqI (sn.getD (gn.getD j default).toNat default) s) (gn.length - i) i), intsD (partE se ge s)] := by
  have hl := h.l1
  refine down ?_ fun i hi ih => ?_
  · intro o ho
    refine ev_by u10601 ?_
    simp only [t10601, go_sem, List.length_map, ltI_irr, idxK_end, List.append_nil]
    exact e10603 h s _ _ _ 0 (by omega) [] (by simp)
  · intro o ho
    have hin : (leI 0 i && ltI i gn.length) = true := by rw [and_iff, leI_iff, ltI_iff]; omega
    obtain ⟨k1, k2⟩ := h.nk i hi
    have hk : (leI 0 (gn.getD i default) && ltI (gn.getD i default) sn.length) = true := by rw [and_iff, leI_iff, ltI_iff]; omega
    refine ev_by u10601 ?_
    simp only [t10601, go_sem, List.length_map, idx_map _ _ _ hi, hin, hk, idx_map _ sn (gn.getD i default).toNat (by omega), wrapS i (by omega), app_one]
    rw [cond_lt (by omega), cond_le (by omega), idxK_step _ hi]
    cases eqI (sn.getD (gn.getD i default).toNat default) s
    · exact ih o (by omega)
    · have := ih (o ++ [(i : Int)]) (by simp; omega)
      rw [List.append_assoc] at this
      exact this
theorem e10600 : ev 10600 [intsD sn, intsD se, intsD gn, gesD ge, .int s] = some [intsD (partV sn gn s), intsD (partE se ge s)] := by
  refine ev_by u10600 ?_
  simp only [t10600, go_sem]
  exact e10601 h s 0 (by omega) [] (by simp)
def onlyB (sn se gn : List Int) (ge : List Ge) (s : Int) : Bool := eqI (partV sn gn s).length gn.length && eqI (partE se ge s).length ge.length
theorem e11800 : ev 11800 [intsD sn, intsD se, intsD gn, gesD ge, .int s] = some [.bool (onlyB sn se gn ge s)] := by
  refine ev_by u11800 ?_
  simp only [t11800, go_sem, e11900 h s, List.length_map]
  unfold onlyB
  cases eqI (partV sn gn s).length gn.length <;> rfl
theorem e12600 : ev 12600 [intsD sn, intsD se, intsD gn, gesD ge, .int s] = some [.bool (onlyB sn se gn ge s)] := by
  refine ev_by u12600 ?_
  simp only [t12600, go_sem, e10600 h s, List.length_map]
  unfold onlyB
  cases eqI (partV sn gn s).length gn.length <;> rfl
end

/-! ### Lists put together -/
theorem e12100 {n : Nat} (hn : n ≤ 1000000) : ev 12100 [.int n] = some [intsD []] := by
  have z : IntKind.i64.wrap (0 - 0) = 0 := by decide
  have z2 : (n : Int) - 0 = n := by omega
  refine ev_by u12100 ?_
  simp only [t12100, go_sem, z, z2, nowrap (n := (n : Int)) (by omega) (by omega), List.take_zero, List.length_replicate, Int.toNat_natCast]
  rw [cond_nlt (by omega)]
  by_cases h : 0 < n
  · rw [cond_lt (by omega), cond_le (by omega), cond_le (by omega), cond_le (by omega)]
    rfl
  · rw [cond_nlt (by omega)]
    rfl
theorem e12000 (a b : List Int) (ha : a.length ≤ 1000) (hb : b.length ≤ 1000) : ev 12000 [.list [intsD a, intsD b]] = some [intsD (a ++ b)] := by
  have c0 : IntKind.i64.wrap (0 + (a.length : Int)) = ((a.length : Nat) : Int) := by rw [nowrap (by omega) (by omega)]; omega
  have c1 : IntKind.i64.wrap ((a.length : Int) + (b.length : Int)) = ((a.length + b.length : Nat) : Int) := by rw [nowrap (by omega) (by omega)]; omega
  have w0 : IntKind.i64.wrap (0 + 1) = 1 := by decide
  have w1 : IntKind.i64.wrap (1 + 1) = 2 := by decide
  have l01 : (leI 0 0 && ltI 0 2) = true := by decide
  have l11 : (leI 0 1 && ltI 1 2) = true := by decide
  have s3 : ∀ (x y z : D), ev 12003 [.list [intsD a, intsD b], x, y, z, .int 2, .int 2, intsD (a ++ b)] = some [intsD (a ++ b)] := by
    intro x y z
    refine ev_by u12003 ?_
    simp only [t12003, go_sem, ltI_irr]
  have s2 : ∀ (x y z : D), ev 12003 [.list [intsD a, intsD b], x, y, z, .int 2, .int 1, intsD a] = some [intsD (a ++ b)] := by
    intro x y z
    refine ev_by u12003 ?_
    simp only [t12003, go_sem, List.length_map, List.length_cons, List.length_nil, l11, w1, ← List.map_append]
    rw [cond_lt (by decide), cond_in (by decide) (by decide), cond_le (by omega), cond_le (by omega)]
    exact s3 x y z
  have s1 : ∀ (x y z : D), ev 12003 [.list [intsD a, intsD b], x, y, z, .int 2, .int 0, intsD []] = some [intsD (a ++ b)] := by
    intro x y z
    refine ev_by u12003 ?_
    simp only [t12003, go_sem, List.length_map, List.length_cons, List.length_nil, l01, w0]
    rw [cond_lt (by decide), cond_in (by decide) (by decide), cond_le (by decide), cond_le (by omega)]
    exact s2 x y z
  have r2 : ev 12001 [.list [intsD a, intsD b], .int ((a.length + b.length : Nat) : Int), .int 2, .int 2] = some [intsD (a ++ b)] := by
    refine ev_by u12001 ?_
    simp only [t12001, go_sem, ltI_irr, e12100 (n := a.length + b.length) (by omega)]
    exact s1 _ _ _
  have r1 : ev 12001 [.list [intsD a, intsD b], .int (a.length : Int), .int 2, .int 1] = some [intsD (a ++ b)] := by
    refine ev_by u12001 ?_
    simp only [t12001, go_sem, List.length_map, List.length_cons, List.length_nil, l11, w1, c1]
    rw [cond_lt (by decide), cond_in (by decide) (by decide), cond_nlt (by omega)]
    exact r2
  have r0 : ev 12001 [.list [intsD a, intsD b], .int 0, .int 2, .int 0] = some [intsD (a ++ b)] := by
    refine ev_by u12001 ?_
    simp only [t12001, go_sem, List.length_map, List.length_cons, List.length_nil, l01, w0, c0]
    rw [cond_lt (by decide), cond_in (by decide) (by decide), cond_nlt (by omega)]
    exact r1
  refine ev_by u12000 ?_
  simp only [t12000, go_sem, List.length_cons, List.length_nil]
  exact r0
theorem e12400 {n : Nat} (hn : n ≤ 1000000) : ev 12400 [.int n] = some [valsD []] := by
  have z : IntKind.i64.wrap (0 - 0) = 0 := by decide
  have z2 : (n : Int) - 0 = n := by omega
  refine ev_by u12400 ?_
  simp only [t12400, go_sem, z, z2, nowrap (n := (n : Int)) (by omega) (by omega), List.take_zero, List.length_replicate, Int.toNat_natCast]
  rw [cond_nlt (by omega)]
  by_cases h : 0 < n
  · rw [cond_lt (by omega), cond_le (by omega), cond_le (by omega), cond_le (by omega)]
    rfl
  · rw [cond_nlt (by omega)]
    rfl
theorem e12300 (a b : List (List Int)) (ha : a.length ≤ 1000) (hb : b.length ≤ 1000) : ev 12300 [.list [valsD a, valsD b]] = some [valsD (a ++ b)] := by
  have c0 : IntKind.i64.wrap (0 + (a.length : Int)) = ((a.length : Nat) : Int) := by rw [nowrap (by omega) (by omega)]; omega
  have c1 : IntKind.i64.wrap ((a.length : Int) + (b.length : Int)) = ((a.length + b.length : Nat) : Int) := by rw [nowrap (by omega) (by omega)]; omega
  have w0 : IntKind.i64.wrap (0 + 1) = 1 := by decide
  have w1 : IntKind.i64.wrap (1 + 1) = 2 := by decide
  have l01 : (leI 0 0 && ltI 0 2) = true := by decide
  have l11 : (leI 0 1 && ltI 1 2) = true := by decide
  have s3 : ∀ (x y z : D), ev 12303 [.list [valsD a, valsD b], x, y, z, .int 2, .int 2, valsD (a ++ b)] = some [valsD (a ++ b)] := by
    intro x y z
    refine ev_by u12303 ?_
    simp only [t12303, go_sem, ltI_irr]
  have s2 : ∀ (x y z : D), ev 12303 [.list [valsD a, valsD b], x, y, z, .int 2, .int 1, valsD a] = some [valsD (a ++ b)] := by
    intro x y z
    refine ev_by u12303 ?_
    simp only [t12303, go_sem, List.length_map, List.length_cons, List.length_nil, l11, w1, ← List.map_append]
    rw [cond_lt (by decide), cond_in (by decide) (by decide), cond_le (by omega), cond_le (by omega)]
    exact s3 x y z
  have s1 : ∀ (x y z : D), ev 12303 [.list [valsD a, valsD b], x, y, z, .int 2, .int 0, valsD []] = some [valsD (a ++ b)] := by
    intro x y z
    refine ev_by u12303 ?_
    simp only [t12303, go_sem, List.length_map, List.length_cons, List.length_nil, l01, w0]
    rw [cond_lt (by decide), cond_in (by decide) (by decide), cond_le (by decide), cond_le (by omega)]
    exact s2 x y z
  have r2 : ev 12301 [.list [valsD a, valsD b], .int ((a.length + b.length : Nat) : Int), .int 2, .int 2] = some [valsD (a ++ b)] := by
    refine ev_by u12301 ?_
    simp only [t12301, go_sem, ltI_irr, e12400 (n := a.length + b.length) (by omega)]
    exact s1 _ _ _
  have r1 : ev 12301 [.list [valsD a, valsD b], .int (a.length : Int), .int 2, .int 1] = some [valsD (a ++ b)] := by
    refine ev_by u12301 ?_
    simp only [t12301, go_sem, List.length_map, List.length_cons, List.length_nil, l11, w1, c1]
    rw [cond_lt (by decide), cond_in (by decide) (by decide), cond_nlt (by omega)]
    exact r2
  have r0 : ev 12301 [.list [valsD a, valsD b], .int 0, .int 2, .int 0] = some [valsD (a ++ b)] := by
    refine ev_by u12301 ?_
    simp only [t12301, go_sem, List.length_map, List.length_cons, List.length_nil, l01, w0, c0]
    rw [cond_lt (by decide), cond_in (by decide) (by decide), cond_nlt (by omega)]
    exact r1
  refine ev_by u12300 ?_
  simp only [t12300, go_sem, List.length_cons, List.length_nil]
  exact r0
theorem e12200 {l : List Ge} (hl : l.length ≤ 1000000) : ev 12200 [gesD l] = some [gesD l] := by
  refine ev_by u12200 ?_
  unfold t12200
  have h1 : (T.ck (.o2 .le (.o1 .len (.v 0)) (.i 1073741824)) (.ret [.v 0])).go ev [gesD l] = some [gesD l] := by
    simp only [go_sem, List.length_map]
    rw [cond_le (by omega)]
  rw [go_am_eq]
  · exact h1
  · intro h0
    have h0' : l.map Ge.d = [] := h0
    rw [h1]
    show some [D.list []] = some [D.list (l.map Ge.d)]
    rw [h0']

/-! ### Pairs -/
def moveE (n : Nat) (e : Ge) : Ge := ⟨e.ty, e.src + n, e.dst + n⟩
def move (n : Nat) (l : List Ge) : List Ge := l.map (moveE n)
theorem drop_cons {α : Type} [Inhabited α] {l : List α} {i : Nat} (hi : i < l.length) : l.drop i = l.getD i default :: l.drop (i + 1) := by
  rw [List.drop_eq_getElem_cons hi, List.getD_eq_getElem?_getD, List.getElem?_eq_getElem hi]
  rfl
theorem e11704 (vs : List (List Int)) (hl : vs.length ≤ 1000) (hs : ∀ j, j < vs.length → (vs.getD j default).length ≤ 12) (a b c d e f g h i j k l m n o p q : D) : ∀ y, y ≤ vs.length → ∀ z : List (List Int), z.length ≤ y →
    ev 11704 [a, b, c, d, e, f, g, h, i, j, k, l, m, n, o, .int vs.length, .int y, valsD vs, p, q, valsD z] = some [p, q, valsD (z ++ vs.drop y), .int 0] := by
  refine down ?_ fun y hy ih => ?_
  · intro z hz
    refine ev_by u11704 ?_
    simp only [t11704, go_sem, ltI_irr, List.drop_length, List.append_nil]
  · intro z hz
    have hin : (leI 0 y && ltI y vs.length) = true := by rw [and_iff, leI_iff, ltI_iff]; omega
    have h12 := hs y hy
    have e1 : z.map intsD ++ [intsD (vs.getD y default)] = (z ++ [vs.getD y default]).map intsD := by simp
    have := ih (z ++ [vs.getD y default]) (by simp; omega)
    refine ev_by u11704 ?_
    simp only [t11704, go_sem, List.length_map, idx_map _ _ _ hy, hin, e11100 (l := vs.getD y default) (by omega), wrapS y (by omega), e1, this]
    rw [cond_lt (by omega), cond_le (by omega), drop_cons hy, List.append_assoc]
    rfl
theorem e11702 {ge' : List Ge} (hl : ge'.length ≤ 1000) (n : Nat) (hn : n ≤ 1000) (hb : ∀ j, j < ge'.length → 0 ≤ (ge'.getD j default).src ∧ (ge'.getD j default).src ≤ 1000 ∧ 0 ≤ (ge'.getD j default).dst ∧ (ge'.getD j default).dst ≤ 1000)
    (vs vs' : List (List Int)) (hv : vs.length ≤ 400) (hv' : vs'.length ≤ 400) (hs : ∀ j, j < vs.length → (vs.getD j default).length ≤ 12) (hs' : ∀ j, j < vs'.length → (vs'.getD j default).length ≤ 12) (a b c d e f h i j : D) (p : D) :
    ∀ y, y ≤ ge'.length → ∀ o : List Ge, o.length ≤ 1000 + y → ev 11702 [a, b, c, d, e, f, valsD vs, h, gesD ge', valsD vs', i, j, .int n, .int ge'.length, .int y, p, gesD o, valsD []] = some [p, gesD (o ++ move n (ge'.drop y)), valsD (vs ++ vs'), .int 0] := by
  refine down ?_ fun y hy ih => ?_
  · intro o ho
    have hcat := e12300 vs vs' (by omega) (by omega)
    have h4 := e11704 (vs ++ vs') (by simp; omega) (fun q hq => by
      have hm : (vs ++ vs').getD q default ∈ vs ++ vs' := getD_mem hq
      rcases List.mem_append.1 hm with hm | hm
      · obtain ⟨r, hr, he⟩ := mem_getD hm
        rw [← he]; exact hs r hr
      · obtain ⟨r, hr, he⟩ := mem_getD hm
        rw [← he]; exact hs' r hr) a b c d e f (valsD vs) h (gesD ge') (valsD vs') i j (.int n) (.int ge'.length) (.int ge'.length) p (gesD o) 0 (by omega) [] (by simp)
    refine ev_by u11702 ?_
    simp only [t11702, go_sem, ltI_irr, hcat, List.length_map, List.drop_length]
    refine h4.trans ?_
    simp [move]
  · intro o ho
    have hin : (leI 0 y && ltI y ge'.length) = true := by rw [and_iff, leI_iff, ltI_iff]; omega
    obtain ⟨b1, b2, b3, b4⟩ := hb y hy
    have e1 : o.map Ge.d ++ [.agg [.int (ge'.getD y default).ty, .int ((ge'.getD y default).src + n), .int ((ge'.getD y default).dst + n)]] = (o ++ [moveE n (ge'.getD y default)]).map Ge.d := by simp [moveE]
    have := ih (o ++ [moveE n (ge'.getD y default)]) (by simp; omega)
    refine ev_by u11702 ?_
    simp only [t11702, go_sem, List.length_map, idx_map _ _ _ hy, hin, wrapS y (by omega), nowrap (n := (ge'.getD y default).src + n) (by omega) (by omega), nowrap (n := (ge'.getD y default).dst + n) (by omega) (by omega), e1, this]
    rw [cond_lt (by omega), cond_le (by omega), drop_cons hy, List.append_assoc]
    rfl
theorem e12701 {vs : List (List Int)} (hl : vs.length ≤ 1000) (hs : ∀ j, j < vs.length → (vs.getD j default).length ≤ 12) (a b c d : D) : ∀ y, y ≤ vs.length → ∀ o : List (List Int), o.length ≤ y → ev 12701 [a, b, valsD vs, .int y, c, d, valsD o] = some [c, d, valsD (o ++ vs.drop y)] := by
  refine down ?_ fun y hy ih => ?_
  · intro o ho
    refine ev_by u12701 ?_
    simp only [t12701, go_sem, List.length_map, ltI_irr, List.drop_length, List.append_nil]
  · intro o ho
    have hin : (leI 0 y && ltI y vs.length) = true := by rw [and_iff, leI_iff, ltI_iff]; omega
    have h12 := hs y hy
    have e1 : o.map intsD ++ [intsD (vs.getD y default)] = (o ++ [vs.getD y default]).map intsD := by simp
    have e2 : D.list ((vs.getD y default).map D.int) = intsD (vs.getD y default) := rfl
    have := ih (o ++ [vs.getD y default]) (by simp; omega)
    refine ev_by u12701 ?_
    simp only [t12701, go_sem, List.length_map, idx_map _ _ _ hy, hin, wrapS y (by omega), e1, this]
    rw [cond_lt (by omega), cond_le (by omega), cond_le (by omega), drop_cons hy, List.append_assoc]
    rfl
theorem e12700 {gn : List Int} {ge : List Ge} {vs : List (List Int)} (h1 : gn.length ≤ 1000) (h2 : ge.length ≤ 1000) (hl : vs.length ≤ 1000) (hs : ∀ j, j < vs.length → (vs.getD j default).length ≤ 12) : ev 12700 [intsD gn, gesD ge, valsD vs] = some [intsD gn, gesD ge, valsD vs] := by
  have h : ev 12800 [intsD gn, gesD ge] = some [intsD gn, gesD ge] := by
    refine ev_by u12800 ?_
    simp only [t12800, go_sem, List.length_map]
    rw [cond_le (by omega), cond_le (by omega)]
  refine ev_by u12700 ?_
  simp only [t12700, go_sem, h]
  exact e12701 hl hs _ _ _ _ 0 (by omega) [] (by simp)
theorem e12501 {ge' : List Ge} (hl : ge'.length ≤ 1000) (n : Nat) (hn : n ≤ 1000) (hb : ∀ j, j < ge'.length → 0 ≤ (ge'.getD j default).src ∧ (ge'.getD j default).src ≤ 1000 ∧ 0 ≤ (ge'.getD j default).dst ∧ (ge'.getD j default).dst ≤ 1000)
    (a b c d e f g h i j k l p q r s : D) : ∀ y, y ≤ ge'.length → ∀ o : List Ge, o.length ≤ 1000 + y → ev 12501 [a, b, c, d, e, f, g, h, i, j, k, l, .int n, .int y, p, gesD o, q, r, gesD ge', s] = some [p, gesD (o ++ move n (ge'.drop y)), q, .int 0] := by
  refine down ?_ fun y hy ih => ?_
  · intro o ho
    refine ev_by u12501 ?_
    simp only [t12501, go_sem, List.length_map, ltI_irr, List.drop_length]
    simp [move]
  · intro o ho
    have hin : (leI 0 y && ltI y ge'.length) = true := by rw [and_iff, leI_iff, ltI_iff]; omega
    obtain ⟨b1, b2, b3, b4⟩ := hb y hy
    have e1 : o.map Ge.d ++ [.agg [.int (ge'.getD y default).ty, .int ((ge'.getD y default).src + n), .int ((ge'.getD y default).dst + n)]] = (o ++ [moveE n (ge'.getD y default)]).map Ge.d := by simp [moveE]
    have := ih (o ++ [moveE n (ge'.getD y default)]) (by simp; omega)
    refine ev_by u12501 ?_
    simp only [t12501, go_sem, List.length_map, idx_map _ _ _ hy, hin, wrapS y (by omega), nowrap (n := (ge'.getD y default).src + n) (by omega) (by omega), nowrap (n := (ge'.getD y default).dst + n) (by omega) (by omega), e1, this]
    rw [cond_lt (by omega), cond_le (by omega), drop_cons hy, List.append_assoc]
    rfl
def hostD (gn : List Int) (ge : List Ge) (vs : List (List Int)) (e : Int) : List D := [intsD gn, gesD ge, valsD vs, .int e]
def pairRes (ns : List Nd) (es : List Ed) (sn se gn : List Int) (ge : List Ge) (vs : List (List Int)) (gn' : List Int) (ge' : List Ge) (vs' : List (List Int)) : List D :=
  if validErr ns es sn se gn ge vs = 0 then (if validErr ns es sn se gn' ge' vs' = 0 then
    (bif onlyB sn se gn ge 1 && onlyB sn se gn' ge' 3 then
      (if 40 < gn.length + gn'.length ∨ 80 < ge.length + ge'.length then hostD [] [] [] 3 else hostD (gn ++ gn') (ge ++ move gn.length ge') (vs ++ vs') 0)
    else hostD [] [] [] 1)
    else hostD [] [] [] (validErr ns es sn se gn' ge' vs')) else hostD [] [] [] (validErr ns es sn se gn ge vs)
section
variable {ns : List Nd} {es : List Ed} (ht : OkT ns es) {sn se gn gn' : List Int} {ge ge' : List Ge} {vs vs' : List (List Int)} (hf : FewH gn ge vs) (hf' : FewH gn' ge' vs')
include ht hf hf'
theorem e11700 : ev 11700 [ndsD ns, edsD es, intsD sn, intsD se, intsD gn, gesD ge, valsD vs, intsD gn', gesD ge', valsD vs'] = some (pairRes ns es sn se gn ge vs gn' ge' vs') := by
  obtain ⟨f1, f2, f3, f4⟩ := hf
  obtain ⟨f1', f2', f3', f4'⟩ := hf'
  have hv := e500 ht (gn := gn) (ge := ge) (vs := vs) (by omega) (by omega) sn se
  have hv' := e500 ht (gn := gn') (ge := ge') (vs := vs') (by omega) (by omega) sn se
  unfold pairRes
  by_cases h1 : validErr ns es sn se gn ge vs = 0
  · rw [if_pos h1]
    by_cases h2 : validErr ns es sn se gn' ge' vs' = 0
    · rw [if_pos h2]
      obtain ⟨_, _, V⟩ := validErr_ok h1
      obtain ⟨_, _, V'⟩ := validErr_ok h2
      have o1 := e11800 V 1
      have o2 := e11800 V' 3
      rw [h1] at hv
      rw [h2] at hv'
      have h00 : eqI 0 0 = true := by decide
      have m1 := V.l1
      have m2 := V.l2
      have m1' := V'.l1
      have m2' := V'.l2
      have hcat := e12000 gn gn' (by omega) (by omega)
      refine ev_by u11700 ?_
      simp only [t11700, go_sem, hv, hv', h00, o1, o2, List.length_map, nowrap (n := (gn.length : Int) + gn'.length) (by omega) (by omega), nowrap (n := (ge.length : Int) + ge'.length) (by omega) (by omega), hcat, e12200 (l := ge) (by omega)]
      cases onlyB sn se gn ge 1
      · rfl
      · cases onlyB sn se gn' ge' 3
        · rfl
        · simp only [go_sem, Bool.and_self]
          split
          · rename_i hc
            by_cases hc1 : 40 < gn.length + gn'.length
            · rw [cond_lt (by omega)]; rfl
            · rw [cond_nlt (by omega), cond_lt (by omega)]; rfl
          · rename_i hc
            rw [cond_nlt (by omega), cond_nlt (by omega)]
            exact e11702 (ge' := ge') (by omega) gn.length (by omega) (fun j hj => by have := V'.ek j hj; omega) vs vs' (by omega) (by omega) f4 f4' _ _ _ _ _ _ _ _ _ _ 0 (by omega) ge (by omega)
    · rw [if_neg h2]
      rw [h1] at hv
      have h00 : eqI 0 0 = true := by decide
      refine ev_by u11700 ?_
      simp only [t11700, go_sem, hv, hv', h00]
      rw [cond_ne h2]
      rfl
  · rw [if_neg h1]
    refine ev_by u11700 ?_
    simp only [t11700, go_sem, hv]
    rw [cond_ne h1]
    rfl
theorem e12500 : ev 12500 [ndsD ns, edsD es, intsD sn, intsD se, intsD gn, gesD ge, valsD vs, intsD gn', gesD ge', valsD vs'] = some (pairRes ns es sn se gn ge vs gn' ge' vs') := by
  obtain ⟨f1, f2, f3, f4⟩ := hf
  obtain ⟨f1', f2', f3', f4'⟩ := hf'
  have hv := e7700 ht (gn := gn) (ge := ge) (vs := vs) (by omega) (by omega) sn se
  have hv' := e7700 ht (gn := gn') (ge := ge') (vs := vs') (by omega) (by omega) sn se
  unfold pairRes
  by_cases h1 : validErr ns es sn se gn ge vs = 0
  · rw [if_pos h1]
    by_cases h2 : validErr ns es sn se gn' ge' vs' = 0
    · rw [if_pos h2]
      obtain ⟨_, _, V⟩ := validErr_ok h1
      obtain ⟨_, _, V'⟩ := validErr_ok h2
      have o1 := e12600 V 1
      have o2 := e12600 V' 3
      rw [h1] at hv
      rw [h2] at hv'
      have h00 : eqI 0 0 = true := by decide
      have m1 := V.l1
      have m2 := V.l2
      have m1' := V'.l1
      have m2' := V'.l2
      have c1 := e12700 (gn := gn) (ge := ge) (vs := vs) (by omega) (by omega) (by omega) f4
      have c2 := e12700 (gn := gn') (ge := ge') (vs := vs') (by omega) (by omega) (by omega) f4'
      refine ev_by u12500 ?_
      simp only [t12500, go_sem, hv, hv', h00, o1, o2, List.length_map, nowrap (n := (gn.length : Int) + gn'.length) (by omega) (by omega), nowrap (n := (ge.length : Int) + ge'.length) (by omega) (by omega), c1, c2, ← List.map_append]
      cases onlyB sn se gn ge 1
      · rfl
      · cases onlyB sn se gn' ge' 3
        · rfl
        · simp only [go_sem, Bool.and_self]
          split
          · rename_i hc
            by_cases hc1 : 40 < gn.length + gn'.length
            · rw [cond_lt (by omega)]; rfl
            · rw [cond_nlt (by omega), cond_lt (by omega)]; rfl
          · rename_i hc
            rw [cond_nlt (by omega), cond_nlt (by omega), cond_le (by omega), cond_le (by omega), cond_le (by omega), cond_le (by omega)]
            exact e12501 (ge' := ge') (by omega) gn.length (by omega) (fun j hj => by have := V'.ek j hj; omega) _ _ _ _ _ _ _ _ _ _ _ _ _ _ _ _ 0 (by omega) ge (by omega)
    · rw [if_neg h2]
      rw [h1] at hv
      have h00 : eqI 0 0 = true := by decide
      refine ev_by u12500 ?_
      simp only [t12500, go_sem, hv, hv', h00]
      rw [cond_ne h2]
      rfl
  · rw [if_neg h1]
    refine ev_by u12500 ?_
    simp only [t12500, go_sem, hv]
    rw [cond_ne h1]
    rfl
end

/-! ### Hosts are equal to themselves -/
theorem e13001 (l : List Ge) (hl : Len l.length) (a b x : D) : ∀ i, i ≤ l.length → ev 13001 [a, gesD l, b, gesD l, x, .int i] = some [.bool true] := by
  refine down ?_ fun i hi ih => ?_
  · refine ev_by u13001 ?_
    simp only [t13001, go_sem, List.length_map, ltI_irr]
  · have hin : (leI 0 i && ltI i l.length) = true := by rw [and_iff, leI_iff, ltI_iff]; omega
    have hq : ∀ n : Int, eqI n n = true := fun n => by rw [eqI_iff]
    refine ev_by u13001 ?_
    simp only [t13001, go_sem, List.length_map, idx_map _ _ _ hi, hin, wrapS i (by omega), ih, hq, Bool.and_self]
    rw [cond_lt (by omega)]
theorem e13000 (gn : List Int) (ge : List Ge) (h1 : Len gn.length) (h2 : Len ge.length) : ev 13000 [intsD gn, gesD ge, intsD gn, gesD ge] = some [.bool true] := by
  refine ev_by u13000 ?_
  simp only [t13000, go_sem, e11500 gn h1, List.length_map]
  rw [cond_eq rfl]
  exact e13001 ge h2 _ _ _ 0 (by omega)
theorem e13101 (l : List Int) (hl : Len l.length) (x : D) : ∀ i, i ≤ l.length → ev 13101 [intsD l, intsD l, x, .int i] = some [.int 0] := by
  have z : (l.length : Int) - l.length = 0 := by omega
  refine down ?_ fun i hi ih => ?_
  · refine ev_by u13101 ?_
    simp only [t13101, go_sem, List.length_map, ltI_irr, z, nowrap (n := 0) (by omega) (by omega)]
  · have hin : (leI 0 i && ltI i l.length) = true := by rw [and_iff, leI_iff, ltI_iff]; omega
    refine ev_by u13101 ?_
    simp only [t13101, go_sem, List.length_map, idx_map _ _ _ hi, hin, wrapS i (by omega), ih]
    rw [cond_lt (by omega), cond_lt (by omega), cond_eq rfl]
theorem e13100 (l : List Int) (hl : Len l.length) : ev 13100 [intsD l, intsD l] = some [.int 0] := by
  refine ev_by u13100 ?_
  simp only [t13100, go_sem]
  exact e13101 l hl _ 0 (by omega)
theorem e12901 (vs : List (List Int)) (hl : Len vs.length) (hs : ∀ l, l ∈ vs → Len l.length) (a b c d e f g h i j k : D) : ∀ y, y ≤ vs.length → ev 12901 [a, b, c, d, e, f, g, .int y, h, i, valsD vs, j, k, valsD vs] = some [.bool true] := by
  have z : eqI 0 0 = true := by decide
  refine down ?_ fun y hy ih => ?_
  · refine ev_by u12901 ?_
    simp only [t12901, go_sem, List.length_map, ltI_irr]
  · have hin : (leI 0 y && ltI y vs.length) = true := by rw [and_iff, leI_iff, ltI_iff]; omega
    refine ev_by u12901 ?_
    simp only [t12901, go_sem, List.length_map, idx_map _ _ _ hy, hin, e13100 _ (hs _ (getD_mem hy)), z, wrapS y (by omega), ih]
    rw [cond_lt (by omega)]
theorem e12900 (gn : List Int) (ge : List Ge) (vs : List (List Int)) (h1 : Len gn.length) (h2 : Len ge.length) (hl : Len vs.length) (hs : ∀ l, l ∈ vs → Len l.length) : ev 12900 [intsD gn, gesD ge, valsD vs, intsD gn, gesD ge, valsD vs] = some [.bool true] := by
  refine ev_by u12900 ?_
  simp only [t12900, go_sem, e13000 gn ge h1 h2, List.length_map]
  rw [cond_eq rfl]
  exact e12901 vs hl hs _ _ _ _ _ _ _ _ _ _ _ 0 (by omega)
def LenH (gn : List Int) (ge : List Ge) (vs : List (List Int)) : Prop := Len gn.length ∧ Len ge.length ∧ Len vs.length ∧ ∀ l, l ∈ vs → Len l.length
theorem e11600 {ns : List Nd} {es : List Ed} {sn se gn gn' : List Int} {ge ge' : List Ge} {vs vs' : List (List Int)} (hl : LenT ns es) (h1 : Len sn.length) (h2 : Len se.length) (h3 : LenH gn ge vs) (h4 : LenH gn' ge' vs') :
    ev 11600 [ndsD ns, edsD es, intsD sn, intsD se, intsD gn, gesD ge, valsD vs, intsD gn', gesD ge', valsD vs'] = some [.bool true] := by
  obtain ⟨b, hb, hp⟩ := e7100 hl h1 h2 (gn := gn) (ge := ge) (vs := vs) h3.2.2.1
  obtain ⟨b', hb', hp'⟩ := e7100 hl h1 h2 (gn := gn') (ge := ge') (vs := vs') h4.2.2.1
  cases b
  · refine ev_by u11600 ?_
    simp only [t11600, go_sem, awake_ok, hb]
  · cases b'
    · refine ev_by u11600 ?_
      simp only [t11600, go_sem, awake_ok, hb, hb']
    · obtain ⟨_, _, ht, hsz, hf⟩ := hp rfl
      obtain ⟨_, _, _, _, hf'⟩ := hp' rfl
      have s1 := e11700 ht hf hf' (sn := sn) (se := se)
      have s2 := e12500 ht hf hf' (sn := sn) (se := se)
      obtain ⟨f1, f2, f3, f4⟩ := hf
      obtain ⟨f1', f2', f3', f4'⟩ := hf'
      have hsame : ∃ (g : List Int) (e : List Ge) (v : List (List Int)) (x : Int), pairRes ns es sn se gn ge vs gn' ge' vs' = hostD g e v x ∧ Len g.length ∧ Len e.length ∧ Len v.length ∧ ∀ l, l ∈ v → Len l.length := by
        have nil : ∀ x : Int, ∃ (g : List Int) (e : List Ge) (v : List (List Int)) (y : Int), hostD [] [] [] x = hostD g e v y ∧ Len g.length ∧ Len e.length ∧ Len v.length ∧ ∀ l, l ∈ v → Len l.length :=
          fun x => ⟨[], [], [], x, rfl, by simp [Len], by simp [Len], by simp [Len], fun l hl => by cases hl⟩
        unfold pairRes
        split
        · split
          · cases onlyB sn se gn ge 1 && onlyB sn se gn' ge' 3
            · exact nil _
            · simp only [go_sem]
              split
              · exact nil _
              · refine ⟨_, _, _, _, rfl, by simp [Len]; omega, by simp [Len, move]; omega, by simp [Len]; omega, fun l hl => ?_⟩
                rcases List.mem_append.1 hl with hl | hl
                · obtain ⟨r, hr, he⟩ := mem_getD hl
                  have := f4 r hr
                  rw [← he]; unfold Len; omega
                · obtain ⟨r, hr, he⟩ := mem_getD hl
                  have := f4' r hr
                  rw [← he]; unfold Len; omega
          · exact nil _
        · exact nil _
      obtain ⟨g, e, v, x, hr, l1, l2, l3, l4⟩ := hsame
      rw [hr] at s1 s2
      unfold hostD at s1 s2
      have hx : eqI x x = true := by rw [eqI_iff]
      refine ev_by u11600 ?_
      simp only [t11600, go_sem, awake_ok, hb, hb', s1, s2, hx, e12900 g e v l1 l2 l3 l4]
theorem dec_ges {d : D} (h : WK env.ti (.sl 31) d) : ∃ l : List Ge, d = gesD l ∧ Len l.length :=
  have ⟨l, h1, h2, _⟩ := dec_list ti31 h (f := Ge.d) (p := fun _ => True) fun x hs hc => by
    obtain ⟨l, rfl, hl⟩ := hs rfl
    match l, hl with
    | [a, b, c], _ =>
      obtain ⟨n1, e1, _⟩ := dec_int (hc 0 _ rfl)
      obtain ⟨n2, e2, _⟩ := dec_int (hc 1 _ rfl)
      obtain ⟨n3, e3, _⟩ := dec_int (hc 2 _ rfl)
      have e1' : a = .int n1 := e1
      have e2' : b = .int n2 := e2
      have e3' : c = .int n3 := e3
      exact ⟨⟨n1, n2, n3⟩, by rw [e1', e2', e3'], trivial⟩
  ⟨l, h1, h2⟩
theorem dec_vals {d : D} (h : WK env.ti (.sl 34) d) : ∃ l : List (List Int), d = valsD l ∧ Len l.length ∧ ∀ x, x ∈ l → Len x.length :=
  dec_list ti34 h (f := intsD) (p := fun x => Len x.length) fun x _ hc => by
    obtain ⟨l, h1, h2, _⟩ := dec_ints (hc 0 _ rfl)
    exact ⟨l, h1, h2⟩
theorem kinds30_36_36 : [30, 36, 36].flatMap (kindsOf env.ti) = [.sl 22, .sl 23, .sl 26, .sl 26, .sl 26, .sl 31, .sl 34, .sl 26, .sl 31, .sl 34] := by kernel_rfl
theorem all2_cons {R : K → D → Prop} {a : K} {l : List K} {ν : List D} (h : All2 R (a :: l) ν) : ∃ x r, ν = x :: r ∧ R a x ∧ All2 R l r := by
  cases h with
  | cons h1 h2 => exact ⟨_, _, rfl, h1, h2⟩
theorem all2_nil {R : K → D → Prop} {ν : List D} (h : All2 R [] ν) : ν = [] := by cases h; rfl
theorem triplePair_pure (ν : List D) (h : All2 (WK env.ti) ([30, 36, 36].flatMap (kindsOf env.ti)) ν) : Ev tree prim (116 * 100) ν [.bool true] := by
  rw [kinds30_36_36] at h
  obtain ⟨x1, r, rfl, h1, h⟩ := all2_cons h
  obtain ⟨x2, r, rfl, h2, h⟩ := all2_cons h
  obtain ⟨x3, r, rfl, h3, h⟩ := all2_cons h
  obtain ⟨x4, r, rfl, h4, h⟩ := all2_cons h
  obtain ⟨x5, r, rfl, h5, h⟩ := all2_cons h
  obtain ⟨x6, r, rfl, h6, h⟩ := all2_cons h
  obtain ⟨x7, r, rfl, h7, h⟩ := all2_cons h
  obtain ⟨x8, r, rfl, h8, h⟩ := all2_cons h
  obtain ⟨x9, r, rfl, h9, h⟩ := all2_cons h
  obtain ⟨x10, r, rfl, h10, h⟩ := all2_cons h
  obtain rfl := all2_nil h
  obtain ⟨ns, rfl, a1, a2⟩ := dec_nds h1
  obtain ⟨es, rfl, b1, b2⟩ := dec_eds h2
  obtain ⟨sn, rfl, c1, _⟩ := dec_ints h3
  obtain ⟨se, rfl, d1, _⟩ := dec_ints h4
  obtain ⟨gn, rfl, f1, _⟩ := dec_ints h5
  obtain ⟨ge, rfl, g1⟩ := dec_ges h6
  obtain ⟨vs, rfl, i1, i2⟩ := dec_vals h7
  obtain ⟨gn', rfl, j1, _⟩ := dec_ints h8
  obtain ⟨ge', rfl, k1⟩ := dec_ges h9
  obtain ⟨vs', rfl, l1, l2⟩ := dec_vals h10
  exact (evr_iff primDet).1 (e11600 ⟨a1, b1, a2, b2⟩ c1 d1 ⟨f1, g1, i1, i2⟩ ⟨j1, k1, l1, l2⟩)
end Go.SX.T52
