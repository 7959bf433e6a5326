/-
Chapter 52, plain: the sides of a triple.
-/
import Derived.Test.YtodlbeaidannaaaGreatSxP52H
set_option linter.unusedVariables false
set_option linter.unusedSimpArgs false
set_option linter.unusedSectionVars false
namespace Go.SX.T52
open Go.SX

/-! ### Sorts along edges -/
theorem nodeSort_parent {ns : List Nd} {sn : List Int} {i : Nat} (h : nodeSort ns sn i = 0) (hp : leI 0 (ns.getD i default).parent = true) : sn.getD (ns.getD i default).parent.toNat default = sn.getD i default := by
  unfold nodeSort at h
  rw [hp] at h
  revert h
  cases sortB (sn.getD i default)
  · intro h; cases h
  · cases hq : eqI (sn.getD (ns.getD i default).parent.toNat default) (sn.getD i default)
    · intro h; cases h
    · intro _
      rw [eqI_iff] at hq
      exact hq
theorem chain_sort {ns : List Nd} {sn : List Int} (hp : Par ns ns.length) (hs : ∀ j, j < ns.length → nodeSort ns sn j = 0) : ∀ (k a : Nat), a < k → a < ns.length → ∀ b, b ∈ chainN ns k a → sn.getD b.toNat default = sn.getD a default
  | 0, a, h, _, b, _ => by omega
  | k + 1, a, h, ha, b, hb => by
    unfold chainN at hb
    rcases List.mem_cons.1 hb with rfl | hb
    · rw [Int.toNat_natCast]
    · cases hq : leI 0 (ns.getD a default).parent
      · rw [hq] at hb; cases hb
      · rw [hq] at hb
        obtain ⟨h1, h2⟩ := hp.lt ha hq
        rw [chain_sort hp hs k (ns.getD a default).parent.toNat (by omega) (by omega) b hb]
        exact nodeSort_parent (hs a ha) hq
theorem is_sort {ns : List Nd} {sn : List Int} (hp : Par ns ns.length) (hs : ∀ j, j < ns.length → nodeSort ns sn j = 0) {a b : Int} (h0 : 0 ≤ a) (h1 : a < ns.length) (h : isB ns a b = true) : sn.getD b.toNat default = sn.getD a.toNat default := by
  unfold isB at h
  rw [hasI_iff] at h
  exact chain_sort hp hs _ _ (by omega) (by omega) b h
theorem edgeSort_ends {es : List Ed} {sn se : List Int} {i : Nat} (h : edgeSort es sn se i = 0) (h2 : se.getD i default ≠ 2) : sn.getD (es.getD i default).src.toNat default = se.getD i default ∧ sn.getD (es.getD i default).dst.toNat default = se.getD i default := by
  unfold edgeSort at h
  revert h
  cases sortB (se.getD i default)
  · intro h; cases h
  · cases ha : eqI (sn.getD (es.getD i default).src.toNat default) (se.getD i default)
    · intro h; cases h
    · have h2' : eqI (se.getD i default) 2 = false := by rw [eqI_false]; exact h2
      rw [h2']
      cases hb : eqI (sn.getD (es.getD i default).dst.toNat default) (se.getD i default)
      · intro h; cases h
      · intro _
        rw [eqI_iff] at ha hb
        exact ⟨ha, hb⟩
theorem edgeV_fits {ns : List Nd} {es : List Ed} {gn : List Int} {ge : List Ge} {i : Nat} (h : edgeV ns es gn ge i = 0) : fitsB ns es (ge.getD i default).ty (gn.getD (ge.getD i default).src.toNat default) (gn.getD (ge.getD i default).dst.toNat default) = true := by
  unfold edgeV at h
  revert h
  cases leI es.length (ge.getD i default).ty
  · cases fitsB ns es (ge.getD i default).ty (gn.getD (ge.getD i default).src.toNat default) (gn.getD (ge.getD i default).dst.toNat default)
    · intro h; cases h
    · exact fun _ => rfl
  · intro h; cases h

/-! ### Parts -/
structure PartOK (pn pe gn : List Int) (ge : List Ge) : Prop where
  an : ∀ i j : Nat, i < j → j < pn.length → pn.getD i default < pn.getD j default
  ae : ∀ i j : Nat, i < j → j < pe.length → pe.getD i default < pe.getD j default
  rn : ∀ x, x ∈ pn → 0 ≤ x ∧ x < gn.length
  re : ∀ x, x ∈ pe → 0 ≤ x ∧ x < ge.length
  inn : ∀ x, x ∈ pe → (ge.getD x.toNat default).src ∈ pn ∧ (ge.getD x.toNat default).dst ∈ pn
  ln : pn.length ≤ 100
  le : pe.length ≤ 100
theorem idxK_asc (p : Nat → Bool) : ∀ k i, List.Pairwise (· < ·) (idxK p k i)
  | 0, i => .nil
  | k + 1, i => by
    unfold idxK
    cases p i
    · exact idxK_asc p k (i + 1)
    · refine .cons (fun x hx => ?_) (idxK_asc p k (i + 1))
      obtain ⟨j, rfl, h1, _, _⟩ := idxK_mem.1 hx
      omega
theorem asc_get {l : List Int} (h : List.Pairwise (· < ·) l) {i j : Nat} (hij : i < j) (hj : j < l.length) : l.getD i default < l.getD j default := by
  have := List.pairwise_iff_getElem.1 h i j (by omega) hj hij
  have ei : l.getD i default = l[i] := by simp [List.getD_eq_getElem?_getD, show i < l.length by omega]
  have ej : l.getD j default = l[j] := by simp [List.getD_eq_getElem?_getD, hj]
  rw [ei, ej]
  exact this
theorem part_ok {ns : List Nd} {es : List Ed} {sn se gn : List Int} {ge : List Ge} {vs : List (List Int)} (h : validErr ns es sn se gn ge vs = 0) {s : Int} (hs : s = 1 ∨ s = 3) : PartOK (partV sn gn s) (partE se ge s) gn ge := by
  obtain ⟨h1, h2, V⟩ := validErr_ok h
  obtain ⟨t0, a1, a2, s1, s2⟩ := sortsErr_ok h1
  obtain ⟨_, g0, b1, b2, b3⟩ := hostErr_ok h2
  have hp := Par_of t0
  have l1 := V.l1
  have l2 := V.l2
  refine ⟨fun i j hij hj => asc_get (idxK_asc _ _ _) hij hj, fun i j hij hj => asc_get (idxK_asc _ _ _) hij hj, fun x hx => ?_, fun x hx => ?_, fun x hx => ?_, ?_, ?_⟩
  · obtain ⟨j, rfl, _, h4, _⟩ := idxK_mem.1 hx
    omega
  · obtain ⟨j, rfl, _, h4, _⟩ := idxK_mem.1 hx
    omega
  · obtain ⟨j, rfl, _, h4, h5⟩ := idxK_mem.1 hx
    rw [Int.toNat_natCast]
    have hj : j < ge.length := by omega
    obtain ⟨k1, k2, k3, k4, k5, k6⟩ := V.ek j hj
    rw [eqI_iff] at h5
    have hty : (ge.getD j default).ty.toNat < es.length := by omega
    have hne : se.getD (ge.getD j default).ty.toNat default ≠ 2 := by omega
    obtain ⟨q1, q2⟩ := edgeSort_ends (s2 _ hty) hne
    have hf := edgeV_fits (b3 j hj)
    simp only [fitsB, and_iff] at hf
    obtain ⟨f1, f2, f3⟩ := hf
    have m1 : (ge.getD j default).src.toNat < gn.length := by omega
    have m2 : (ge.getD j default).dst.toNat < gn.length := by omega
    have n1 := V.nk _ m1
    have n2 := V.nk _ m2
    have z1 := is_sort hp s1 n1.1 (by omega) f2
    have z2 := is_sort hp s1 n2.1 (by omega) f3
    constructor
    · refine idxK_mem.2 ⟨(ge.getD j default).src.toNat, by omega, by omega, by omega, ?_⟩
      rw [eqI_iff, ← z1, q1, h5]
    · refine idxK_mem.2 ⟨(ge.getD j default).dst.toNat, by omega, by omega, by omega, ?_⟩
      rw [eqI_iff, ← z2, q2, h5]
  · have := idxK_len (fun j => eqI (sn.getD (gn.getD j default).toNat default) s) gn.length 0
    unfold partV
    omega
  · have := idxK_len (fun j => eqI (se.getD (ge.getD j default).ty.toNat default) s) ge.length 0
    unfold partE
    omega

/-! ### Places in ascending lists -/
theorem o_shr' (k : IntKind) (a b : D) : (O2.shr k).den a b = .int (a.toInt.fdiv (2 ^ (min b.toInt.toNat k.bits))) := rfl
theorem half (a b : Nat) (ha : a ≤ 1000000) (hb : b ≤ 1000000) : IntKind.i64.wrap ((IntKind.u64.wrap (IntKind.i64.wrap ((a : Int) + b))).fdiv (2 ^ min 1 64)) = (((a + b) / 2 : Nat) : Int) := by
  rw [nowrap (n := (a : Int) + b) (by omega) (by omega)]
  have h1 : IntKind.u64.wrap ((a : Int) + b) = (a : Int) + b := by
    simp only [IntKind.wrap, IntKind.signed, IntKind.bits]
    simp
    omega
  have h2 : (2 : Int) ^ (min 1 64) = 2 := by decide
  rw [h1, h2, show ((a : Int) + b) = ((a + b : Nat) : Int) by omega]
  have h3 : ((a + b : Nat) : Int).fdiv 2 = (((a + b) / 2 : Nat) : Int) := by
    rw [Int.fdiv_eq_ediv_of_nonneg _ (by decide)]
    omega
  rw [h3, nowrap (by omega) (by omega)]
theorem e14200 (a b : Int) : ev 14200 [.int a, .int b] = some [.bool (ltI a b)] := by
  have hq : ∀ n : Int, eqI n n = true := fun n => by rw [eqI_iff]
  have h : ev 14300 [.int a] = some [.bool false] := by
    refine ev_by u14300 ?_
    simp only [t14300, go_sem, hq, Bool.not_true]
  refine ev_by u14200 ?_
  simp only [t14200, go_sem, h]
section
variable {l : List Int} (hl : l.length ≤ 100000) (ha : ∀ i j : Nat, i < j → j < l.length → l.getD i default < l.getD j default) {q : Nat} (hq : q < l.length)
include hl ha hq
theorem e14101 : ∀ (k lo hi : Nat), hi - lo ≤ k → lo ≤ q → q ≤ hi → hi ≤ l.length → ev 14101 [intsD l, .int (l.getD q default), .int l.length, .int lo, .int hi] = some [.int q, .bool true] := by
  intro k
  induction k with
  | zero =>
    intro lo hi h1 h2 h3 h4
    obtain rfl : lo = q := by omega
    obtain rfl : hi = lo := by omega
    have hin : (leI 0 hi && ltI hi l.length) = true := by rw [and_iff, leI_iff, ltI_iff]; omega
    refine ev_by u14101 ?_
    simp only [t14101, go_sem, List.length_map, idx_map _ _ _ hq, hin, ltI_irr]
    rw [cond_lt (by omega), cond_eq rfl]
  | succ k ih =>
    intro lo hi h1 h2 h3 h4
    by_cases hlt : lo < hi
    · have hm : (lo + hi) / 2 < l.length := by omega
      have hin : (leI 0 (((lo + hi) / 2 : Nat) : Int) && ltI (((lo + hi) / 2 : Nat) : Int) l.length) = true := by rw [and_iff, leI_iff, ltI_iff]; omega
      have hh := half lo hi (by omega) (by omega)
      by_cases hc : l.getD ((lo + hi) / 2) default < l.getD q default
      · have hc' : ltI (l.getD ((lo + hi) / 2) default) (l.getD q default) = true := by rw [ltI_iff]; exact hc
        have hmq : (lo + hi) / 2 < q := by
          rcases Nat.lt_or_ge ((lo + hi) / 2) q with h | h
          · exact h
          · exfalso
            rcases Nat.lt_or_ge q ((lo + hi) / 2) with h' | h'
            · have := ha q _ h' hm; omega
            · have : q = (lo + hi) / 2 := by omega
              rw [← this] at hc; omega
        have := ih ((lo + hi) / 2 + 1) hi (by omega) (by omega) h3 h4
        refine ev_by u14101 ?_
        simp only [t14101, go_sem, List.length_map, o_shr', toInt_int, hh, idx_map _ _ _ hm, hin, e14200, hc', wrapS ((lo + hi) / 2) (by omega), this]
        rw [cond_lt (by omega)]
      · have hc' : ltI (l.getD ((lo + hi) / 2) default) (l.getD q default) = false := by rw [ltI_false]; omega
        have hmq : q ≤ (lo + hi) / 2 := by
          rcases Nat.lt_or_ge ((lo + hi) / 2) q with h | h
          · have := ha _ _ h hq; omega
          · exact h
        have := ih lo ((lo + hi) / 2) (by omega) h2 hmq (by omega)
        refine ev_by u14101 ?_
        simp only [t14101, go_sem, List.length_map, o_shr', toInt_int, hh, idx_map _ _ _ hm, hin, e14200, hc', this]
        rw [cond_lt (by omega)]
    · obtain rfl : lo = q := by omega
      obtain rfl : hi = lo := by omega
      have hin : (leI 0 hi && ltI hi l.length) = true := by rw [and_iff, leI_iff, ltI_iff]; omega
      refine ev_by u14101 ?_
      simp only [t14101, go_sem, List.length_map, idx_map _ _ _ hq, hin, ltI_irr]
      rw [cond_lt (by omega), cond_eq rfl]
theorem e14100 : ev 14100 [intsD l, .int (l.getD q default)] = some [.int q, .bool true] := by
  refine ev_by u14100 ?_
  simp only [t14100, go_sem, List.length_map]
  exact e14101 hl ha hq l.length 0 l.length (by omega) (by omega) (by omega) (by omega)
end
def posI (l : List Int) (b : Int) : Int := findK (fun j => eqI (l.getD j default) b) l.length 0
theorem findK_at {p : Nat → Bool} : ∀ (k i q : Nat), i ≤ q → q < i + k → p q = true → (∀ j, i ≤ j → j < q → p j = false) → findK p k i = q
  | 0, i, q, h1, h2, _, _ => by omega
  | k + 1, i, q, h1, h2, h3, h4 => by
    rw [findK]
    by_cases hiq : i = q
    · rw [hiq, h3]; rfl
    · rw [h4 i (Nat.le_refl _) (by omega)]
      exact findK_at k (i + 1) q (by omega) (by omega) h3 fun j h5 h6 => h4 j (by omega) h6
theorem posI_at {l : List Int} (ha : ∀ i j : Nat, i < j → j < l.length → l.getD i default < l.getD j default) {q : Nat} (hq : q < l.length) : posI l (l.getD q default) = q :=
  findK_at _ _ _ (by omega) (by omega) (by rw [eqI_iff]) fun j _ hj => by
    rw [eqI_false]
    have := ha j q hj hq
    omega
theorem search {l : List Int} (hl : l.length ≤ 100000) (ha : ∀ i j : Nat, i < j → j < l.length → l.getD i default < l.getD j default) {b : Int} (hb : b ∈ l) : ev 14100 [intsD l, .int b] = some [.int (posI l b), .bool true] := by
  obtain ⟨q, hq, rfl⟩ := mem_getD hb
  rw [e14100 hl ha hq, posI_at ha hq]
theorem e14000 {l : List Int} (hl : l.length ≤ 100000) (ha : ∀ i j : Nat, i < j → j < l.length → l.getD i default < l.getD j default) {b : Int} (hb : b ∈ l) : ev 14000 [intsD l, .int b] = some [.bool true] := by
  refine ev_by u14000 ?_
  simp only [t14000, go_sem, search hl ha hb]
theorem e13901 (l : List Int) (hl : l.length ≤ 100000) (ha : ∀ i j : Nat, i < j → j < l.length → l.getD i default < l.getD j default) (n : Nat) (hr : ∀ x, x ∈ l → 0 ≤ x ∧ x < n) (x : D) : ∀ i, i ≤ l.length → ev 13901 [intsD l, .int n, x, .int l.length, .int i] = some [.int 0] := by
  refine down ?_ fun i hi ih => ?_
  · refine ev_by u13901 ?_
    simp only [t13901, go_sem, ltI_irr]
  · have hin : (leI 0 i && ltI i l.length) = true := by rw [and_iff, leI_iff, ltI_iff]; omega
    obtain ⟨r1, r2⟩ := hr _ (getD_mem hi)
    by_cases h0 : 0 < i
    · have hd : IntKind.i64.wrap ((i : Int) - 1) = ((i - 1 : Nat) : Int) := by rw [nowrap (by omega) (by omega)]; omega
      have hin' : (leI 0 ((i - 1 : Nat) : Int) && ltI ((i - 1 : Nat) : Int) l.length) = true := by rw [and_iff, leI_iff, ltI_iff]; omega
      have := ha (i - 1) i (by omega) hi
      refine ev_by u13901 ?_
      simp only [t13901, go_sem, List.length_map, idx_map _ _ _ hi, hin, hd, hin', idx_map _ l (i - 1) (by omega), wrapS i (by omega), ih]
      rw [cond_lt (by omega), cond_nlt (by omega), cond_nle (by omega), cond_lt (by omega), cond_nle (by omega)]
    · refine ev_by u13901 ?_
      simp only [t13901, go_sem, List.length_map, idx_map _ _ _ hi, hin, wrapS i (by omega), ih]
      rw [cond_lt (by omega), cond_nlt (by omega), cond_nle (by omega), cond_nlt (by omega)]
theorem e13900 (l : List Int) (hl : l.length ≤ 100000) (ha : ∀ i j : Nat, i < j → j < l.length → l.getD i default < l.getD j default) (n : Nat) (hr : ∀ x, x ∈ l → 0 ≤ x ∧ x < n) : ev 13900 [intsD l, .int n] = some [.int 0] := by
  refine ev_by u13900 ?_
  simp only [t13900, go_sem, List.length_map]
  exact e13901 l hl ha n hr _ 0 (by omega)
theorem e15001 (l : List Int) (hl : l.length ≤ 100000) (ha : ∀ i j : Nat, i < j → j < l.length → l.getD i default < l.getD j default) (n : Nat) (hr : ∀ x, x ∈ l → 0 ≤ x ∧ x < n) (x : D) : ∀ i, i ≤ l.length → ev 15001 [intsD l, .int n, x, .int i] = some [.int 0] := by
  refine down ?_ fun i hi ih => ?_
  · refine ev_by u15001 ?_
    simp only [t15001, go_sem, List.length_map, ltI_irr]
  · have hin : (leI 0 i && ltI i l.length) = true := by rw [and_iff, leI_iff, ltI_iff]; omega
    obtain ⟨r1, r2⟩ := hr _ (getD_mem hi)
    by_cases h0 : 0 < i
    · have hd : IntKind.i64.wrap ((i : Int) - 1) = ((i - 1 : Nat) : Int) := by rw [nowrap (by omega) (by omega)]; omega
      have hin' : (leI 0 ((i - 1 : Nat) : Int) && ltI ((i - 1 : Nat) : Int) l.length) = true := by rw [and_iff, leI_iff, ltI_iff]; omega
      have := ha (i - 1) i (by omega) hi
      refine ev_by u15001 ?_
      simp only [t15001, go_sem, List.length_map, idx_map _ _ _ hi, hin, hd, hin', idx_map _ l (i - 1) (by omega), wrapS i (by omega), ih]
      rw [cond_lt (by omega), cond_nlt (by omega), cond_nle (by omega), cond_lt (by omega), cond_nle (by omega)]
    · refine ev_by u15001 ?_
      simp only [t15001, go_sem, List.length_map, idx_map _ _ _ hi, hin, wrapS i (by omega), ih]
      rw [cond_lt (by omega), cond_nlt (by omega), cond_nle (by omega), cond_nlt (by omega)]
theorem e15000 (l : List Int) (hl : l.length ≤ 100000) (ha : ∀ i j : Nat, i < j → j < l.length → l.getD i default < l.getD j default) (n : Nat) (hr : ∀ x, x ∈ l → 0 ≤ x ∧ x < n) : ev 15000 [intsD l, .int n] = some [.int 0] := by
  refine ev_by u15000 ?_
  simp only [t15000, go_sem]
  exact e15001 l hl ha n hr _ 0 (by omega)
theorem e15101 (l : List Int) (hl : l.length ≤ 100000) (b : Int) (x : D) : ∀ i, i ≤ l.length → ev 15101 [intsD l, .int b, x, .int i] = some [.bool (anyK (fun j => eqI (l.getD j default) b) (l.length - i) i)] := by
  refine down ?_ fun i hi ih => ?_
  · refine ev_by u15101 ?_
    simp only [t15101, go_sem, List.length_map, ltI_irr, anyK_end]
  · have hin : (leI 0 i && ltI i l.length) = true := by rw [and_iff, leI_iff, ltI_iff]; omega
    refine ev_by u15101 ?_
    simp only [t15101, go_sem, List.length_map, idx_map _ _ _ hi, hin, wrapS i (by omega), ih]
    rw [cond_lt (by omega), anyK_step _ hi]
    cases eqI (l.getD i default) b <;> rfl
theorem e15100 {l : List Int} (hl : l.length ≤ 100000) {b : Int} (hb : b ∈ l) : ev 15100 [intsD l, .int b] = some [.bool true] := by
  have h := e15101 l hl b (.bool false) 0 (by omega)
  obtain ⟨q, hq, hqe⟩ := mem_getD hb
  rw [anyK_of (j := q) (by omega) (by omega) (by rw [eqI_iff]; exact hqe)] at h
  refine ev_by u15100 ?_
  simp only [t15100, go_sem]
  exact h
theorem e15201 (l : List Int) (hl : l.length ≤ 100000) (b : Int) (x : D) : ∀ i, i ≤ l.length → ev 15201 [intsD l, .int b, x, .int i] = some [.int (findK (fun j => eqI (l.getD j default) b) (l.length - i) i)] := by
  refine down ?_ fun i hi ih => ?_
  · refine ev_by u15201 ?_
    simp only [t15201, go_sem, List.length_map, ltI_irr, findK_end]
  · have hin : (leI 0 i && ltI i l.length) = true := by rw [and_iff, leI_iff, ltI_iff]; omega
    refine ev_by u15201 ?_
    simp only [t15201, go_sem, List.length_map, idx_map _ _ _ hi, hin, wrapS i (by omega), ih]
    rw [cond_lt (by omega), findK_step _ hi]
    cases eqI (l.getD i default) b <;> rfl
theorem e15200 {l : List Int} (hl : l.length ≤ 100000) (b : Int) : ev 15200 [intsD l, .int b] = some [.int (posI l b)] := by
  refine ev_by u15200 ?_
  simp only [t15200, go_sem]
  exact e15201 l hl b _ 0 (by omega)

/-! ### Parts taken out -/
def takeV (pn gn : List Int) : List Int := pn.map fun k => gn.getD k.toNat default
def takeE1 (pn : List Int) (ge : List Ge) (k : Int) : Ge := ⟨(ge.getD k.toNat default).ty, posI pn (ge.getD k.toNat default).src, posI pn (ge.getD k.toNat default).dst⟩
def takeE (pn pe : List Int) (ge : List Ge) : List Ge := pe.map (takeE1 pn ge)
def takeL (pn : List Int) (vs : List (List Int)) : List (List Int) := pn.map fun k => vs.getD k.toNat default
section
variable {pn pe gn : List Int} {ge : List Ge} (P : PartOK pn pe gn ge) (hg : graphErr gn ge = 0)
include P hg
theorem e13801 (a b c d e f x : D) : ∀ i, i ≤ pe.length → ev 13801 [a, b, c, intsD pe, d, e, f, .int pe.length, .int i, x, gesD ge, intsD pn, intsD pe] = some [.int 0] := by
  have l1 := P.ln
  have l2 := P.le
  refine down ?_ fun i hi ih => ?_
  · refine ev_by u13801 ?_
    simp only [t13801, go_sem, ltI_irr]
  · have hin : (leI 0 i && ltI i pe.length) = true := by rw [and_iff, leI_iff, ltI_iff]; omega
    obtain ⟨r1, r2⟩ := P.re _ (getD_mem hi)
    obtain ⟨i1, i2⟩ := P.inn _ (getD_mem hi)
    have hk : (leI 0 (pe.getD i default) && ltI (pe.getD i default) ge.length) = true := by rw [and_iff, leI_iff, ltI_iff]; omega
    refine ev_by u13801 ?_
    simp only [t13801, go_sem, List.length_map, idx_map _ _ _ hi, hin, hk, idx_map _ ge (pe.getD i default).toNat (by omega), e14000 (l := pn) (by omega) P.an i1, e14000 (l := pn) (by omega) P.an i2, wrapS i (by omega), ih]
    rw [cond_lt (by omega)]
theorem e13700 : ev 13700 [intsD gn, gesD ge, intsD pn, intsD pe] = some [.int 0] := by
  have l1 := P.ln
  have l2 := P.le
  obtain ⟨g1, g2, _, _⟩ := graphErr_ok hg
  have h00 : eqI 0 0 = true := by decide
  have h : ev 13800 [intsD gn, gesD ge, intsD pn, intsD pe] = some [.int 0] := by
    refine ev_by u13800 ?_
    simp only [t13800, go_sem, List.length_map, e13900 pn (by omega) P.an gn.length P.rn, e13900 pe (by omega) P.ae ge.length P.re, h00]
    exact e13801 P hg _ _ _ _ _ _ _ 0 (by omega)
  refine ev_by u13700 ?_
  simp only [t13700, go_sem, e4400 gn ge (by omega) (by omega), hg, h00, h]
theorem e13603 (a b c d e f : D) : ∀ i, i ≤ pe.length → ∀ o : List Ge, o.length ≤ i → ev 13603 [a, gesD ge, b, intsD pe, c, d, e, .int pe.length, .int i, intsD pn, intsD pe, f, gesD o] = some [f, gesD (o ++ takeE pn (pe.drop i) ge), intsD pn, intsD pe, .int 0] := by
  have l1 := P.ln
  have l2 := P.le
  refine down ?_ fun i hi ih => ?_
  · intro o ho
    refine ev_by u13603 ?_
    simp only [t13603, go_sem, ltI_irr, e11100 (l := pn) (by omega), e11100 (l := pe) (by omega), List.drop_length]
    simp [takeE]
  · intro o ho
    have hin : (leI 0 i && ltI i pe.length) = true := by rw [and_iff, leI_iff, ltI_iff]; omega
    obtain ⟨r1, r2⟩ := P.re _ (getD_mem hi)
    obtain ⟨i1, i2⟩ := P.inn _ (getD_mem hi)
    have hk : (leI 0 (pe.getD i default) && ltI (pe.getD i default) ge.length) = true := by rw [and_iff, leI_iff, ltI_iff]; omega
    have e1 : o.map Ge.d ++ [.agg [.int (ge.getD (pe.getD i default).toNat default).ty, .int (posI pn (ge.getD (pe.getD i default).toNat default).src), .int (posI pn (ge.getD (pe.getD i default).toNat default).dst)]] = (o ++ [takeE1 pn ge (pe.getD i default)]).map Ge.d := by simp [takeE1]
    have := ih (o ++ [takeE1 pn ge (pe.getD i default)]) (by simp; omega)
    refine ev_by u13603 ?_
    simp only [t13603, go_sem, List.length_map, idx_map _ _ _ hi, hin, hk, idx_map _ ge (pe.getD i default).toNat (by omega), search (l := pn) (by omega) P.an i1, search (l := pn) (by omega) P.an i2, wrapS i (by omega), e1, this]
    rw [cond_lt (by omega), cond_le (by omega), drop_cons hi, List.append_assoc]
    rfl
theorem e13601 (a : D) : ∀ i, i ≤ pn.length → ∀ o : List Int, o.length ≤ i → ev 13601 [intsD gn, gesD ge, intsD pn, intsD pe, a, .int pn.length, .int i, intsD o, gesD []] = some [intsD (o ++ takeV (pn.drop i) gn), gesD (takeE pn pe ge), intsD pn, intsD pe, .int 0] := by
  have l1 := P.ln
  refine down ?_ fun i hi ih => ?_
  · intro o ho
    have h := e13603 P hg (intsD gn) (intsD pn) a (.int pn.length) (.int pn.length) (intsD (o ++ takeV (pn.drop pn.length) gn)) 0 (by omega) [] (by simp)
    have e2 : o ++ takeV (pn.drop pn.length) gn = o := by simp [takeV]
    rw [e2] at h ⊢
    refine ev_by u13601 ?_
    simp only [t13601, go_sem, List.length_map, ltI_irr]
    exact h
  · intro o ho
    have hin : (leI 0 i && ltI i pn.length) = true := by rw [and_iff, leI_iff, ltI_iff]; omega
    obtain ⟨r1, r2⟩ := P.rn _ (getD_mem hi)
    have hk : (leI 0 (pn.getD i default) && ltI (pn.getD i default) gn.length) = true := by rw [and_iff, leI_iff, ltI_iff]; omega
    have e1 : o.map D.int ++ [.int (gn.getD (pn.getD i default).toNat default)] = (o ++ [gn.getD (pn.getD i default).toNat default]).map D.int := by simp
    have := ih (o ++ [gn.getD (pn.getD i default).toNat default]) (by simp; omega)
    refine ev_by u13601 ?_
    simp only [t13601, go_sem, List.length_map, idx_map _ _ _ hi, hin, hk, idx_map _ gn (pn.getD i default).toNat (by omega), wrapS i (by omega), e1, this]
    rw [cond_lt (by omega), cond_le (by omega), drop_cons hi, List.append_assoc]
    rfl
theorem e13600 : ev 13600 [intsD gn, gesD ge, intsD pn, intsD pe] = some [intsD (takeV pn gn), gesD (takeE pn pe ge), intsD pn, intsD pe, .int 0] := by
  have h00 : eqI 0 0 = true := by decide
  refine ev_by u13600 ?_
  simp only [t13600, go_sem, e13700 P hg, h00, List.length_map]
  exact e13601 P hg _ 0 (by omega) [] (by simp)
theorem e13401 {vs : List (List Int)} (hv : vs.length = gn.length) (hs : ∀ j, j < vs.length → (vs.getD j default).length ≤ 12) (a b c d e f g h i j x y : D) : ∀ q, q ≤ pn.length → ∀ o : List (List Int), o.length ≤ q →
    ev 13401 [a, b, c, d, e, intsD pn, f, g, h, .int pn.length, .int q, i, j, valsD vs, x, y, valsD o] = some [x, y, valsD (o ++ takeL (pn.drop q) vs), .int 0] := by
  have l1 := P.ln
  refine down ?_ fun q hq ih => ?_
  · intro o ho
    refine ev_by u13401 ?_
    simp only [t13401, go_sem, ltI_irr, List.drop_length]
    simp [takeL]
  · intro o ho
    have hin : (leI 0 q && ltI q pn.length) = true := by rw [and_iff, leI_iff, ltI_iff]; omega
    obtain ⟨r1, r2⟩ := P.rn _ (getD_mem hq)
    have hk : (leI 0 (pn.getD q default) && ltI (pn.getD q default) vs.length) = true := by rw [and_iff, leI_iff, ltI_iff]; omega
    have h12 := hs (pn.getD q default).toNat (by omega)
    have e1 : o.map intsD ++ [intsD (vs.getD (pn.getD q default).toNat default)] = (o ++ [vs.getD (pn.getD q default).toNat default]).map intsD := by simp
    have := ih (o ++ [vs.getD (pn.getD q default).toNat default]) (by simp; omega)
    refine ev_by u13401 ?_
    simp only [t13401, go_sem, List.length_map, idx_map _ _ _ hq, hin, hk, idx_map _ vs (pn.getD q default).toNat (by omega), e11100 (l := vs.getD (pn.getD q default).toNat default) (by omega), wrapS q (by omega), e1, this]
    rw [cond_lt (by omega), cond_le (by omega), drop_cons hq, List.append_assoc]
    rfl
theorem e14901 (a b c d e f : D) : ∀ i, i ≤ pe.length → ev 14901 [a, gesD ge, b, c, d, e, f, .int i, intsD pn, intsD pe] = some [.int 0] := by
  have l1 := P.ln
  have l2 := P.le
  refine down ?_ fun i hi ih => ?_
  · refine ev_by u14901 ?_
    simp only [t14901, go_sem, List.length_map, ltI_irr]
  · have hin : (leI 0 i && ltI i pe.length) = true := by rw [and_iff, leI_iff, ltI_iff]; omega
    obtain ⟨r1, r2⟩ := P.re _ (getD_mem hi)
    obtain ⟨i1, i2⟩ := P.inn _ (getD_mem hi)
    have hk : (leI 0 (pe.getD i default) && ltI (pe.getD i default) ge.length) = true := by rw [and_iff, leI_iff, ltI_iff]; omega
    refine ev_by u14901 ?_
    simp only [t14901, go_sem, List.length_map, idx_map _ _ _ hi, hin, hk, idx_map _ ge (pe.getD i default).toNat (by omega), e15100 (l := pn) (by omega) i1, e15100 (l := pn) (by omega) i2, wrapS i (by omega), ih]
    rw [cond_lt (by omega)]
theorem e14800 : ev 14800 [intsD gn, gesD ge, intsD pn, intsD pe] = some [.int 0] := by
  have l1 := P.ln
  have l2 := P.le
  obtain ⟨g1, g2, _, _⟩ := graphErr_ok hg
  have h00 : eqI 0 0 = true := by decide
  have h : ev 14900 [intsD gn, gesD ge, intsD pn, intsD pe] = some [.int 0] := by
    refine ev_by u14900 ?_
    simp only [t14900, go_sem, List.length_map, e15000 pn (by omega) P.an gn.length P.rn, e15000 pe (by omega) P.ae ge.length P.re, h00]
    exact e14901 P hg _ _ _ _ _ _ 0 (by omega)
  refine ev_by u14800 ?_
  simp only [t14800, go_sem, e9800 gn ge (by omega) (by omega), hg, h00, h]
theorem e14703 (a b c d e f : D) : ∀ i, i ≤ pe.length → ∀ o : List Ge, o.length ≤ i → ev 14703 [a, gesD ge, b, c, d, e, .int i, intsD pn, intsD pe, f, gesD o] = some [f, gesD (o ++ takeE pn (pe.drop i) ge), intsD pn, intsD pe, .int 0] := by
  have l1 := P.ln
  have l2 := P.le
  refine down ?_ fun i hi ih => ?_
  · intro o ho
    refine ev_by u14703 ?_
    simp only [t14703, go_sem, List.length_map, ltI_irr, List.drop_length]
    rw [cond_le (by omega), cond_le (by omega)]
    simp [takeE]
  · intro o ho
    have hin : (leI 0 i && ltI i pe.length) = true := by rw [and_iff, leI_iff, ltI_iff]; omega
    obtain ⟨r1, r2⟩ := P.re _ (getD_mem hi)
    have hk : (leI 0 (pe.getD i default) && ltI (pe.getD i default) ge.length) = true := by rw [and_iff, leI_iff, ltI_iff]; omega
    have e1 : o.map Ge.d ++ [.agg [.int (ge.getD (pe.getD i default).toNat default).ty, .int (posI pn (ge.getD (pe.getD i default).toNat default).src), .int (posI pn (ge.getD (pe.getD i default).toNat default).dst)]] = (o ++ [takeE1 pn ge (pe.getD i default)]).map Ge.d := by simp [takeE1]
    have := ih (o ++ [takeE1 pn ge (pe.getD i default)]) (by simp; omega)
    refine ev_by u14703 ?_
    simp only [t14703, go_sem, List.length_map, idx_map _ _ _ hi, hin, hk, idx_map _ ge (pe.getD i default).toNat (by omega), e15200 (l := pn) (by omega), wrapS i (by omega), e1, this]
    rw [cond_lt (by omega), cond_le (by omega), drop_cons hi, List.append_assoc]
    rfl
theorem e14701 (a : D) : ∀ i, i ≤ pn.length → ∀ o : List Int, o.length ≤ i → ev 14701 [intsD gn, gesD ge, intsD pn, intsD pe, a, .int i, intsD o, gesD []] = some [intsD (o ++ takeV (pn.drop i) gn), gesD (takeE pn pe ge), intsD pn, intsD pe, .int 0] := by
  have l1 := P.ln
  refine down ?_ fun i hi ih => ?_
  · intro o ho
    have h := e14703 P hg (intsD gn) (intsD pn) (intsD pe) a (.int pn.length) (intsD (o ++ takeV (pn.drop pn.length) gn)) 0 (by omega) [] (by simp)
    have e2 : o ++ takeV (pn.drop pn.length) gn = o := by simp [takeV]
    rw [e2] at h ⊢
    refine ev_by u14701 ?_
    simp only [t14701, go_sem, List.length_map, ltI_irr]
    exact h
  · intro o ho
    have hin : (leI 0 i && ltI i pn.length) = true := by rw [and_iff, leI_iff, ltI_iff]; omega
    obtain ⟨r1, r2⟩ := P.rn _ (getD_mem hi)
    have hk : (leI 0 (pn.getD i default) && ltI (pn.getD i default) gn.length) = true := by rw [and_iff, leI_iff, ltI_iff]; omega
    have e1 : o.map D.int ++ [.int (gn.getD (pn.getD i default).toNat default)] = (o ++ [gn.getD (pn.getD i default).toNat default]).map D.int := by simp
    have := ih (o ++ [gn.getD (pn.getD i default).toNat default]) (by simp; omega)
    refine ev_by u14701 ?_
    simp only [t14701, go_sem, List.length_map, idx_map _ _ _ hi, hin, hk, idx_map _ gn (pn.getD i default).toNat (by omega), wrapS i (by omega), e1, this]
    rw [cond_lt (by omega), cond_le (by omega), drop_cons hi, List.append_assoc]
    rfl
theorem e14700 : ev 14700 [intsD gn, gesD ge, intsD pn, intsD pe] = some [intsD (takeV pn gn), gesD (takeE pn pe ge), intsD pn, intsD pe, .int 0] := by
  have h00 : eqI 0 0 = true := by decide
  refine ev_by u14700 ?_
  simp only [t14700, go_sem, e14800 P hg, h00]
  exact e14701 P hg _ 0 (by omega) [] (by simp)
theorem e14601 {vs : List (List Int)} (hv : vs.length = gn.length) (hs : ∀ j, j < vs.length → (vs.getD j default).length ≤ 12) (a b c d e f g h x y z : D) : ∀ q, q ≤ pn.length → ∀ o : List (List Int), o.length ≤ q →
    ev 14601 [a, b, c, d, valsD vs, e, f, g, h, .int q, x, y, intsD pn, z, valsD o] = some [x, y, valsD (o ++ takeL (pn.drop q) vs), .int 0] := by
  have l1 := P.ln
  refine down ?_ fun q hq ih => ?_
  · intro o ho
    refine ev_by u14601 ?_
    simp only [t14601, go_sem, List.length_map, ltI_irr, List.drop_length]
    simp [takeL]
  · intro o ho
    have hin : (leI 0 q && ltI q pn.length) = true := by rw [and_iff, leI_iff, ltI_iff]; omega
    obtain ⟨r1, r2⟩ := P.rn _ (getD_mem hq)
    have hk : (leI 0 (pn.getD q default) && ltI (pn.getD q default) vs.length) = true := by rw [and_iff, leI_iff, ltI_iff]; omega
    have h12 := hs (pn.getD q default).toNat (by omega)
    have e1 : o.map intsD ++ [intsD (vs.getD (pn.getD q default).toNat default)] = (o ++ [vs.getD (pn.getD q default).toNat default]).map intsD := by simp
    have := ih (o ++ [vs.getD (pn.getD q default).toNat default]) (by simp; omega)
    refine ev_by u14601 ?_
    simp only [t14601, go_sem, List.length_map, idx_map _ _ _ hq, hin, hk, idx_map _ vs (pn.getD q default).toNat (by omega), wrapS q (by omega), e1, this]
    rw [cond_lt (by omega), cond_le (by omega), cond_le (by omega), drop_cons hq, List.append_assoc]
    rfl
end

/-! ### Sides -/
def sideRes (ns : List Nd) (es : List Ed) (sn se gn : List Int) (ge : List Ge) (vs : List (List Int)) (s : Int) : List D :=
  if validErr ns es sn se gn ge vs = 0 then (if s = 1 ∨ s = 3 then
    [intsD (takeV (partV sn gn s) gn), gesD (takeE (partV sn gn s) (partE se ge s) ge), valsD (takeL (partV sn gn s) vs), intsD (partV sn gn s), intsD (partE se ge s), .int 0]
    else [intsD [], gesD [], valsD [], intsD [], intsD [], .int 6]) else [intsD [], gesD [], valsD [], intsD [], intsD [], .int (validErr ns es sn se gn ge vs)]
section
variable {ns : List Nd} {es : List Ed} (ht : OkT ns es) {sn se gn : List Int} {ge : List Ge} {vs : List (List Int)} (hf : FewH gn ge vs) (s : Int)
include ht hf
theorem e13300 : ev 13300 [ndsD ns, edsD es, intsD sn, intsD se, intsD gn, gesD ge, valsD vs, .int s] = some (sideRes ns es sn se gn ge vs s) := by
  obtain ⟨f1, f2, f3, f4⟩ := hf
  have hv := e500 ht (gn := gn) (ge := ge) (vs := vs) (by omega) (by omega) sn se
  have h00 : eqI 0 0 = true := by decide
  unfold sideRes
  by_cases h1 : validErr ns es sn se gn ge vs = 0
  · rw [if_pos h1]
    rw [h1] at hv
    obtain ⟨_, h2, V⟩ := validErr_ok h1
    have hp := e11900 V s
    by_cases hs : s = 1 ∨ s = 3
    · rw [if_pos hs]
      have P := part_ok h1 hs
      obtain ⟨_, g0, b1, _, _⟩ := hostErr_ok h2
      obtain ⟨n, hh⟩ := e4300 ht (gn := gn) (ge := ge) (vs := vs) (by omega) (by omega)
      rw [h2] at hh
      have hx := e13600 P g0
      have h4 := e13401 P g0 b1 f4 (ndsD ns) (edsD es) (intsD gn) (gesD ge) (valsD vs) (intsD (partE se ge s)) (.int 0) (.int 0) (intsD gn) (gesD ge) (intsD (takeV (partV sn gn s) gn)) (gesD (takeE (partV sn gn s) (partE se ge s) ge)) 0 (by omega) [] (by simp)
      have h5 : ev 13500 [ndsD ns, edsD es, intsD gn, gesD ge, valsD vs] = some [.int 0] := by
        refine ev_by u13500 ?_
        simp only [t13500, go_sem, hh]
      have h6 : ev 13400 [ndsD ns, edsD es, intsD gn, gesD ge, valsD vs, intsD (partV sn gn s), intsD (partE se ge s)] = some [intsD (takeV (partV sn gn s) gn), gesD (takeE (partV sn gn s) (partE se ge s) ge), valsD (takeL (partV sn gn s) vs), .int 0] := by
        refine ev_by u13400 ?_
        simp only [t13400, go_sem, h5, h00, hx, List.length_map]
        exact h4
      by_cases hs1 : s = 1
      · have c1 : eqI s 1 = true := by rw [eqI_iff]; exact hs1
        refine ev_by u13300 ?_
        simp only [t13300, go_sem, hv, h00, c1, hp, h6]
      · have c1 : eqI s 1 = false := by rw [eqI_false]; exact hs1
        have c3 : eqI s 3 = true := by rw [eqI_iff]; omega
        refine ev_by u13300 ?_
        simp only [t13300, go_sem, hv, h00, c1, c3, hp, h6]
    · rw [if_neg hs]
      have c1 : eqI s 1 = false := by rw [eqI_false]; omega
      have c3 : eqI s 3 = false := by rw [eqI_false]; omega
      refine ev_by u13300 ?_
      simp only [t13300, go_sem, hv, h00, c1, c3]
      rfl
  · rw [if_neg h1]
    refine ev_by u13300 ?_
    simp only [t13300, go_sem, hv]
    rw [cond_ne h1]
    rfl
theorem e14500 : ev 14500 [ndsD ns, edsD es, intsD sn, intsD se, intsD gn, gesD ge, valsD vs, .int s] = some (sideRes ns es sn se gn ge vs s) := by
  obtain ⟨f1, f2, f3, f4⟩ := hf
  have hv := e7700 ht (gn := gn) (ge := ge) (vs := vs) (by omega) (by omega) sn se
  have h00 : eqI 0 0 = true := by decide
  unfold sideRes
  by_cases h1 : validErr ns es sn se gn ge vs = 0
  · rw [if_pos h1]
    rw [h1] at hv
    obtain ⟨_, h2, V⟩ := validErr_ok h1
    have hp := e10600 V s
    by_cases hs : s = 1 ∨ s = 3
    · rw [if_pos hs]
      have P := part_ok h1 hs
      obtain ⟨_, g0, b1, _, _⟩ := hostErr_ok h2
      obtain ⟨n, hh⟩ := e9700 ht (gn := gn) (ge := ge) (vs := vs) (by omega) (by omega)
      rw [h2] at hh
      have hx := e14700 P g0
      have h4 := e14601 P g0 b1 f4 (ndsD ns) (edsD es) (intsD gn) (gesD ge) (intsD (partV sn gn s)) (intsD (partE se ge s)) (.int 0) (.int 0) (intsD (takeV (partV sn gn s) gn)) (gesD (takeE (partV sn gn s) (partE se ge s) ge)) (intsD (partE se ge s)) 0 (by omega) [] (by simp)
      have h6 : ev 14600 [ndsD ns, edsD es, intsD gn, gesD ge, valsD vs, intsD (partV sn gn s), intsD (partE se ge s)] = some [intsD (takeV (partV sn gn s) gn), gesD (takeE (partV sn gn s) (partE se ge s) ge), valsD (takeL (partV sn gn s) vs), .int 0] := by
        refine ev_by u14600 ?_
        simp only [t14600, go_sem, hh, h00, hx]
        exact h4
      by_cases hs1 : s = 1
      · have c1 : eqI s 1 = true := by rw [eqI_iff]; exact hs1
        refine ev_by u14500 ?_
        simp only [t14500, go_sem, hv, h00, c1, hp, h6]
      · have c1 : eqI s 1 = false := by rw [eqI_false]; exact hs1
        have c3 : eqI s 3 = true := by rw [eqI_iff]; omega
        refine ev_by u14500 ?_
        simp only [t14500, go_sem, hv, h00, c1, c3, hp, h6]
    · rw [if_neg hs]
      have c1 : eqI s 1 = false := by rw [eqI_false]; omega
      have c3 : eqI s 3 = false := by rw [eqI_false]; omega
      refine ev_by u14500 ?_
      simp only [t14500, go_sem, hv, h00, c1, c3]
      rfl
  · rw [if_neg h1]
    refine ev_by u14500 ?_
    simp only [t14500, go_sem, hv]
    rw [cond_ne h1]
    rfl
end
theorem e15300 (a b : List Int) (ha : Len a.length) (hb : Len b.length) : ev 15300 [intsD a, intsD b, intsD a, intsD b] = some [.bool true] := by
  refine ev_by u15300 ?_
  simp only [t15300, go_sem, e11500 a ha, e11500 b hb]
theorem e13200 {ns : List Nd} {es : List Ed} {sn se gn : List Int} {ge : List Ge} {vs : List (List Int)} (hl : LenT ns es) (h1 : Len sn.length) (h2 : Len se.length) (h3 : LenH gn ge vs) (s : Int) :
    ev 13200 [ndsD ns, edsD es, intsD sn, intsD se, intsD gn, gesD ge, valsD vs, .int s] = some [.bool true] := by
  obtain ⟨b, hb, hp⟩ := e7100 hl h1 h2 (gn := gn) (ge := ge) (vs := vs) h3.2.2.1
  cases b
  · refine ev_by u13200 ?_
    simp only [t13200, go_sem, awake_ok, hb]
  · obtain ⟨_, _, ht, hsz, hf⟩ := hp rfl
    have s1 := e13300 ht hf s (sn := sn) (se := se)
    have s2 := e14500 ht hf s (sn := sn) (se := se)
    have v1 := e500 ht (gn := gn) (ge := ge) (vs := vs) (by have := hf.1; omega) (by have := hf.2.1; omega) sn se
    have v2 := e7700 ht (gn := gn) (ge := ge) (vs := vs) (by have := hf.1; omega) (by have := hf.2.1; omega) sn se
    obtain ⟨f1, f2, f3, f4⟩ := hf
    have hsame : ∃ (g : List Int) (e : List Ge) (v : List (List Int)) (p q : List Int) (x : Int), sideRes ns es sn se gn ge vs s = [intsD g, gesD e, valsD v, intsD p, intsD q, .int x] ∧ Len g.length ∧ Len e.length ∧ Len v.length ∧ (∀ l, l ∈ v → Len l.length) ∧ Len p.length ∧ Len q.length := by
      have nil : ∀ x : Int, ∃ (g : List Int) (e : List Ge) (v : List (List Int)) (p q : List Int) (y : Int), [intsD [], gesD [], valsD [], intsD [], intsD [], D.int x] = [intsD g, gesD e, valsD v, intsD p, intsD q, .int y] ∧ Len g.length ∧ Len e.length ∧ Len v.length ∧ (∀ l, l ∈ v → Len l.length) ∧ Len p.length ∧ Len q.length :=
        fun x => ⟨[], [], [], [], [], x, rfl, by simp [Len], by simp [Len], by simp [Len], (fun l hl => by cases hl), by simp [Len], by simp [Len]⟩
      unfold sideRes
      split
      · rename_i h0
        split
        · rename_i hs
          have P := part_ok h0 hs
          have q1 := P.ln
          have q2 := P.le
          obtain ⟨_, _, V⟩ := validErr_ok h0
          have q3 := V.lv
          have q4 := V.l1
          refine ⟨_, _, _, _, _, _, rfl, by simp [Len, takeV]; omega, by simp [Len, takeE]; omega, by simp [Len, takeL]; omega, fun l hl => ?_, by unfold Len; omega, by unfold Len; omega⟩
          obtain ⟨k, hk, rfl⟩ := List.mem_map.1 hl
          obtain ⟨r1, r2⟩ := P.rn k hk
          have := f4 k.toNat (by omega)
          unfold Len
          omega
        · exact nil _
      · exact nil _
    obtain ⟨g, e, v, p, q, x, hr, l1, l2, l3, l4, l5, l6⟩ := hsame
    rw [hr] at s1 s2
    have hx : ∀ y : Int, eqI y y = true := fun y => by rw [eqI_iff]
    refine ev_by u13200 ?_
    simp only [t13200, go_sem, awake_ok, hb, s1, s2, v1, v2, hx, e12900 g e v l1 l2 l3 l4, e15300 p q l5 l6]
theorem kinds30_36_3 : [30, 36, 3].flatMap (kindsOf env.ti) = [.sl 22, .sl 23, .sl 26, .sl 26, .sl 26, .sl 31, .sl 34, .int .i64] := by kernel_rfl
theorem tripleSide_pure (ν : List D) (h : All2 (WK env.ti) ([30, 36, 3].flatMap (kindsOf env.ti)) ν) : Ev tree prim (132 * 100) ν [.bool true] := by
  rw [kinds30_36_3] at h
  obtain ⟨x1, r, rfl, h1, h⟩ := all2_cons h
  obtain ⟨x2, r, rfl, h2, h⟩ := all2_cons h
  obtain ⟨x3, r, rfl, h3, h⟩ := all2_cons h
  obtain ⟨x4, r, rfl, h4, h⟩ := all2_cons h
  obtain ⟨x5, r, rfl, h5, h⟩ := all2_cons h
  obtain ⟨x6, r, rfl, h6, h⟩ := all2_cons h
  obtain ⟨x7, r, rfl, h7, h⟩ := all2_cons h
  obtain ⟨x8, r, rfl, h8, h⟩ := all2_cons h
  obtain rfl := all2_nil h
  obtain ⟨ns, rfl, a1, a2⟩ := dec_nds h1
  obtain ⟨es, rfl, b1, b2⟩ := dec_eds h2
  obtain ⟨sn, rfl, c1, _⟩ := dec_ints h3
  obtain ⟨se, rfl, d1, _⟩ := dec_ints h4
  obtain ⟨gn, rfl, f1, _⟩ := dec_ints h5
  obtain ⟨ge, rfl, g1⟩ := dec_ges h6
  obtain ⟨vs, rfl, i1, i2⟩ := dec_vals h7
  obtain ⟨s, rfl, _⟩ := dec_int h8
  exact (evr_iff primDet).1 (e13200 ⟨a1, b1, a2, b2⟩ c1 d1 ⟨f1, g1, i1, i2⟩ s)
end Go.SX.T52
