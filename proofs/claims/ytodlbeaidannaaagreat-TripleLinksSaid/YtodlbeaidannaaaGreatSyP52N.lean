/-
Chapter 52, plain: the sides of a triple.
-/
import Derived.Test.YtodlbeaidannaaaGreatSyP52H
set_option linter.unusedVariables false
set_option linter.unusedSimpArgs false
set_option linter.unusedSectionVars false
namespace Go.SX.T52
open Go.SX

/-! ### Sorts along edges -/
theorem nodeSort_parent {ns : List Nd} {sn : List Int} {i : Nat} (h : nodeSort ns sn i = 0) (hp : leI 0 (ns.getD i default).parent = true) : sn.getD (ns.getD i default).parent.toNat default = sn.getD i default := by
  unfold nodeSort at h
  rw [hp] at h
  revert h
  cases sortB (sn.getD i default)
  · intro h; cases h
  · cases hq : eqI (sn.getD (ns.getD i default).parent.toNat default) (sn.getD i default)
    · intro h; cases h
    · intro _
      rw [eqI_iff] at hq
      exact hq
theorem chain_sort {ns : List Nd} {sn : List Int} (hp : Par ns ns.length) (hs : ∀ j, j < ns.length → nodeSort ns sn j = 0) : ∀ (k a : Nat), a < k → a < ns.length → ∀ b, b ∈ chainN ns k a → sn.getD b.toNat default = sn.getD a default
  | 0, a, h, _, b, _ => by omega
  | k + 1, a, h, ha, b, hb => by
    unfold chainN at hb
    rcases List.mem_cons.1 hb with rfl | hb
    · rw [Int.toNat_natCast]
    · cases hq : leI 0 (ns.getD a default).parent
      · rw [hq] at hb; cases hb
      · rw [hq] at hb
        obtain ⟨h1, h2⟩ := hp.lt ha hq
        rw [chain_sort hp hs k (ns.getD a default).parent.toNat (by omega) (by omega) b hb]
        exact nodeSort_parent (hs a ha) hq
theorem is_sort {ns : List Nd} {sn : List Int} (hp : Par ns ns.length) (hs : ∀ j, j < ns.length → nodeSort ns sn j = 0) {a b : Int} (h0 : 0 ≤ a) (h1 : a < ns.length) (h : isB ns a b = true) : sn.getD b.toNat default = sn.getD a.toNat default := by
  unfold isB at h
  rw [hasI_iff] at h
  exact chain_sort hp hs _ _ (by omega) (by omega) b h
theorem edgeSort_ends {es : List Ed} {sn se : List Int} {i : Nat} (h : edgeSort es sn se i = 0) (h2 : se.getD i default ≠ 2) : sn.getD (es.getD i default).src.toNat default = se.getD i default ∧ sn.getD (es.getD i default).dst.toNat default = se.getD i default := by
  unfold edgeSort at h
  revert h
  cases sortB (se.getD i default)
  · intro h; cases h
  · cases ha : eqI (sn.getD (es.getD i default).src.toNat default) (se.getD i default)
    · intro h; cases h
    · have h2' : eqI (se.getD i default) 2 = false := by rw [eqI_false]; exact h2
      rw [h2']
      cases hb : eqI (sn.getD (es.getD i default).dst.toNat default) (se.getD i default)
      · intro h; cases h
      · intro _
        rw [eqI_iff] at ha hb
        exact ⟨ha, hb⟩
theorem edgeV_fits {ns : List Nd} {es : List Ed} {gn : List Int} {ge : List Ge} {i : Nat} (h : edgeV ns es gn ge i = 0) : fitsB ns es (ge.getD i default).ty (gn.getD (ge.getD i default).src.toNat default) (gn.getD (ge.getD i default).dst.toNat default) = true := by
  unfold edgeV at h
  revert h
  cases leI es.length (ge.getD i default).ty
  · cases fitsB ns es (ge.getD i default).ty (gn.getD (ge.getD i default).src.toNat default) (gn.getD (ge.getD i default).dst.toNat default)
    · intro h; cases h
    · exact fun _ => rfl
  · intro h; cases h

/-! ### Parts -/
structure PartOK (pn pe gn : List Int) (ge : List Ge) : Prop where
  an : ∀ i j : Nat, i < j → j < pn.length → pn.getD i default < pn.getD j default
  ae : ∀ i j : Nat, i < j → j < pe.length → pe.getD i default < pe.getD j default
  rn : ∀ x, x ∈ pn → 0 ≤ x ∧ x < gn.length
  re : ∀ x, x ∈ pe → 0 ≤ x ∧ x < ge.length
  inn : ∀ x, x ∈ pe → (ge.getD x.toNat default).src ∈ pn ∧ (ge.getD x.toNat default).dst ∈ pn
  ln : pn.length ≤ 100
  le : pe.length ≤ 100
theorem idxK_asc (p : Nat → Bool) : ∀ k i, List.Pairwise (· < ·) (idxK p k i)
  | 0, i => .nil
  | k + 1, i => by
    unfold idxK
    cases p i
    · exact idxK_asc p k (i + 1)
    · refine .cons (fun x hx => ?_) (idxK_asc p k (i + 1))
      obtain ⟨j, rfl, h1, _, _⟩ := idxK_mem.1 hx
      omega
theorem asc_get {l : List Int} (h : List.Pairwise (· < ·) l) {i j : Nat} (hij : i < j) (hj : j < l.length) : l.getD i default < l.getD j default := by
  have := List.pairwise_iff_getElem.1 h i j (by omega) hj hij
  have ei : l.getD i default = l[i] := by simp [List.getD_eq_getElem?_getD, show i < l.length by omega]
  have ej : l.getD j default = l[j] := by simp [List.getD_eq_getElem?_getD, hj]
  rw [ei, ej]
  exact this
theorem part_ok {ns : List Nd} {es : List Ed} {sn se gn : List Int} {ge : List Ge} {vs : List (List Int)} (h : validErr ns es sn se gn ge vs = 0) {s : Int} (hs : s = 1 ∨ s = 3) : PartOK (partV sn gn s) (partE se ge s) gn ge := by
  obtain ⟨h1, h2, V⟩ := validErr_ok h
  obtain ⟨t0, a1, a2, s1, s2⟩ := sortsErr_ok h1
  obtain ⟨_, g0, b1, b2, b3⟩ := hostErr_ok h2
  have hp := Par_of t0
  have l1 := V.l1
  have l2 := V.l2
  refine ⟨fun i j hij hj => asc_get (idxK_asc _ _ _) hij hj, fun i j hij hj => asc_get (idxK_asc _ _ _) hij hj, fun x hx => ?_, fun x hx => ?_, fun x hx => ?_, ?_, ?_⟩
  · obtain ⟨j, rfl, _, h4, _⟩ := idxK_mem.1 hx
    omega
  · obtain ⟨j, rfl, _, h4, _⟩ := idxK_mem.1 hx
    omega
  · obtain ⟨j, rfl, _, h4, h5⟩ := idxK_mem.1 hx
    rw [Int.toNat_natCast]
    have hj : j < ge.length := by omega
    obtain ⟨k1, k2, k3, k4, k5, k6⟩ := V.ek j hj
    rw [eqI_iff] at h5
    have hty : (ge.getD j default).ty.toNat < es.length := by omega
    have hne : se.getD (ge.getD j default).ty.toNat default ≠ 2 := by omega
    obtain ⟨q1, q2⟩ := edgeSort_ends (s2 _ hty) hne
    have hf := edgeV_fits (b3 j hj)
    simp only [fitsB, and_iff] at hf
    obtain ⟨f1, f2, f3⟩ := hf
    have m1 : (ge.getD j default).src.toNat < gn.length := by omega
    have m2 : (ge.getD j default).dst.toNat < gn.length := by omega
    have n1 := V.nk _ m1
    have n2 := V.nk _ m2
    have z1 := is_sort hp s1 n1.1 (by omega) f2
    have z2 := is_sort hp s1 n2.1 (by omega) f3
    constructor
    · refine idxK_mem.2 ⟨(ge.getD j default).src.toNat, by omega, by omega, by omega, ?_⟩
      rw [eqI_iff, ← z1, q1, h5]
    · refine idxK_mem.2 ⟨(ge.getD j default).dst.toNat, by omega, by omega, by omega, ?_⟩
      rw [eqI_iff, ← z2, q2, h5]
  · have := idxK_len (fun j => eqI (sn.getD (gn.getD j default).toNat default) s) gn.length 0
    unfold partV
    omega
  · have := idxK_len (fun j => eqI (se.getD (ge.getD j default).ty.toNat default) s) ge.length 0
    unfold partE
    omega

/-! ### Places in ascending lists -/
theorem o_shr' (k : IntKind) (a b : D) : (O2.shr k).den a b = .int (a.toInt.fdiv (2 ^ (min b.toInt.toNat k.bits))) := rfl
theorem half (a b : Nat) (ha : a ≤ 1000000) (hb : b ≤ 1000000) : IntKind.i64.wrap ((IntKind.u64.wrap (IntKind.i64.wrap ((a : Int) + b))).fdiv (2 ^ min 1 64)) = (((a + b) / 2 : Nat) : Int) := by
  rw [nowrap (n := (a : Int) + b) (by omega) (by omega)]
  have h1 : IntKind.u64.wrap ((a : Int) + b) = (a : Int) + b := by
    simp only [IntKind.wrap, IntKind.signed, IntKind.bits]
    simp
    omega
  have h2 : (2 : Int) ^ (min 1 64) = 2 := by decide
  rw [h1, h2, show ((a : Int) + b) = ((a + b : Nat) : Int) by omega]
  have h3 : ((a + b : Nat) : Int).fdiv 2 = (((a + b) / 2 : Nat) : Int) := by
    rw [Int.fdiv_eq_ediv_of_nonneg _ (by decide)]
    omega
  rw [h3, nowrap (by omega) (by omega)]
theorem e14200 (a b : Int) : ev 14200 [.int a, .int b] = some [.bool (ltI a b)] := by
  have hq : ∀ n : Int, eqI n n = true := fun n => by rw [eqI_iff]
  have h : ev 14300 [.int a] = some [.bool false] := by
    refine ev_by u14300 ?_
    simp only [t14300, go_sem, hq, Bool.not_true]
  refine ev_by u14200 ?_
  simp only [t14200, go_sem, h]
section
variable {l : List Int} (hl : l.length ≤ 100000) (ha : ∀ i j : Nat, i < j → j < l.length → l.getD i default < l.getD j default) {q : Nat} (hq : q < l.length)
include hl ha hq
theorem e14101 : ∀ (k lo hi : Nat), hi - lo ≤ k → lo ≤ q → q ≤ hi → hi ≤ l.length → ev 14101 [intsD l, .int (l.getD q default), .int l.length, .int lo, .int hi] = some [.int q, .bool true] := by
  intro k
  induction k with
  | zero =>
    intro lo hi h1 h2 h3 h4
    obtain rfl : lo = q := by omega
    obtain rfl : hi = lo := by omega
    have hin : (leI 0 hi && ltI hi l.length) = true := by rw [and_iff, leI_iff, ltI_iff]; omega
    refine ev_by u14101 ?_
    simp only [t14101, go_sem, List.length_map, idx_map _ _ _ hq, hin, ltI_irr]
    rw [cond_lt (by omega), cond_eq rfl]
  | succ k ih =>
    intro lo hi h1 h2 h3 h4
    by_cases hlt : lo < hi
    · have hm : (lo + hi) / 2 < l.length := by omega
      have hin : (leI 0 (((lo + hi) / 2 : Nat) : Int) && ltI (((lo + hi) / 2 : Nat) : Int) l.length) = true := by rw [and_iff, leI_iff, ltI_iff]; omega
      have hh := half lo hi (by omega) (by omega)
      by_cases hc : l.getD ((lo + hi) / 2) default < l.getD q default
      · have hc' : ltI (l.getD ((lo + hi) / 2) default) (l.getD q default) = true := by rw [ltI_iff]; exact hc
        have hmq : (lo + hi) / 2 < q := by
          rcases Nat.lt_or_ge ((lo + hi) / 2) q with h | h
          · exact h
          · exfalso
            rcases Nat.lt_or_ge q ((lo + hi) / 2) with h' | h'
            · have := ha q _ h' hm; omega
            · have : q = (lo + hi) / 2 := by omega
              rw [← this] at hc; omega
        have := ih ((lo + hi) / 2 + 1) hi (by omega) (by omega) h3 h4
        refine ev_by u14101 ?_
        simp only [t14101, go_sem, List.length_map, o_shr', toInt_int, hh, idx_map _ _ _ hm, hin, e14200, hc', wrapS ((lo + hi) / 2) (by omega), this]
        rw [cond_lt (by omega)]
      · have hc' : ltI (l.getD ((lo + hi) / 2) default) (l.getD q default) = false := by rw [ltI_false]; omega
        have hmq : q ≤ (lo + hi) / 2 := by
          rcases Nat.lt_or_ge ((lo + hi) / 2) q with h | h
          · have := ha _ _ h hq; omega
          · exact h
        have := ih lo ((lo + hi) / 2) (by omega) h2 hmq (by omega)
        refine ev_by u14101 ?_
        simp only [t14101, go_sem, List.length_map, o_shr', toInt_int, hh, idx_map _ _ _ hm, hin, e14200, hc', this]
        rw [cond_lt (by omega)]
    · obtain rfl : lo = q := by omega
      obtain rfl : hi = lo := by omega
      have hin : (leI 0 hi && ltI hi l.length) = true := by rw [and_iff, leI_iff, ltI_iff]; omega
      refine ev_by u14101 ?_
      simp only [t14101, go_sem, List.length_map, idx_map _ _ _ hq, hin, ltI_irr]
      rw [cond_lt (by omega), cond_eq rfl]
theorem e14100 : ev 14100 [intsD l, .int (l.getD q default)] = some [.int q, .bool true] := by
  refine ev_by u14100 ?_
  simp only [t14100, go_sem, List.length_map]
  exact e14101 hl ha hq l.length 0 l.length (by omega) (by omega) (by omega) (by omega)
end
def posI (l : List Int) (b : Int) : Int := findK (fun j => eqI (l.getD j default) b) l.length 0
theorem findK_at {p : Nat → Bool} : ∀ (k i q : Nat), i ≤ q → q < i + k → p q = true → (∀ j, i ≤ j → j < q → p j = false) → findK p k i = q
  | 0, i, q, h1, h2, _, _ => by omega
  | k + 1, i, q, h1, h2, h3, h4 => by
    rw [findK]
    by_cases hiq : i = q
    · rw [hiq, h3]; rfl
    · rw [h4 i (Nat.le_refl _) (by omega)]
      exact findK_at k (i + 1) q (by omega) (by omega) h3 fun j h5 h6 => h4 j (by omega) h6
theorem posI_at {l : List Int} (ha : ∀ i j : Nat, i < j → j < l.length → l.getD i default < l.getD j default) {q : Nat} (hq : q < l.length) : posI l (l.getD q default) = q :=
  findK_at _ _ _ (by omega) (by omega) (by rw [eqI_iff]) fun j _ hj => by
    rw [eqI_false]
    have := ha j q hj hq
    omega
theorem search {l : List Int} (hl : l.length ≤ 100000) (ha : ∀ i j : Nat, i < j → j < l.length → l.getD i default < l.getD j default) {b : Int} (hb : b ∈ l) : ev 14100 [intsD l, .int b] = some [.int (posI l b), .bool true] := by
  obtain ⟨q, hq, rfl⟩ := mem_getD hb
  rw [e14100 hl ha hq, posI_at ha hq]
theorem e14000 {l : List Int} (hl : l.length ≤ 100000) (ha : ∀ i j : Nat, i < j → j < l.length → l.getD i default < l.getD j default) {b : Int} (hb : b ∈ l) : ev 14000 [intsD l, .int b] = some [.bool true] := by
  refine ev_by u14000 ?_
  simp only [t14000, go_sem, search hl ha hb]
theorem e13901 (l : List Int) (hl : l.length ≤ 100000) (ha : ∀ i j : Nat, i < j → j < l.length → l.getD i default < l.getD j default) (n : Nat) (hr : ∀ x, x ∈ l → 0 ≤ x ∧ x < n) (x : D) : ∀ i, i ≤ l.length → ev 13901 [intsD l, .int n, x, .int l.length, .int i] = some [.int 0] := by
  refine down ?_ fun i hi ih => ?_
  · refine ev_by u13901 ?_
    simp only [t13901, go_sem, ltI_irr]
  · have hin : (leI 0 i && ltI i l.length) = true := by rw [and_iff, leI_iff, ltI_iff]; omega
    obtain ⟨r1, r2⟩ := hr _ (getD_mem hi)
    by_cases h0 : 0 < i
    · have hd : IntKind.i64.wrap ((i : Int) - 1) = ((i - 1 : Nat) : Int) := by rw [nowrap (by omega) (by omega)]; omega
      have hin' : (leI 0 ((i - 1 : Nat) : Int) && ltI ((i - 1 : Nat) : Int) l.length) = true := by rw [and_iff, leI_iff, ltI_iff]; omega
      have := ha (i - 1) i (by omega) hi
      refine ev_by u13901 ?_
      simp only [t13901, go_sem, List.length_map, idx_map _ _ _ hi, hin, hd, hin', idx_map _ l (i - 1) (by omega), wrapS i (by omega), ih]
      rw [cond_lt (by omega), cond_nlt (by omega), cond_nle (by omega), cond_lt (by omega), cond_nle (by omega)]
    · refine ev_by u13901 ?_
      simp only [t13901, go_sem, List.length_map, idx_map _ _ _ hi, hin, wrapS i (by omega), ih]
      rw [cond_lt (by omega), cond_nlt (by omega), cond_nle (by omega), cond_nlt (by omega)]
theorem e13900 (l : List Int) (hl : l.length ≤ 100000) (ha : ∀ i j : Nat, i < j → j < l.length → l.getD i default < l.getD j default) (n : Nat) (hr : ∀ x, x ∈ l → 0 ≤ x ∧ x < n) : ev 13900 [intsD l, .int n] = some [.int 0] := by
  refine ev_by u13900 ?_
  simp only [t13900, go_sem, List.length_map]
  exact e13901 l hl ha n hr _ 0 (by omega)
theorem e15001 (l : List Int) (hl : l.length ≤ 100000) (ha : ∀ i j : Nat, i < j → j < l.length → l.getD i default < l.getD j default) (n : Nat) (hr : ∀ x, x ∈ l → 0 ≤ x ∧ x < n) (x : D) : ∀ i, i ≤ l.length → ev 15001 [intsD l, .int n, x, .int i] = some [.int 0] := by
  refine down ?_ fun i hi ih => ?_
  · refine ev_by u15001 ?_
    simp only [t15001, go_sem, List.length_map, ltI_irr]
  · have hin : (leI 0 i && ltI i l.length) = true := by rw [and_iff, leI_iff, ltI_iff]; omega
    obtain ⟨r1, r2⟩ := hr _ (getD_mem hi)
    by_cases h0 : 0 < i
    · have hd : IntKind.i64.wrap ((i : Int) - 1) = ((i - 1 : Nat) : Int) := by rw [nowrap (by omega) (by omega)]; omega
      have hin' : (leI 0 ((i - 1 : Nat) : Int) && ltI ((i - 1 : Nat) : Int) l.length) = true := by rw [and_iff, leI_iff, ltI_iff]; omega
      have := ha (i - 1) i (by omega) hi
      refine ev_by u15001 ?_
      simp only [t15001, go_sem, List.length_map, idx_map _ _ _ hi, hin, hd, hin', idx_map _ l (i - 1) (by omega), wrapS i (by omega), ih]
      rw [cond_lt (by omega), cond_nlt (by omega), cond_nle (by omega), cond_lt (by omega), cond_nle (by omega)]
    · refine ev_by u15001 ?_
      simp only [t15001, go_sem, List.length_map, idx_map _ _ _ hi, hin, wrapS i (by omega), ih]
      rw [cond_lt (by omega), cond_nlt (by omega), cond_nle (by omega), cond_nlt (by omega)]
theorem e15000 (l : List Int) (hl : l.length ≤ 100000) (ha : ∀ i j : Nat, i < j → j < l.length → l.getD i default < l.getD j default) (n : Nat) (hr : ∀ x, x ∈ l → 0 ≤ x ∧ x < n) : ev 15000 [intsD l, .int n] = some [.int 0] := by
  refine ev_by u15000 ?_
  simp only [t15000, go_sem]
  exact e15001 l hl ha n hr _ 0 (by omega)
theorem e15101 (l : List Int) (hl : l.length ≤ 100000) (b : Int) (x : D) : ∀ i, i ≤ l.length → ev 15101 [intsD l, .int b, x, .int i] = some [.bool (anyK (fun j => eqI (l.getD j default) b) (l.length - i) i)] := by
  refine down ?_ fun i hi ih => ?_
  · refine ev_by u15101 ?_
    simp only [t15101, go_sem, List.length_map, ltI_irr, anyK_end]
  · have hin : (leI 0 i && ltI i l.length) = true := by rw [and_iff, leI_iff, ltI_iff]; omega
    refine ev_by u15101 ?_
    simp only [t15101, go_sem, List.length_map, idx_map _ _ _ hi, hin, wrapS i (by omega), ih]
    rw [cond_lt (by omega), anyK_step _ hi]
    cases eqI (l.getD i default) b <;> rfl
theorem e15100 {l : List Int} (hl : l.length ≤ 100000) {b : Int} (hb : b ∈ l) : ev 15100 [intsD l, .int b] = some [.bool true] := by
  have h := e15101 l hl b (.bool false) 0 (by omega)
  obtain ⟨q, hq, hqe⟩ := mem_getD hb
  rw [anyK_of (j := q) (by omega) (by omega) (by rw [eqI_iff]; exact hqe)] at h
  refine ev_by u15100 ?_
  simp only [t15100, go_sem]
  exact h
theorem e15201 (l : List Int) (hl : l.length ≤ 100000) (b : Int) (x : D) : ∀ i, i ≤ l.length → ev 15201 [intsD l, .int b, x, .int i] = some [.int (findK (fun j => eqI (l.getD j default) b) (l.length - i) i)] := by
  refine down ?_ fun i hi ih => ?_
  · refine ev_by u15201 ?_
    simp only [t15201, go_sem, List.length_map, ltI_irr, findK_end]
  · have hin : (leI 0 i && ltI i l.length) = true := by rw [and_iff, leI_iff, ltI_iff]; omega
    refine ev_by u15201 ?_
    simp only [t15201, go_sem, List.length_map, idx_map _ _ _ hi, hin, wrapS i (by omega), ih]
    rw [cond_lt (by omega), findK_step _ hi]
    cases eqI (l.getD i default) b <;> rfl
theorem e15200 {l : List Int} (hl : l.length ≤ 100000) (b : Int) : ev 15200 [intsD l, .int b] = some [.int (posI l b)] := by
  refine ev_by u15200 ?_
  simp only [t15200, go_sem]
  exact e15201 l hl b _ 0 (by omega)

/-! ### Parts taken out -/
def takeV (pn gn : List Int) : List Int := pn.map fun k => gn.getD k.toNat default
def takeE1 (pn : List Int) (ge : List Ge) (k : Int) : Ge := ⟨(ge.getD k.toNat default).ty, posI pn (ge.getD k.toNat default).src, posI pn (ge.getD k.toNat default).dst⟩
def takeE (pn pe : List Int) (ge : List Ge) : List Ge := pe.map (takeE1 pn ge)
def takeL (pn : List Int) (vs : List (List Int)) : List (List Int) := pn.map fun k => vs.getD k.toNat default
section
variable {pn pe gn : List Int} {ge : List Ge} (P : PartOK pn pe gn ge) (hg : graphErr gn ge = 0)
include P hg
theorem e13801 (a b c d e f x : D) : ∀ i, i ≤ pe.length → ev 13801 [a, b, c, intsD pe, d, e, f, .int pe.length, .int i, x, gesD ge, intsD pn, intsD pe] = some [.int 0] := by
  have l1 := P.ln
  have l2 := P.le
  refine down ?_ fun i hi ih => ?_
  · refine ev_by u13801 ?_
    simp only [t13801, go_sem, ltI_irr]
  · have hin : (leI 0 i && ltI i pe.length) = true := by rw [and_iff, leI_iff, ltI_iff]; omega
    obtain ⟨r1, r2⟩ := P.re _ (getD_mem hi)
    obtain ⟨i1, i2⟩ := P.inn _ (getD_mem hi)
    have hk : (leI 0 (pe.getD i default) && ltI (pe.getD i default) ge.length) = true := by rw [and_iff, leI_iff, ltI_iff]; omega
    refine ev_by u13801 ?_
    simp only [t13801, go_sem, List.length_map, idx_map _ _ _ hi, hin, hk, idx_map _ ge (pe.getD i default).toNat (by omega), e14000 (l := pn) (by omega) P.an i1, e14000 (l := pn) (by omega) P.an i2, wrapS i (by omega), ih]
    rw [cond_lt (by omega)]
theorem e13700 : ev 13700 [intsD gn, gesD ge, intsD pn, intsD pe] = some [.int 0] := by
  have l1 := P.ln
  have l2 := P.le
  obtain ⟨g1, g2, _, _⟩ := graphErr_ok hg
  have h00 : eqI 0 0 = true := by decide
  have h : ev 13800 [intsD gn, gesD ge, intsD pn, intsD pe] = some [.int 0] := by
    refine ev_by u13800 ?_
    simp only [t13800, go_sem, List.length_map, e13900 pn (by omega) P.an gn.length P.rn, e13900 pe (by omega) P.ae ge.length P.re, h00]
    exact e13801 P hg _ _ _ _ _ _ _ 0 (by omega)
  refine ev_by u13700 ?_
  simp only [t13700, go_sem, e4400 gn ge (by omega) (by omega), hg, h00, h]
theorem e13603 (a b c d e f : D) : ∀ i, i ≤ pe.length → ∀ o : List Ge, o.length ≤ i → ev 13603 [a, gesD ge, b, intsD pe, c, d, e, .int pe.length, .int i, intsD pn, intsD pe, f, gesD o] = some [f, gesD (o ++ takeE pn (pe.drop i) ge), intsD pn, intsD pe, .int 0] := by
  have l1 := P.ln
  have l2 := P.le
  refine down ?_ fun i hi ih => ?_
  · intro o ho
    refine ev_by u13603 ?_
    simp only [t13603, go_sem, ltI_irr, e11100 (l := pn) (by omega), e11100 (l := pe) (by omega), List.drop_length]
    simp [takeE]
  · intro o ho
    have hin : (leI 0 i && ltI i pe.length) = true := by rw [and_iff, leI_iff, ltI_iff]; omega
    obtain ⟨r1, r2⟩ := P.re _ (getD_mem hi)
    obtain ⟨i1, i2⟩ := P.inn _ (getD_mem hi)
    have hk : (leI 0 (pe.getD i default) && ltI (pe.getD i default) ge.length) = true := by rw [and_iff, leI_iff, ltI_iff]; omega
    have e1 : o.map Ge.d ++ [.agg [.int (ge.getD (pe.getD i default).toNat default).ty, .int (posI pn (ge.getD (pe.getD i default).toNat default).src), .int (posI pn (ge.getD (pe.getD i default).toNat default).dst)]] = (o ++ [takeE1 pn ge (pe.getD i default)]).map Ge.d := by simp [takeE1]
    have := ih (o ++ [takeE1 pn ge (pe.getD i default)]) (by simp; omega)
    refine ev_by u13603 ?_
    simp only [t13603, go_sem, List.length_map, idx_map _ _ _ hi, hin, hk, idx_map _ ge (pe.getD i default).toNat (by omega), search (l := pn) (by omega) P.an i1, search (l := pn) (by omega) P.an i2, wrapS i (by omega), e1, this]
    rw [cond_lt (by omega), cond_le (by omega), drop_cons hi, List.append_assoc]
    rfl
theorem e13601 (a : D) : ∀ i, i ≤ pn.length → ∀ o : List Int, o.length ≤ i → ev 13601 [intsD gn, gesD ge, intsD pn, intsD pe, a, .int pn.length, .int i, intsD o, gesD []] = some [intsD (o ++ takeV (pn.drop i) gn), gesD (takeE pn pe ge), intsD pn, intsD pe, .int 0] := by
  have l1 := P.ln
  refine down ?_ fun i hi ih => ?_
  · intro o ho
    have h := e13603 P hg (intsD gn) (intsD pn) a (.int pn.length) (.int pn.length) (intsD (o ++ takeV (pn.drop pn.length) gn)) 0 (by omega) [] (by simp)
    have e2 : o ++ takeV (pn.drop pn.length) gn = o := by simp [takeV]
    rw [e2] at h ⊢
    refine ev_by u13601 ?_
    simp only [t13601, go_sem, List.length_map, ltI_irr]
    exact h
  · intro o ho
    have hin : (leI 0 i && ltI i pn.length) = true := by rw [and_iff, leI_iff, ltI_iff]; omega
    obtain ⟨r1, r2⟩ := P.rn _ (getD_mem hi)
    have hk : (leI 0 (pn.getD i default) && ltI (pn.getD i default) gn.length) = true := by rw [and_iff, leI_iff, ltI_iff]; omega
    have e1 : o.map D.int ++ [.int (gn.getD (pn.getD i default).toNat default)] = (o ++ [gn.getD (pn.getD i default).toNat default]).map D.int := by simp
    have := ih (o ++ [gn.getD (pn.getD i default).toNat default]) (by simp; omega)
    refine ev_by u13601 ?_
    simp only [t13601, go_sem, List.length_map, idx_map _ _ _ hi, hin, hk, idx_map _ gn (pn.getD i default).toNat (by omega), wrapS i (by omega), e1, this]
    rw [cond_lt (by omega), cond_le (by omega), drop_cons hi, List.append_assoc]
    rfl
theorem e13600 : ev 13600 [intsD gn, gesD ge, intsD pn, intsD pe] = some [intsD (takeV pn gn), gesD (takeE pn pe ge), intsD pn, intsD pe, .int 0] := by
  have h00 : eqI 0 0 = true := by decide
  refine ev_by u13600 ?_
  simp only [t13600, go_sem, e13700 P hg, h00, List.length_map]
  exact e13601 P hg _ 0 (by omega) [] (by simp)
theorem e13401 {vs : List (List Int)} (hv : vs.length = gn.length) (hs : ∀ j, j < vs.length → (vs.getD j default).length ≤ 12) (a b c d e f g h i j x y : D) : ∀ q, q ≤ pn.length → ∀ o : List (List Int), o.length ≤ q →
    ev 13401 [a, b, c, d, e, intsD pn, f, g, h, .int pn.length, .int q, i, j, valsD vs, x, y, valsD o] = some [x, y, valsD (o ++ takeL (pn.drop q) vs), .int 0] := by
  have l1 := P.ln
  refine down ?_ fun q hq ih => ?_
  · intro o ho
    refine ev_by u13401 ?_
    simp only [t13401, go_sem, ltI_irr, List.drop_length]
    simp [takeL]
  · intro o ho
    have hin : (leI 0 q && ltI q pn.length) = true := by rw [and_iff, leI_iff, ltI_iff]; omega
    obtain ⟨r1, r2⟩ := P.rn _ (getD_mem hq)
    have hk : (leI 0 (pn.getD q default) && ltI (pn.getD q default) vs.length) = true := by rw [and_iff, leI_iff, ltI_iff]; omega
    have h12 := hs (pn.getD q default).toNat (by omega)
    have e1 : o.map intsD ++ [intsD (vs.getD (pn.getD q default).toNat default)] = (o ++ [vs.getD (pn.getD q default).toNat default]).map intsD := by simp
    have := ih (o ++ [vs.getD (pn.getD q default).toNat default]) (by simp; omega)
    refine ev_by u13401 ?_
    simp only [t13401, go_sem, List.length_map, idx_map _ _ _ hq, hin, hk, idx_map _ vs (pn.getD q default).toNat (by omega), e11100 (l := vs.getD (pn.getD q default).toNat default) (by omega), wrapS q (by omega), e1, this]
    rw [cond_lt (by omega), cond_le (by omega), drop_cons hq, List.append_assoc]
    rfl
theorem e14901 (a b c d e f : D) : ∀ i, i ≤ pe.length → ev 14901 [a, gesD ge, b, c, d, e, f, .int i, intsD pn, intsD pe] = some [.int 0] := by
  have l1 := P.ln
  have l2 := P.le
  refine down ?_ fun i hi ih => ?_
  · refine ev_by u14901 ?_
    simp only [t14901, go_sem, List.length_map, ltI_irr]
  · have hin : (leI 0 i && ltI i pe.length) = true := by rw [and_iff, leI_iff, ltI_iff]; omega
    obtain ⟨r1, r2⟩ := P.re _ (getD_mem hi)
    obtain ⟨i1, i2⟩ := P.inn _ (getD_mem hi)
    have hk : (leI 0 (pe.getD i default) && ltI (pe.getD i default) ge.length) = true := by rw [and_iff, leI_iff, ltI_iff]; omega
    refine ev_by u14901 ?_
    simp only [t14901, go_sem, List.length_map, idx_map _ _ _ hi, hin, hk, idx_map _ ge (pe.getD i default).toNat (by omega), e15100 (l := pn) (by omega) i1, e15100 (l := pn) (by omega) i2, wrapS i (by omega), ih]
    rw [cond_lt (by omega)]
theorem e14800 : ev 14800 [intsD gn, gesD ge, intsD pn, intsD pe] = some [.int 0] := by
  have l1 := P.ln
  have l2 := P.le
  obtain ⟨g1, g2, _, _⟩ := graphErr_ok hg
  have h00 : eqI 0 0 = true := by decide
  have h : ev 14900 [intsD gn, gesD ge, intsD pn, intsD pe] = some [.int 0] := by
    refine ev_by u14900 ?_
    simp only [t14900, go_sem, List.length_map, e15000 pn (by omega) P.an gn.length P.rn, e15000 pe (by omega) P.ae ge.length P.re, h00]
    exact e14901 P hg _ _ _ _ _ _ 0 (by omega)
  refine ev_by u14800 ?_
  simp only [t14800, go_sem, e9800 gn ge (by omega) (by omega), hg, h00, h]
theorem e14703 (a b c d e f : D) : ∀ i, i ≤ pe.length → ∀ o : List Ge, o.length ≤ i → ev 14703 [a, gesD ge, b, c, d, e, .int i, intsD pn, intsD pe, f, gesD o] = some [f, gesD (o ++ takeE pn (pe.drop i) ge), intsD pn, intsD pe, .int 0] := by
  have l1 := P.ln
  have l2 := P.le
  refine down ?_ fun i hi ih => ?_
  · intro o ho
    refine ev_by u14703 ?_
    simp only [t14703, go_sem, List.length_map, ltI_irr, List.drop_length]
    rw [cond_le (by omega), cond_le (by omega)]
    simp [takeE]
  · intro o ho
    have hin : (leI 0 i && ltI i pe.length) = true := by rw [and_iff, leI_iff, ltI_iff]; omega
    obtain ⟨r1, r2⟩ := P.re _ (getD_mem hi)
    have hk : (leI 0 (pe.getD i default) && ltI (pe.getD i default) ge.length) = true := by rw [and_iff, leI_iff, ltI_iff]; omega
    have e1 : o.map Ge.d ++ [.agg [.int (ge.getD (pe.getD i default).toNat default).ty, .int (posI pn (ge.getD (pe.getD i default).toNat default).src), .int (posI pn (ge.getD (pe.getD i default).toNat default).dst)]] = (o ++ [takeE1 pn ge (pe.getD i default)]).map Ge.d := by simp [takeE1]
    have := ih (o ++ [takeE1 pn ge (pe.getD i default)]) (by simp; omega)
    refine ev_by u14703 ?_
    simp only [t14703, go_sem, List.length_map, idx_map _ _ _ hi, hin, hk, idx_map _ ge (pe.getD i default).toNat (by omega), e15200 (l := pn) (by omega), wrapS i (by omega), e1, this]
    rw [cond_lt (by omega), cond_le (by omega), drop_cons hi, List.append_assoc]
    rfl
theorem e14701 (a : D) : ∀ i, i ≤ pn.length → ∀ o : List Int, o.length ≤ i → ev 14701 [intsD gn, gesD ge, intsD pn, intsD pe, a, .int i, intsD o, gesD []] = some [intsD (o ++ takeV (pn.drop i) gn), gesD (takeE pn pe ge), intsD pn, intsD pe, .int 0] := by
  have l1 := P.ln
  refine down ?_ fun i hi ih => ?_
  · intro o ho
    have h := e14703 P hg (intsD gn) (intsD pn) (intsD pe) a (.int pn.length) (intsD (o ++ takeV (pn.drop pn.length) gn)) 0 (by omega) [] (by simp)
    have e2 : o ++ takeV (pn.drop pn.length) gn = o := by simp [takeV]
    rw [e2] at h ⊢
    refine ev_by u14701 ?_
    simp only [t14701, go_sem, List.length_map, ltI_irr]
    exact h
  · intro o ho
    have hin : (leI 0 i && ltI i pn.length) = true := by rw [and_iff, leI_iff, ltI_iff]; omega
    obtain ⟨r1, r2⟩ := P.rn _ (getD_mem hi)
    have hk : (leI 0 (pn.getD i default) && ltI (pn.getD i default) gn.length) = true := by rw [and_iff, leI_iff, ltI_iff]; omega
    have e1 : o.map D.int ++ [.int (gn.getD (pn.getD i default).toNat default)] = (o ++ [gn.getD (pn.getD i default).toNat default]).map D.int := by simp
    have := ih (o ++ [gn.getD (pn.getD i default).toNat default]) (by simp; omega)
    refine ev_by u14701 ?_
    simp only [t14701, go_sem, List.length_map, idx_map _ _ _ hi, hin, hk, idx_map _ gn (pn.getD i default).toNat (by omega), wrapS i (by omega), e1, this]
    rw [cond_lt (by omega), cond_le (by omega), drop_cons hi, List.append_assoc]
    rfl
theorem e14700 : ev 14700 [intsD gn, gesD ge, intsD pn, intsD pe] = some [intsD (takeV pn gn), gesD (takeE pn pe ge), intsD pn, intsD pe, .int 0] := by
  have h00 : eqI 0 0 = true := by decide
  refine ev_by u14700 ?_
  simp only [t14700, go_sem, e14800 P hg, h00]
  exact e14701 P hg _ 0 (by omega) [] (by simp)
theorem e14601 {vs : List (List Int)} (hv : vs.length = gn.length) (hs : ∀ j, j < vs.length → (vs.getD j default).length ≤ 12) (a b c d e f g h x y z : D) : ∀ q, q ≤ pn.length → ∀ o : List (List Int), o.length ≤ q →
    ev 14601 [a, b, c, d, valsD vs, e, f, g, h, .int q, x, y, intsD pn, z, valsD o] = some [x, y, valsD (o ++ takeL (pn.drop q) vs), .int 0] := by
  have l1 := P.ln
  refine down ?_ fun q hq ih => ?_
  · intro o ho
    refine ev_by u14601 ?_
    simp only [t14601, go_sem, List.length_map, ltI_irr, List.drop_length]
    simp [takeL]
  · intro o ho
    have hin : (leI 0 q && ltI q pn.length) = true := by rw [and_iff, leI_iff, ltI_iff]; omega
    obtain ⟨r1, r2⟩ := P.rn _ (getD_mem hq)
    have hk : (leI 0 (pn.getD q default) && ltI (pn.getD q default) vs.length) = true := by rw [and_iff, leI_iff, ltI_iff]; omega
    have h12 := hs (pn.getD q default).toNat (by omega)
    have e1 : o.map intsD ++ [intsD (vs.getD (pn.getD q default).toNat default)] = (o ++ [vs.getD (pn.getD q default).toNat default]).map intsD := by simp
    have := ih (o ++ [vs.getD (pn.getD q default).toNat default]) (by simp; omega)
    refine ev_by u14601 ?_
    simp only [t14601, go_sem, List.length_map, idx_map _ _ _ hq, hin, hk, idx_map _ vs (pn.getD q default).toNat (by omega), wrapS q (by omega), e1, this]
    rw [cond_lt (by omega), cond_le (by omega), cond_le (by omega), drop_cons hq, List.append_assoc]
    rfl
end

/-! ### Sides -/
def sideRes (ns : List Nd) (es : List Ed) (sn se gn : List Int) (ge : List Ge) (vs : List (List Int)) (s : Int) : List D :=
  if validErr ns es sn se gn ge vs = 0 then (if s = 1 ∨ s = 3 then
    [intsD (takeV (partV sn gn s) gn), gesD (takeE (partV sn gn s) (partE se ge s) ge), valsD (takeL (partV sn gn s) vs), intsD (partV sn gn s), intsD (partE se ge s), .int 0]
    else [intsD [], gesD [], valsD [], intsD [], intsD [], .int 6]) else [intsD [], gesD [], valsD [], intsD [], intsD [], .int (validErr ns es sn se gn ge vs)]
section
variable {ns : List Nd} {es : List Ed} (ht : OkT ns es) {sn se gn : List Int} {ge : List Ge} {vs : List (List Int)} (hf : FewH gn ge vs) (s : Int)
include ht hf
theorem e13300 : ev 13300 [ndsD ns, edsD es, intsD sn, intsD se, intsD gn, gesD ge, valsD vs, .int s] = some (sideRes ns es sn se gn ge vs s) := by
  obtain ⟨f1, f2, f3, f4⟩ := hf
  have hv := e500 ht (gn := gn) (ge := ge) (vs := vs) (by omega) (by omega) sn se
  have h00 : eqI 0 0 = true := by decide
  unfold sideRes
  by_cases h1 : validErr ns es sn se gn ge vs = 0
  · rw [if_pos h1]
    rw [h1] at hv
    obtain ⟨_, h2, V⟩ := validErr_ok h1
    have hp := e11900 V s
    by_cases hs : s = 1 ∨ s = 3
    · rw [if_pos hs]
      have P := part_ok h1 hs
      obtain ⟨_, g0, b1, _, _⟩ := hostErr_ok h2
      obtain ⟨n, hh⟩ := e4300 ht (gn := gn) (ge := ge) (vs := vs) (by omega) (by omega)
      rw [h2] at hh
      have hx := e13600 P g0
      have h4 := e13401 P g0 b1 f4 (ndsD ns) (edsD es) (intsD gn) (gesD ge) (valsD vs) (intsD (partE se ge s)) (.int 0) (.int 0) (intsD gn) (gesD ge) (intsD (takeV (partV sn gn s) gn)) (gesD (takeE (partV sn gn s) (partE se ge s) ge)) 0 (by omega) [] (by simp)
      have h5 : ev 13500 [ndsD ns, edsD es, intsD gn, gesD ge, valsD vs] = some [.int 0] := by
        refine ev_by u13500 ?_
        simp only [t13500, go_sem, hh]
      have h6 : ev 13400 [ndsD ns, edsD es, intsD gn, gesD ge, valsD vs, intsD (partV sn gn s), intsD (partE se ge s)] = some [intsD (takeV (partV sn gn s) gn), gesD (takeE (partV sn gn s) (partE se ge s) ge), valsD (takeL (partV sn gn s) vs), .int 0] := by
        refine ev_by u13400 ?_
        simp only [t13400, go_sem, h5, h00, hx, List.length_map]
        exact h4
      by_cases hs1 : s = 1
      · have c1 : eqI s 1 = true := by rw [eqI_iff]; exact hs1
        refine ev_by u13300 ?_
        simp only [t13300, go_sem, hv, h00, c1, hp, h6]
      · have c1 : eqI s 1 = false := by rw [eqI_false]; exact hs1
        have c3 : eqI s 3 = true := by rw [eqI_iff]; omega
        refine ev_by u13300 ?_
        simp only [t13300, go_sem, hv, h00, c1, c3, hp, h6]
    · rw [if_neg hs]
      have c1 : eqI s 1 = false := by rw [eqI_false]; omega
      have c3 : eqI s 3 = false := by rw [eqI_false]; omega
      refine ev_by u13300 ?_
      simp only [t13300, go_sem, hv, h00, c1, c3]
      rfl
  · rw [if_neg h1]
    refine ev_by u13300 ?_
    simp only [t13300, go_sem, hv]
    rw [cond_ne h1]
    rfl
theorem e14500 : ev 14500 [ndsD ns, edsD es, intsD sn, intsD se, intsD gn, gesD ge, valsD vs, .int s] = some (sideRes ns es sn se gn ge vs s) := by
  obtain ⟨f1, f2, f3, f4⟩ := hf
  have hv := e7700 ht (gn := gn) (ge := ge) (vs := vs) (by omega) (by omega) sn se
  have h00 : eqI 0 0 = true := by decide
  unfold sideRes
  by_cases h1 : validErr ns es sn se gn ge vs = 0
  · rw [if_pos h1]
    rw [h1] at hv
    obtain ⟨_, h2, V⟩ := validErr_ok h1
    have hp := e10600 V s
    by_cases hs : s = 1 ∨ s = 3
    · rw [if_pos hs]
      have P := part_ok h1 hs
      obtain ⟨_, g0, b1, _, _⟩ := hostErr_ok h2
      obtain ⟨n, hh⟩ := e9700 ht (gn := gn) (ge := ge) (vs := vs) (by omega) (by omega)
      rw [h2] at hh
      have hx := e14700 P g0
      have h4 := e14601 P g0 b1 f4 (ndsD ns) (edsD es) (intsD gn) (gesD ge) (intsD (partV sn gn s)) (intsD (partE se ge s)) (.int 0) (.int 0) (intsD (takeV (partV sn gn s) gn)) (gesD (takeE (partV sn gn s) (partE se ge s) ge)) (intsD (partE se ge s)) 0 (by omega) [] (by simp)
      have h6 : ev 14600 [ndsD ns, edsD es, intsD gn, gesD ge, valsD vs, intsD (partV sn gn s), intsD (partE se ge s)] = some [intsD (takeV (partV sn gn s) gn), gesD (takeE (partV sn gn s) (partE se ge s) ge), valsD (takeL (partV sn gn s) vs), .int 0] := by
        refine ev_by u14600 ?_
        simp only [t14600, go_sem, hh, h00, hx]
        exact h4
      by_cases hs1 : s = 1
      · have c1 : eqI s 1 = true := by rw [eqI_iff]; exact hs1
        refine ev_by u14500 ?_
        simp only [t14500, go_sem, hv, h00, c1, hp, h6]
      · have c1 : eqI s 1 = false := by rw [eqI_false]; exact hs1
        have c3 : eqI s 3 = true := by rw [eqI_iff]; omega
        refine ev_by u14500 ?_
        simp only [t14500, go_sem, hv, h00, c1, c3, hp, h6]
    · rw [if_neg hs]
      have c1 : eqI s 1 = false := by rw [eqI_false]; omega
      have c3 : eqI s 3 = false := by rw [eqI_false]; omega
      refine ev_by u14500 ?_
      simp only [t14500, go_sem, hv, h00, c1, c3]
      rfl
  · rw [if_neg h1]
    refine ev_by u14500 ?_
    simp only [t14500, go_sem, hv]
    rw [cond_ne h1]
    rfl
end
theorem e15300 (a b : List Int) (ha : Len a.length) (hb : Len b.length) : ev 15300 [intsD a, intsD b, intsD a, intsD b] = some [.bool true] := by
  refine ev_by u15300 ?_
  simp only [t15300, go_sem, e11500 a ha, e11500 b hb]
theorem e13200 {ns : List Nd} {es : List Ed} {sn se gn : List Int} {ge : List Ge} {vs : List (List Int)} (hl : LenT ns es) (h1 : Len sn.length) (h2 : Len se.length) (h3 : LenH gn ge vs) (s : Int) :
    ev 13200 [ndsD ns, edsD es, intsD sn, intsD se, intsD gn, gesD ge, valsD vs, .int s] = some [.bool true] := by
  obtain ⟨b, hb, hp⟩ := e7100 hl h1 h2 (gn := gn) (ge := ge) (vs := vs) h3.2.2.1
  cases b
  · refine ev_by u13200 ?_
    simp only [t13200, go_sem, awake_ok, hb]
  · obtain ⟨_, _, ht, hsz, hf⟩ := hp rfl
    have s1 := e13300 ht hf s (sn := sn) (se := se)
    have s2 := e14500 ht hf s (sn := sn) (se := se)
    have v1 := e500 ht (gn := gn) (ge := ge) (vs := vs) (by have := hf.1; omega) (by have := hf.2.1; omega) sn se
    have v2 := e7700 ht (gn := gn) (ge := ge) (vs := vs) (by have := hf.1; omega) (by have := hf.2.1; omega) sn se
    obtain ⟨f1, f2, f3, f4⟩ := hf
    have hsame : ∃ (g : List Int) (e : List Ge) (v : List (List Int)) (p q : List Int) (x : Int), sideRes ns es sn se gn ge vs s = [intsD g, gesD e, valsD v, intsD p, intsD q, .int x] ∧ Len g.length ∧ Len e.length ∧ Len v.length ∧ (∀ l, l ∈ v → Len l.length) ∧ Len p.length ∧ Len q.length := by
      have nil : ∀ x : Int, ∃ (g : List Int) (e : List Ge) (v : List (List Int)) (p q : List Int) (y : Int), [intsD [], gesD [], valsD [], intsD [], intsD [], D.int x] = [intsD g, gesD e, valsD v, intsD p, intsD q, .int y] ∧ Len g.length ∧ Len e.length ∧ Len v.length ∧ (∀ l, l ∈ v → Len l.length) ∧ Len p.length ∧ Len q.length :=
        fun x => ⟨[], [], [], [], [], x, rfl, by simp [Len], by simp [Len], by simp [Len], (fun l hl => by cases hl), by simp [Len], by simp [Len]⟩
      unfold sideRes
      split
      · rename_i h0
        split
        · rename_i hs
          have P := part_ok h0 hs
          have q1 := P.ln
          have q2 := P.le
          obtain ⟨_, _, V⟩ := validErr_ok h0
          have q3 := V.lv
          have q4 := V.l1
          refine ⟨_, _, _, _, _, _, rfl, by simp [Len, takeV]; omega, by simp [Len, takeE]; omega, by simp [Len, takeL]; omega, fun l hl => ?_, by unfold Len; omega, by unfold Len; omega⟩
          obtain ⟨k, hk, rfl⟩ := List.mem_map.1 hl
          obtain ⟨r1, r2⟩ := P.rn k hk
          have := f4 k.toNat (by omega)
          unfold Len
          omega
        · exact nil _
      · exact nil _
    obtain ⟨g, e, v, p, q, x, hr, l1, l2, l3, l4, l5, l6⟩ := hsame
    rw [hr] at s1 s2
    have hx : ∀ y : Int, eqI y y = true := fun y => by rw [eqI_iff]
    refine ev_by u13200 ?_
    simp only [t13200, go_sem, awake_ok, hb, s1, s2, v1, v2, hx, e12900 g e v l1 l2 l3 l4, e15300 p q l5 l6]
theorem kinds30_36_3 : [30, 36, 3].flatMap (kindsOf env.ti) = [.sl 22, .sl 23, .sl 26, .sl 26, .sl 26, .sl 31, .sl 34, .int .i64] := by kernel_rfl
theorem tripleSide_pure (ν : List D) (h : All2 (WK env.ti) ([30, 36, 3].flatMap (kindsOf env.ti)) ν) : Ev tree prim (132 * 100) ν [.bool true] := by
  rw [kinds30_36_3] at h
  obtain ⟨x1, r, rfl, h1, h⟩ := all2_cons h
  obtain ⟨x2, r, rfl, h2, h⟩ := all2_cons h
  obtain ⟨x3, r, rfl, h3, h⟩ := all2_cons h
  obtain ⟨x4, r, rfl, h4, h⟩ := all2_cons h
  obtain ⟨x5, r, rfl, h5, h⟩ := all2_cons h
  obtain ⟨x6, r, rfl, h6, h⟩ := all2_cons h
  obtain ⟨x7, r, rfl, h7, h⟩ := all2_cons h
  obtain ⟨x8, r, rfl, h8, h⟩ := all2_cons h
  obtain rfl := all2_nil h
  obtain ⟨ns, rfl, a1, a2⟩ := dec_nds h1
  obtain ⟨es, rfl, b1, b2⟩ := dec_eds h2
  obtain ⟨sn, rfl, c1, _⟩ := dec_ints h3
  obtain ⟨se, rfl, d1, _⟩ := dec_ints h4
  obtain ⟨gn, rfl, f1, _⟩ := dec_ints h5
  obtain ⟨ge, rfl, g1⟩ := dec_ges h6
  obtain ⟨vs, rfl, i1, i2⟩ := dec_vals h7
  obtain ⟨s, rfl, _⟩ := dec_int h8
  exact (evr_iff primDet).1 (e13200 ⟨a1, b1, a2, b2⟩ c1 d1 ⟨f1, g1, i1, i2⟩ s)
end Go.SX.T52

/-
Chapter 52, plain: linked pairs, up to their order.
-/
set_option linter.unusedVariables false
set_option linter.unusedSimpArgs false
set_option linter.unusedSectionVars false
namespace Go.SX.T52
open Go.SX

/-! ### Pairs gathered -/
abbrev Pr.d (p : Int × Int) : D := .agg [.int p.1, .int p.2]
abbrev prsD (l : List (Int × Int)) : D := .list (l.map Pr.d)
def eqP (p q : Int × Int) : Bool := eqI p.1 q.1 && eqI p.2 q.2
theorem eqP_iff (p q : Int × Int) : eqP p q = true ↔ p = q := by
  obtain ⟨a, b⟩ := p
  obtain ⟨c, d⟩ := q
  simp only [eqP, and_iff, eqI_iff, Prod.mk.injEq]
def hasP (l : List (Int × Int)) (p : Int × Int) : Bool := anyK (fun j => eqP p (l.getD j default)) l.length 0
theorem hasP_iff {l : List (Int × Int)} {p : Int × Int} : hasP l p = true ↔ p ∈ l := by
  unfold hasP
  constructor
  · intro h
    obtain ⟨j, _, h2, h3⟩ := anyK_true _ _ h
    rw [eqP_iff] at h3
    rw [h3]
    exact getD_mem (by omega)
  · intro h
    obtain ⟨j, hj, hje⟩ := mem_getD h
    exact anyK_of (j := j) (by omega) (by omega) ((eqP_iff _ _).2 hje.symm)
theorem e6801 (l : List (Int × Int)) (hl : l.length ≤ 1000000) (a b : Int) (x : D) : ∀ i, i ≤ l.length → ev 6801 [prsD l, .int a, .int b, x, .int l.length, .int i] = some [.int (findK (fun j => eqP (a, b) (l.getD j default)) (l.length - i) i)] := by
  refine down ?_ fun i hi ih => ?_
  · refine ev_by u6801 ?_
    simp only [t6801, go_sem, findK_end, ltI_irr]
  · have hin : (leI 0 i && ltI i l.length) = true := by rw [and_iff, leI_iff, ltI_iff]; omega
    refine ev_by u6801 ?_
    simp only [t6801, go_sem, List.length_map, idx_map _ _ _ hi, hin, wrapS i (by omega), ih]
    rw [findK_step _ hi, cond_lt (by omega)]
    have hx : eqP (a, b) (l.getD i default) = (eqI a (l.getD i default).1 && eqI b (l.getD i default).2) := rfl
    rw [hx]
    cases eqI a (l.getD i default).1 && eqI b (l.getD i default).2 <;> rfl
theorem e6700 (l : List (Int × Int)) (hl : l.length ≤ 1000000) (a b : Int) : ev 6700 [prsD l, .int a, .int b] = some [.bool (hasP l (a, b))] := by
  have h : ev 6800 [prsD l, .int a, .int b] = some [.int (findK (fun j => eqP (a, b) (l.getD j default)) l.length 0)] := by
    refine ev_by u6800 ?_
    simp only [t6800, go_sem, List.length_map]
    exact e6801 l hl a b _ 0 (by omega)
  refine ev_by u6700 ?_
  simp only [t6700, go_sem, h, leI_find]
  rfl
theorem e6600 {sn gn : List Int} {se : D} {ge : D} {v : Int} (h1 : 0 ≤ v) (h2 : v < gn.length) (h3 : 0 ≤ gn.getD v.toNat default) (h4 : gn.getD v.toNat default < sn.length) : ev 6600 [.int v, intsD sn, se, intsD gn, ge] = some [.int (sn.getD (gn.getD v.toNat default).toNat default)] := by
  have hin : (leI 0 v && ltI v gn.length) = true := by rw [and_iff, leI_iff, ltI_iff]; omega
  have hk : (leI 0 (gn.getD v.toNat default) && ltI (gn.getD v.toNat default) sn.length) = true := by rw [and_iff, leI_iff, ltI_iff]; omega
  refine ev_by u6600 ?_
  simp only [t6600, go_sem, List.length_map, idx_map _ gn v.toNat (by omega), hin, hk, idx_map _ sn (gn.getD v.toNat default).toNat (by omega)]
def soOf (sn gn : List Int) (v : Int) : Int := sn.getD (gn.getD v.toNat default).toNat default
/-- Whether two edges tell a link. -/
def tells (sn gn : List Int) (x y : Ge) : Bool := eqI x.src y.src && (eqI (soOf sn gn x.src) 2 && (eqI (soOf sn gn x.dst) 1 && eqI (soOf sn gn y.dst) 3))
def addP (acc : List (Int × Int)) (p : Int × Int) : List (Int × Int) := bif hasP acc p then acc else acc ++ [p]
def inner (sn gn : List Int) (ge : List Ge) (x : Ge) : Nat → Nat → List (Int × Int) → List (Int × Int)
  | 0, _, acc => acc
  | k + 1, j, acc => inner sn gn ge x k (j + 1) (bif tells sn gn x (ge.getD j default) then addP acc (x.dst, (ge.getD j default).dst) else acc)
def outer (sn gn : List Int) (ge : List Ge) : Nat → Nat → List (Int × Int) → List (Int × Int)
  | 0, _, acc => acc
  | k + 1, i, acc => outer sn gn ge k (i + 1) (inner sn gn ge (ge.getD i default) ge.length 0 acc)
theorem addP_len (acc : List (Int × Int)) (p : Int × Int) : (addP acc p).length ≤ acc.length + 1 := by
  unfold addP
  cases hasP acc p <;> simp
theorem inner_len (sn gn : List Int) (ge : List Ge) (x : Ge) : ∀ k j acc, (inner sn gn ge x k j acc).length ≤ acc.length + k
  | 0, j, acc => by simp [inner]
  | k + 1, j, acc => by
    unfold inner
    cases tells sn gn x (ge.getD j default)
    · have := inner_len sn gn ge x k (j + 1) acc
      simp only [go_sem]; omega
    · have := inner_len sn gn ge x k (j + 1) (addP acc (x.dst, (ge.getD j default).dst))
      have := addP_len acc (x.dst, (ge.getD j default).dst)
      simp only [go_sem]; omega
theorem addP_nodup {acc : List (Int × Int)} {p : Int × Int} (h : acc.Nodup) : (addP acc p).Nodup := by
  unfold addP
  cases hc : hasP acc p
  · have hn : p ∉ acc := fun hm => by rw [hasP_iff.2 hm] at hc; cases hc
    simp only [go_sem]
    rw [List.nodup_append]
    refine ⟨h, by simp, fun a ha b hb => ?_⟩
    simp only [List.mem_singleton] at hb
    rw [hb]
    intro he
    exact hn (he ▸ ha)
  · exact h
theorem addP_mem {acc : List (Int × Int)} {p q : Int × Int} : q ∈ addP acc p ↔ q ∈ acc ∨ q = p := by
  unfold addP
  cases hc : hasP acc p
  · simp
  · simp only [go_sem]
    rw [hasP_iff] at hc
    constructor
    · exact .inl
    · rintro (h | h)
      · exact h
      · rw [h]; exact hc
theorem inner_nodup (sn gn : List Int) (ge : List Ge) (x : Ge) : ∀ k j acc, acc.Nodup → (inner sn gn ge x k j acc).Nodup
  | 0, j, acc, h => h
  | k + 1, j, acc, h => by
    unfold inner
    cases tells sn gn x (ge.getD j default)
    · exact inner_nodup sn gn ge x k (j + 1) acc h
    · exact inner_nodup sn gn ge x k (j + 1) _ (addP_nodup h)
theorem inner_mem (sn gn : List Int) (ge : List Ge) (x : Ge) (q : Int × Int) : ∀ k j acc, q ∈ inner sn gn ge x k j acc ↔ q ∈ acc ∨ ∃ i, j ≤ i ∧ i < j + k ∧ tells sn gn x (ge.getD i default) = true ∧ q = (x.dst, (ge.getD i default).dst)
  | 0, j, acc => by
    unfold inner
    constructor
    · exact .inl
    · rintro (h | ⟨i, h1, h2, _⟩)
      · exact h
      · omega
  | k + 1, j, acc => by
    unfold inner
    rw [inner_mem sn gn ge x q k (j + 1)]
    cases ht : tells sn gn x (ge.getD j default)
    · simp only [go_sem]
      constructor
      · rintro (h | ⟨i, h1, h2, h3, h4⟩)
        · exact .inl h
        · exact .inr ⟨i, by omega, by omega, h3, h4⟩
      · rintro (h | ⟨i, h1, h2, h3, h4⟩)
        · exact .inl h
        · by_cases hij : i = j
          · rw [hij, ht] at h3; cases h3
          · exact .inr ⟨i, by omega, by omega, h3, h4⟩
    · simp only [go_sem, addP_mem]
      constructor
      · rintro ((h | h) | ⟨i, h1, h2, h3, h4⟩)
        · exact .inl h
        · exact .inr ⟨j, by omega, by omega, ht, h⟩
        · exact .inr ⟨i, by omega, by omega, h3, h4⟩
      · rintro (h | ⟨i, h1, h2, h3, h4⟩)
        · exact .inl (.inl h)
        · by_cases hij : i = j
          · rw [hij] at h4; exact .inl (.inr h4)
          · exact .inr ⟨i, by omega, by omega, h3, h4⟩
theorem outer_nodup (sn gn : List Int) (ge : List Ge) : ∀ k i acc, acc.Nodup → (outer sn gn ge k i acc).Nodup
  | 0, i, acc, h => h
  | k + 1, i, acc, h => outer_nodup sn gn ge k (i + 1) _ (inner_nodup sn gn ge _ _ _ _ h)
theorem outer_mem (sn gn : List Int) (ge : List Ge) (q : Int × Int) : ∀ k i acc, q ∈ outer sn gn ge k i acc ↔ q ∈ acc ∨ ∃ a b, i ≤ a ∧ a < i + k ∧ b < ge.length ∧ tells sn gn (ge.getD a default) (ge.getD b default) = true ∧ q = ((ge.getD a default).dst, (ge.getD b default).dst)
  | 0, i, acc => by
    unfold outer
    constructor
    · exact .inl
    · rintro (h | ⟨a, b, h1, h2, _⟩)
      · exact h
      · omega
  | k + 1, i, acc => by
    unfold outer
    rw [outer_mem sn gn ge q k (i + 1), inner_mem]
    constructor
    · rintro ((h | ⟨b, h1, h2, h3, h4⟩) | ⟨a, b, h1, h2, h3, h4, h5⟩)
      · exact .inl h
      · exact .inr ⟨i, b, by omega, by omega, by omega, h3, h4⟩
      · exact .inr ⟨a, b, by omega, by omega, h3, h4, h5⟩
    · rintro (h | ⟨a, b, h1, h2, h3, h4, h5⟩)
      · exact .inl (.inl h)
      · by_cases hai : a = i
        · rw [hai] at h4 h5; exact .inl (.inr ⟨b, by omega, by omega, h4, h5⟩)
        · exact .inr ⟨a, b, by omega, by omega, h3, h4, h5⟩
theorem outer_len (sn gn : List Int) (ge : List Ge) : ∀ k i acc, (outer sn gn ge k i acc).length ≤ acc.length + k * ge.length
  | 0, i, acc => by simp [outer]
  | k + 1, i, acc => by
    unfold outer
    have h1 := outer_len sn gn ge k (i + 1) (inner sn gn ge (ge.getD i default) ge.length 0 acc)
    have h2 := inner_len sn gn ge (ge.getD i default) ge.length 0 acc
    rw [Nat.succ_mul]
    omega
def linkSet (sn gn : List Int) (ge : List Ge) : List (Int × Int) := outer sn gn ge ge.length 0 []
theorem linkSet_mem {sn gn : List Int} {ge : List Ge} {q : Int × Int} : q ∈ linkSet sn gn ge ↔ ∃ a b, a < ge.length ∧ b < ge.length ∧ tells sn gn (ge.getD a default) (ge.getD b default) = true ∧ q = ((ge.getD a default).dst, (ge.getD b default).dst) := by
  unfold linkSet
  rw [outer_mem]
  constructor
  · rintro (h | ⟨a, b, _, h2, h3, h4, h5⟩)
    · cases h
    · exact ⟨a, b, by omega, h3, h4, h5⟩
  · rintro ⟨a, b, h1, h2, h3, h4⟩
    exact .inr ⟨a, b, by omega, by omega, h2, h3, h4⟩
theorem linkSet_nodup (sn gn : List Int) (ge : List Ge) : (linkSet sn gn ge).Nodup := outer_nodup _ _ _ _ _ _ .nil
theorem linkSet_len (sn gn : List Int) (ge : List Ge) : (linkSet sn gn ge).length ≤ ge.length * ge.length := by
  have := outer_len sn gn ge ge.length 0 []
  simpa [linkSet] using this
section
variable {sn se gn : List Int} {ge : List Ge} {vs : List (List Int)} (V : VH sn se gn ge vs)
include V
theorem e403 (a b : D) (v7 v8 : D) {i : Nat} (hi : i < ge.length) : ∀ j, j ≤ ge.length → ∀ acc : List (Int × Int), acc.length + (ge.length - j) ≤ 1000000 →
    ev 403 [a, b, intsD sn, intsD se, intsD gn, gesD ge, valsD vs, v7, v8, .int i, .int ge.length, .int j, prsD acc, .int (ge.getD i default).ty, .int (ge.getD i default).src, .int (ge.getD i default).dst] =
      ev 401 [a, b, intsD sn, intsD se, intsD gn, gesD ge, valsD vs, v7, v8, .int (i + 1 : Nat), prsD (inner sn gn ge (ge.getD i default) (ge.length - j) j acc)] := by
  have l2 := V.l2
  obtain ⟨k1, k2, k3, k4, k5, k6⟩ := V.ek i hi
  have n1 := V.nk (ge.getD i default).src.toNat (by omega)
  have n2 := V.nk (ge.getD i default).dst.toNat (by omega)
  refine down ?_ fun j hj ih => ?_
  · intro acc _
    rw [ev_eq u403 rfl]
    simp only [t403, go_sem, ltI_irr, wrapS i (by omega)]
    rw [Nat.sub_self]
    rfl
  · intro acc hacc
    have hin : (leI 0 j && ltI j ge.length) = true := by rw [and_iff, leI_iff, ltI_iff]; omega
    obtain ⟨m1, m2, m3, m4, m5, m6⟩ := V.ek j hj
    have n3 := V.nk (ge.getD j default).dst.toNat (by omega)
    have s1 := e6600 (sn := sn) (gn := gn) (se := intsD se) (ge := gesD ge) k3 k4 n1.1 n1.2
    have s2 := e6600 (sn := sn) (gn := gn) (se := intsD se) (ge := gesD ge) k5 k6 n2.1 n2.2
    have s3 := e6600 (sn := sn) (gn := gn) (se := intsD se) (ge := gesD ge) m5 m6 n3.1 n3.2
    have hc := e6700 acc (by omega) (ge.getD i default).dst (ge.getD j default).dst
    have e1 : acc.map Pr.d ++ [.agg [.int (ge.getD i default).dst, .int (ge.getD j default).dst]] = (acc ++ [((ge.getD i default).dst, (ge.getD j default).dst)]).map Pr.d := by simp
    rw [show ge.length - j = (ge.length - (j + 1)) + 1 by omega]
    have hx : inner sn gn ge (ge.getD i default) ((ge.length - (j + 1)) + 1) j acc = inner sn gn ge (ge.getD i default) (ge.length - (j + 1)) (j + 1) (bif tells sn gn (ge.getD i default) (ge.getD j default) then addP acc ((ge.getD i default).dst, (ge.getD j default).dst) else acc) := rfl
    rw [hx]
    have ih0 := ih acc (by omega)
    have ih1 := ih (acc ++ [((ge.getD i default).dst, (ge.getD j default).dst)]) (by simp; omega)
    rw [ev_eq u403 rfl]
    simp only [t403, go_sem, List.length_map, idx_map _ _ _ hj, hin, s1, s2, s3, hc, wrapS j (by omega), e1, ih0, ih1]
    rw [cond_lt (by omega), cond_le (by omega)]
    have ht : tells sn gn (ge.getD i default) (ge.getD j default) = (eqI (ge.getD i default).src (ge.getD j default).src && (eqI (sn.getD (gn.getD (ge.getD i default).src.toNat default).toNat default) 2 && (eqI (sn.getD (gn.getD (ge.getD i default).dst.toNat default).toNat default) 1 && eqI (sn.getD (gn.getD (ge.getD j default).dst.toNat default).toNat default) 3))) := rfl
    have ha : addP acc ((ge.getD i default).dst, (ge.getD j default).dst) = bif hasP acc ((ge.getD i default).dst, (ge.getD j default).dst) then acc else acc ++ [((ge.getD i default).dst, (ge.getD j default).dst)] := rfl
    rw [ht, ha]
    cases eqI (ge.getD i default).src (ge.getD j default).src
    · rfl
    · cases eqI (sn.getD (gn.getD (ge.getD i default).src.toNat default).toNat default) 2
      · rfl
      · cases eqI (sn.getD (gn.getD (ge.getD i default).dst.toNat default).toNat default) 1
        · rfl
        · cases eqI (sn.getD (gn.getD (ge.getD j default).dst.toNat default).toNat default) 3
          · rfl
          · cases hasP acc ((ge.getD i default).dst, (ge.getD j default).dst) <;> rfl
theorem e401 (a b : D) (v7 : D) : ∀ i, i ≤ ge.length → ∀ acc : List (Int × Int), acc.length + (ge.length - i) * ge.length ≤ 900000 →
    ev 401 [a, b, intsD sn, intsD se, intsD gn, gesD ge, valsD vs, v7, .int ge.length, .int i, prsD acc] = callK (ev 6900 [prsD (outer sn gn ge (ge.length - i) i acc)]) 1 fun rs => some [rs.getD 0 default, .int 0] := by
  have l2 := V.l2
  refine down ?_ fun i hi ih => ?_
  · intro acc _
    rw [ev_eq u401 rfl]
    simp only [t401, go_sem, ltI_irr]
    rw [Nat.sub_self]
    rfl
  · intro acc hacc
    have hin : (leI 0 i && ltI i ge.length) = true := by rw [and_iff, leI_iff, ltI_iff]; omega
    have h403 := e403 V a b v7 (.int ge.length) hi 0 (by omega) acc (by
      have : (ge.length - i) * ge.length ≥ 1 * ge.length := Nat.mul_le_mul_right _ (by omega)
      omega)
    rw [Nat.sub_zero] at h403
    have hlen := inner_len sn gn ge (ge.getD i default) ge.length 0 acc
    have ih0 := ih (inner sn gn ge (ge.getD i default) ge.length 0 acc) (by
      have : (ge.length - i) * ge.length = (ge.length - (i + 1)) * ge.length + ge.length := by
        rw [show ge.length - i = (ge.length - (i + 1)) + 1 by omega, Nat.succ_mul]
      omega)
    rw [show ge.length - i = (ge.length - (i + 1)) + 1 by omega]
    have hx : outer sn gn ge ((ge.length - (i + 1)) + 1) i acc = outer sn gn ge (ge.length - (i + 1)) (i + 1) (inner sn gn ge (ge.getD i default) ge.length 0 acc) := rfl
    rw [hx, ← ih0]
    rw [ev_eq u401 rfl]
    simp only [t401, go_sem, List.length_map, idx_map _ _ _ hi, hin]
    rw [cond_lt (by omega)]
    exact h403
end
/-- The links, up to their order. -/
theorem e400 {ns : List Nd} {es : List Ed} (ht : OkT ns es) {sn se gn : List Int} {ge : List Ge} {vs : List (List Int)} (hf : FewH gn ge vs) (h0 : validErr ns es sn se gn ge vs = 0) :
    ev 400 [ndsD ns, edsD es, intsD sn, intsD se, intsD gn, gesD ge, valsD vs] = callK (ev 6900 [prsD (linkSet sn gn ge)]) 1 fun rs => some [rs.getD 0 default, .int 0] := by
  obtain ⟨f1, f2, f3, f4⟩ := hf
  have hv := e500 ht (gn := gn) (ge := ge) (vs := vs) (by omega) (by omega) sn se
  rw [h0] at hv
  obtain ⟨_, _, V⟩ := validErr_ok h0
  have l2 := V.l2
  have h00 : eqI 0 0 = true := by decide
  have h := e401 V (ndsD ns) (edsD es) (.int 0) 0 (by omega) [] (by
    have : (ge.length - 0) * ge.length ≤ 80 * 80 := Nat.mul_le_mul (by omega) (by omega)
    simp only [List.length_nil]
    omega)
  rw [Nat.sub_zero] at h
  rw [ev_eq u400 rfl]
  simp only [t400, go_sem, hv, h00, List.length_map]
  exact h
theorem e400n {ns : List Nd} {es : List Ed} (ht : OkT ns es) {sn se gn : List Int} {ge : List Ge} {vs : List (List Int)} (hf : FewH gn ge vs) (h0 : validErr ns es sn se gn ge vs ≠ 0) :
    ev 400 [ndsD ns, edsD es, intsD sn, intsD se, intsD gn, gesD ge, valsD vs] = some [prsD [], .int (validErr ns es sn se gn ge vs)] := by
  obtain ⟨f1, f2, f3, f4⟩ := hf
  have hv := e500 ht (gn := gn) (ge := ge) (vs := vs) (by omega) (by omega) sn se
  refine ev_by u400 ?_
  simp only [t400, go_sem, hv]
  rw [cond_ne h0]
  rfl
end Go.SX.T52

/-
Chapter 52, plain: the links of a triple in order.
-/
set_option linter.unusedVariables false
set_option linter.unusedSimpArgs false
set_option linter.unusedSectionVars false
namespace Go.SX.T52
open Go.SX

theorem anyK_iff {p : Nat → Bool} : ∀ {k i : Nat}, anyK p k i = true ↔ ∃ j, i ≤ j ∧ j < i + k ∧ p j = true
  | 0, i => by
    constructor
    · intro h; cases h
    · rintro ⟨j, h1, h2, _⟩; omega
  | k + 1, i => by
    rw [anyK, Bool.or_eq_true, anyK_iff]
    constructor
    · rintro (h | ⟨j, h1, h2, h3⟩)
      · exact ⟨i, Nat.le_refl _, by omega, h⟩
      · exact ⟨j, by omega, by omega, h3⟩
    · rintro ⟨j, h1, h2, h3⟩
      by_cases hj : j = i
      · subst hj; exact .inl h3
      · exact .inr ⟨j, by omega, by omega, h3⟩
/-! ### What the reference says -/
def led (ge : List Ge) (m x : Int) : Bool := anyK (fun k => eqI (ge.getD k default).src m && eqI (ge.getD k default).dst x) ge.length 0
def fnd (ge : List Ge) (p2 : List Int) (a b : Int) : Bool := anyK (fun k => led ge (p2.getD k default) a && led ge (p2.getD k default) b) p2.length 0
def rowR (ge : List Ge) (p2 p3 : List Int) (a : Int) : Nat → Nat → List (Int × Int)
  | 0, _ => []
  | k + 1, j => (bif fnd ge p2 a (p3.getD j default) then [(a, p3.getD j default)] else []) ++ rowR ge p2 p3 a k (j + 1)
def allR (ge : List Ge) (p1 p2 p3 : List Int) : Nat → Nat → List (Int × Int)
  | 0, _ => []
  | k + 1, i => rowR ge p2 p3 (p1.getD i default) p3.length 0 ++ allR ge p1 p2 p3 k (i + 1)
theorem rowR_mem {ge : List Ge} {p2 p3 : List Int} {a : Int} {q : Int × Int} : ∀ {k j : Nat}, q ∈ rowR ge p2 p3 a k j ↔ ∃ t, j ≤ t ∧ t < j + k ∧ fnd ge p2 a (p3.getD t default) = true ∧ q = (a, p3.getD t default)
  | 0, j => by
    constructor
    · intro h; cases h
    · rintro ⟨t, h1, h2, _⟩; omega
  | k + 1, j => by
    unfold rowR
    rw [List.mem_append, rowR_mem]
    constructor
    · rintro (h | ⟨t, h1, h2, h3, h4⟩)
      · cases hf : fnd ge p2 a (p3.getD j default)
        · rw [hf] at h; cases h
        · rw [hf] at h
          obtain rfl := List.mem_singleton.1 h
          exact ⟨j, Nat.le_refl _, by omega, hf, rfl⟩
      · exact ⟨t, by omega, by omega, h3, h4⟩
    · rintro ⟨t, h1, h2, h3, h4⟩
      by_cases hj : t = j
      · subst hj
        rw [h3]
        exact .inl (by rw [h4]; exact List.mem_singleton.2 rfl)
      · exact .inr ⟨t, by omega, by omega, h3, h4⟩
theorem allR_mem {ge : List Ge} {p1 p2 p3 : List Int} {q : Int × Int} : ∀ {k i : Nat}, q ∈ allR ge p1 p2 p3 k i ↔ ∃ s t, i ≤ s ∧ s < i + k ∧ t < p3.length ∧ fnd ge p2 (p1.getD s default) (p3.getD t default) = true ∧ q = (p1.getD s default, p3.getD t default)
  | 0, i => by
    constructor
    · intro h; cases h
    · rintro ⟨s, t, h1, h2, _⟩; omega
  | k + 1, i => by
    unfold allR
    rw [List.mem_append, allR_mem, rowR_mem]
    constructor
    · rintro (⟨t, h1, h2, h3, h4⟩ | ⟨s, t, h1, h2, h3, h4, h5⟩)
      · exact ⟨i, t, Nat.le_refl _, by omega, by omega, h3, h4⟩
      · exact ⟨s, t, by omega, by omega, h3, h4, h5⟩
    · rintro ⟨s, t, h1, h2, h3, h4, h5⟩
      by_cases hs : s = i
      · subst hs
        exact .inl ⟨t, by omega, by omega, h4, h5⟩
      · exact .inr ⟨s, t, by omega, by omega, h3, h4, h5⟩
def Asc (l : List Int) : Prop := ∀ i j : Nat, i < j → j < l.length → l.getD i default < l.getD j default
theorem rowR_sorted {ge : List Ge} {p2 p3 : List Int} (h3 : Asc p3) (a : Int) : ∀ {k j : Nat}, j + k ≤ p3.length → (rowR ge p2 p3 a k j).Pairwise fun x y => ltP x y = true
  | 0, j, _ => .nil
  | k + 1, j, hk => by
    unfold rowR
    refine List.pairwise_append.2 ⟨?_, rowR_sorted h3 a (by omega), fun x hx y hy => ?_⟩
    · cases fnd ge p2 a (p3.getD j default)
      · exact .nil
      · exact List.pairwise_singleton _ _
    · obtain ⟨t, t1, t2, _, rfl⟩ := rowR_mem.1 hy
      have hx' : x = (a, p3.getD j default) := by
        cases hf : fnd ge p2 a (p3.getD j default)
        · rw [hf] at hx; cases hx
        · rw [hf] at hx; exact List.mem_singleton.1 hx
      subst hx'
      exact ltP_iff.2 (.inr ⟨rfl, h3 j t (by omega) (by omega)⟩)
theorem allR_sorted {ge : List Ge} {p1 p2 p3 : List Int} (h1 : Asc p1) (h3 : Asc p3) : ∀ {k i : Nat}, i + k ≤ p1.length → (allR ge p1 p2 p3 k i).Pairwise fun x y => ltP x y = true
  | 0, i, _ => .nil
  | k + 1, i, hk => by
    unfold allR
    refine List.pairwise_append.2 ⟨rowR_sorted h3 _ (by omega), allR_sorted h1 h3 (by omega), fun x hx y hy => ?_⟩
    obtain ⟨t, _, _, _, rfl⟩ := rowR_mem.1 hx
    obtain ⟨s, t', s1, s2, _, _, rfl⟩ := allR_mem.1 hy
    exact ltP_iff.2 (.inl (h1 i s (by omega) (by omega)))
theorem rowR_len {ge : List Ge} {p2 p3 : List Int} {a : Int} : ∀ (k j : Nat), (rowR ge p2 p3 a k j).length ≤ k
  | 0, j => Nat.le_refl _
  | k + 1, j => by
    unfold rowR
    have := rowR_len (ge := ge) (p2 := p2) (p3 := p3) (a := a) k (j + 1)
    rw [List.length_append]
    cases fnd ge p2 a (p3.getD j default) <;> simp <;> omega

/-! ### What its trees answer -/
theorem e10701 {ge : List Ge} (hl : Len ge.length) (g v4 : D) (m x : Int) : ∀ i, i ≤ ge.length → ev 10701 [g, gesD ge, .int m, .int x, v4, .int i] = some [.bool (anyK (fun k => eqI (ge.getD k default).src m && eqI (ge.getD k default).dst x) (ge.length - i) i)] := by
  unfold Len at hl
  refine down ?_ fun i hi ih => ?_
  · refine ev_by u10701 ?_
    simp only [t10701, go_sem, List.length_map, ltI_irr, anyK_end]
  · have hin : (leI 0 i && ltI i ge.length) = true := by rw [and_iff, leI_iff, ltI_iff]; omega
    refine ev_by u10701 ?_
    simp only [t10701, go_sem, List.length_map, idx_map _ _ _ hi, hin, wrapS i (by omega), ih]
    rw [cond_lt (by omega), anyK_step _ hi]
    cases eqI (ge.getD i default).src m
    · rfl
    · cases eqI (ge.getD i default).dst x <;> rfl
theorem e10700 {ge : List Ge} (hl : Len ge.length) (g : D) (m x : Int) : ev 10700 [g, gesD ge, .int m, .int x] = some [.bool (led ge m x)] := by
  refine ev_by u10700 ?_
  simp only [t10700, go_sem]
  exact e10701 hl g _ m x 0 (by omega)
section
variable {ge : List Ge} (hl : Len ge.length) {p1 p2 p3 : List Int} (l1 : p1.length ≤ 1000) (l2 : p2.length ≤ 1000) (l3 : p3.length ≤ 1000) (a b sn se gn vs v7 p1e p2e p3e : D)
include hl l1 l2 l3
theorem e7605 {i j : Nat} (hi : i < p1.length) (hj : j < p3.length) (acc : List (Int × Int)) (hacc : acc.length ≤ 1000000) : ∀ k, k ≤ p2.length → ∀ f : Bool,
    ev 7605 [a, b, sn, se, gn, gesD ge, vs, v7, .int i, .int j, .bool f, .int k, gn, gesD ge, vs, prsD acc, intsD p1, p1e, intsD p2, p2e, intsD p3, p3e] =
      ev 7603 [a, b, sn, se, gn, gesD ge, vs, v7, .int i, .int (j + 1 : Nat), gn, gesD ge, vs, prsD (bif f || anyK (fun k => led ge (p2.getD k default) (p1.getD i default) && led ge (p2.getD k default) (p3.getD j default)) (p2.length - k) k then acc ++ [(p1.getD i default, p3.getD j default)] else acc), intsD p1, p1e, intsD p2, p2e, intsD p3, p3e] := by
  have hin1 : (leI 0 i && ltI i p1.length) = true := by rw [and_iff, leI_iff, ltI_iff]; omega
  have hin3 : (leI 0 j && ltI j p3.length) = true := by rw [and_iff, leI_iff, ltI_iff]; omega
  have hacc' : leI acc.length 1073741824 = true := by rw [leI_iff]; omega
  have e1 : acc.map Pr.d ++ [.agg [.int (p1.getD i default), .int (p3.getD j default)]] = (acc ++ [(p1.getD i default, p3.getD j default)]).map Pr.d := by simp
  refine down ?_ fun k hk ih => ?_
  · intro f
    rw [ev_eq u7605 rfl]
    simp only [t7605, go_sem, List.length_map, ltI_irr, anyK_end, Bool.or_false, idx_map _ p1 i hi, idx_map _ p3 j hj, hin1, hin3, hacc', e1, wrapS j (by omega)]
    cases f <;> rfl
  · intro f
    have hin : (leI 0 k && ltI k p2.length) = true := by rw [and_iff, leI_iff, ltI_iff]; omega
    have ih1 := ih true
    have ih2 := ih (led ge (p2.getD k default) (p3.getD j default))
    have ih3 := ih false
    rw [anyK_step _ hk]
    rw [ev_eq u7605 rfl]
    simp only [t7605, go_sem, List.length_map, idx_map _ p1 i hi, idx_map _ p3 j hj, idx_map _ p2 k hk, hin1, hin3, hin, wrapS k (by omega), e10700 hl, ih1, ih2, ih3]
    rw [cond_lt (by omega)]
    cases f
    · cases led ge (p2.getD k default) (p1.getD i default)
      · rfl
      · rfl
    · rfl
theorem e7603 {i : Nat} (hi : i < p1.length) : ∀ j, j ≤ p3.length → ∀ acc : List (Int × Int), acc.length + (p3.length - j) ≤ 1000000 →
    ev 7603 [a, b, sn, se, gn, gesD ge, vs, v7, .int i, .int j, gn, gesD ge, vs, prsD acc, intsD p1, p1e, intsD p2, p2e, intsD p3, p3e] =
      ev 7601 [a, b, sn, se, gn, gesD ge, vs, v7, .int (i + 1 : Nat), gn, gesD ge, vs, prsD (acc ++ rowR ge p2 p3 (p1.getD i default) (p3.length - j) j), intsD p1, p1e, intsD p2, p2e, intsD p3, p3e] := by
  refine down ?_ fun j hj ih => ?_
  · intro acc _
    rw [ev_eq u7603 rfl]
    simp only [t7603, go_sem, List.length_map, ltI_irr, wrapS i (by omega)]
    rw [Nat.sub_self]
    show _ = ev 7601 [a, b, sn, se, gn, gesD ge, vs, v7, .int (i + 1 : Nat), gn, gesD ge, vs, prsD (acc ++ []), intsD p1, p1e, intsD p2, p2e, intsD p3, p3e]
    rw [List.append_nil]
  · intro acc hacc
    have h := e7605 hl l1 l2 l3 a b sn se gn vs v7 p1e p2e p3e hi hj acc (by omega) 0 (by omega) false
    rw [Bool.false_or, Nat.sub_zero] at h
    have hs : rowR ge p2 p3 (p1.getD i default) (p3.length - j) j = (bif fnd ge p2 (p1.getD i default) (p3.getD j default) then [(p1.getD i default, p3.getD j default)] else []) ++ rowR ge p2 p3 (p1.getD i default) (p3.length - (j + 1)) (j + 1) := by
      rw [show p3.length - j = (p3.length - (j + 1)) + 1 by omega]
      rfl
    rw [hs]
    rw [ev_eq u7603 rfl]
    simp only [t7603, go_sem, List.length_map]
    rw [cond_lt (by omega)]
    refine h.trans ?_
    show ev 7603 [a, b, sn, se, gn, gesD ge, vs, v7, .int i, .int (j + 1 : Nat), gn, gesD ge, vs, prsD (bif fnd ge p2 (p1.getD i default) (p3.getD j default) then acc ++ [(p1.getD i default, p3.getD j default)] else acc), intsD p1, p1e, intsD p2, p2e, intsD p3, p3e] = _
    cases fnd ge p2 (p1.getD i default) (p3.getD j default)
    · exact ih acc (by omega)
    · have := ih (acc ++ [(p1.getD i default, p3.getD j default)]) (by simp; omega)
      rw [List.append_assoc] at this
      exact this
theorem e7601 : ∀ i, i ≤ p1.length → ∀ acc : List (Int × Int), acc.length + (p1.length - i) * p3.length ≤ 1000000 →
    ev 7601 [a, b, sn, se, gn, gesD ge, vs, v7, .int i, gn, gesD ge, vs, prsD acc, intsD p1, p1e, intsD p2, p2e, intsD p3, p3e] = some [prsD (acc ++ allR ge p1 p2 p3 (p1.length - i) i), .int 0] := by
  refine down ?_ fun i hi ih => ?_
  · intro acc _
    rw [ev_eq u7601 rfl]
    simp only [t7601, go_sem, List.length_map, ltI_irr]
    rw [Nat.sub_self]
    show _ = some [prsD (acc ++ []), .int 0]
    rw [List.append_nil]
  · intro acc hacc
    have hm : (p1.length - i) * p3.length = (p1.length - (i + 1)) * p3.length + p3.length := by
      rw [show p1.length - i = (p1.length - (i + 1)) + 1 by omega, Nat.succ_mul]
    have h := e7603 hl l1 l2 l3 a b sn se gn vs v7 p1e p2e p3e hi 0 (by omega) acc (by omega)
    rw [Nat.sub_zero] at h
    have hs : allR ge p1 p2 p3 (p1.length - i) i = rowR ge p2 p3 (p1.getD i default) p3.length 0 ++ allR ge p1 p2 p3 (p1.length - (i + 1)) (i + 1) := by
      rw [show p1.length - i = (p1.length - (i + 1)) + 1 by omega]
      rfl
    rw [hs, ← List.append_assoc]
    rw [ev_eq u7601 rfl]
    simp only [t7601, go_sem, List.length_map]
    rw [cond_lt (by omega)]
    refine h.trans ?_
    have hr := rowR_len (ge := ge) (p2 := p2) (p3 := p3) (a := p1.getD i default) p3.length 0
    exact ih (acc ++ rowR ge p2 p3 (p1.getD i default) p3.length 0) (by rw [List.length_append]; omega)
end
theorem e7001 (l : List (Int × Int)) (hl : l.length ≤ 1000000) (v2 : D) : ∀ i, i ≤ l.length → ev 7001 [prsD l, prsD l, v2, .int l.length, .int i] = some [.bool true] := by
  refine down ?_ fun i hi ih => ?_
  · refine ev_by u7001 ?_
    simp only [t7001, go_sem, ltI_irr]
  · have hin : (leI 0 i && ltI i l.length) = true := by rw [and_iff, leI_iff, ltI_iff]; omega
    have hx : ∀ y : Int, eqI y y = true := fun y => by rw [eqI_iff]
    refine ev_by u7001 ?_
    simp only [t7001, go_sem, List.length_map, idx_map _ _ _ hi, hin, wrapS i (by omega), ih, hx]
    rw [cond_lt (by omega)]
    rfl
theorem e7000 (l : List (Int × Int)) (hl : l.length ≤ 1000000) : ev 7000 [prsD l, prsD l] = some [.bool true] := by
  have h := e7001 l hl (.bool false) 0 (by omega)
  refine ev_by u7000 ?_
  simp only [t7000, go_sem, List.length_map]
  rw [cond_eq rfl]
  exact h

/-! ### Both are one -/
theorem links_eq {sn se gn : List Int} {ge : List Ge} {vs : List (List Int)} (V : VH sn se gn ge vs) :
    sortP (linkSet sn gn ge) = allR ge (partV sn gn 1) (partV sn gn 2) (partV sn gn 3) (partV sn gn 1).length 0 := by
  have asc : ∀ s, Asc (partV sn gn s) := fun s i j hij hj => asc_get (idxK_asc _ _ _) hij hj
  have hs := allR_sorted (ge := ge) (p2 := partV sn gn 2) (asc 1) (asc 3) (k := (partV sn gn 1).length) (i := 0) (by omega)
  refine order_unique (sortP_sorted _) (hs.imp fun {x y} h => ?_) ((sortP_perm _).trans ?_)
  · rw [leP_iff]
    rw [ltP_iff] at h
    omega
  · refine (List.perm_ext_iff_of_nodup (linkSet_nodup _ _ _) (hs.imp fun {x y} h he => ?_)).2 fun q => ?_
    · subst he
      rw [ltP_iff] at h
      omega
    · rw [linkSet_mem, allR_mem]
      have pm : ∀ s x : Int, x ∈ partV sn gn s ↔ 0 ≤ x ∧ x < gn.length ∧ soOf sn gn x = s := by
        intro s x
        unfold partV
        rw [idxK_mem]
        constructor
        · rintro ⟨j, rfl, _, h2, h3⟩
          rw [eqI_iff] at h3
          exact ⟨by omega, by omega, by unfold soOf; rw [Int.toNat_natCast]; exact h3⟩
        · rintro ⟨h1, h2, h3⟩
          refine ⟨x.toNat, by omega, by omega, by omega, ?_⟩
          rw [eqI_iff]
          exact h3
      have gm : ∀ {l : List Int} {t : Nat}, t < l.length → l.getD t default ∈ l := fun ht => getD_mem ht
      constructor
      · rintro ⟨a, b, ha, hb, ht, rfl⟩
        simp only [tells, and_iff, eqI_iff] at ht
        obtain ⟨t1, t2, t3, t4⟩ := ht
        obtain ⟨_, _, m1, m2, m3, m4⟩ := V.ek a ha
        obtain ⟨_, _, n1, n2, n3, n4⟩ := V.ek b hb
        obtain ⟨s, hs', es⟩ := mem_getD ((pm 1 _).2 ⟨m3, m4, t3⟩)
        obtain ⟨t, ht', et⟩ := mem_getD ((pm 3 _).2 ⟨n3, n4, t4⟩)
        obtain ⟨u, hu', eu⟩ := mem_getD ((pm 2 _).2 ⟨m1, m2, t2⟩)
        refine ⟨s, t, by omega, by omega, ht', ?_, by rw [es, et]⟩
        unfold fnd
        refine anyK_iff.2 ⟨u, by omega, by omega, ?_⟩
        rw [and_iff, es, et, eu]
        unfold led
        refine ⟨anyK_iff.2 ⟨a, by omega, by omega, ?_⟩, anyK_iff.2 ⟨b, by omega, by omega, ?_⟩⟩
        · rw [and_iff, eqI_iff, eqI_iff]
          exact ⟨rfl, rfl⟩
        · rw [and_iff, eqI_iff, eqI_iff]
          exact ⟨t1.symm, rfl⟩
      · rintro ⟨s, t, _, hs', ht', hf, rfl⟩
        unfold fnd at hf
        obtain ⟨u, _, hu, hf⟩ := anyK_iff.1 hf
        rw [and_iff] at hf
        unfold led at hf
        obtain ⟨a, _, ha, h1⟩ := anyK_iff.1 hf.1
        obtain ⟨b, _, hb, h2⟩ := anyK_iff.1 hf.2
        rw [and_iff, eqI_iff, eqI_iff] at h1 h2
        refine ⟨a, b, by omega, by omega, ?_, by rw [h1.2, h2.2]⟩
        simp only [tells, and_iff, eqI_iff]
        obtain ⟨_, _, q1⟩ := (pm 1 _).1 (gm (show s < (partV sn gn 1).length by omega))
        obtain ⟨_, _, q2⟩ := (pm 2 _).1 (gm (show u < (partV sn gn 2).length by omega))
        obtain ⟨_, _, q3⟩ := (pm 3 _).1 (gm ht')
        exact ⟨by rw [h1.1, h2.1], by rw [h1.1]; exact q2, by rw [h1.2]; exact q1, by rw [h2.2]; exact q3⟩
theorem links_small {sn se gn : List Int} {ge : List Ge} {vs : List (List Int)} (V : VH sn se gn ge vs) : (linkSet sn gn ge).all smallB = true := by
  refine List.all_eq_true.2 fun q hq => ?_
  obtain ⟨a, b, ha, hb, _, rfl⟩ := linkSet_mem.1 hq
  have l1 := V.l1
  obtain ⟨_, _, m1, m2, m3, m4⟩ := V.ek a ha
  obtain ⟨_, _, n1, n2, n3, n4⟩ := V.ek b hb
  simp only [smallB, Bool.and_eq_true, decide_eq_true_iff]
  omega
theorem e0 {ns : List Nd} {es : List Ed} {sn se gn : List Int} {ge : List Ge} {vs : List (List Int)} (hl : LenT ns es) (h1 : Len sn.length) (h2 : Len se.length) (h3 : LenH gn ge vs) :
    ev 0 [ndsD ns, edsD es, intsD sn, intsD se, intsD gn, gesD ge, valsD vs] = some [.bool true] := by
  obtain ⟨b, hb, hp⟩ := e7100 hl h1 h2 (gn := gn) (ge := ge) (vs := vs) h3.2.2.1
  cases b
  · refine ev_by u0 ?_
    simp only [t0, go_sem, awake_ok, hb]
  · obtain ⟨_, _, ht, hsz, hf⟩ := hp rfl
    have v2 := e7700 ht (gn := gn) (ge := ge) (vs := vs) (by have := hf.1; omega) (by have := hf.2.1; omega) sn se
    have hx : ∀ y : Int, eqI y y = true := fun y => by rw [eqI_iff]
    by_cases h0 : validErr ns es sn se gn ge vs = 0
    · have s1 := e400 ht hf h0
      obtain ⟨_, _, V⟩ := validErr_ok h0
      have q2 := V.l2
      have hL := linkSet_len sn gn ge
      have hL2 : ge.length * ge.length ≤ 80 * 80 := Nat.mul_le_mul q2 q2
      have h69 := e6900 (links_small V) (by omega)
      have h69' : ev 6900 [prsD (linkSet sn gn ge)] = some [prsD (sortP (linkSet sn gn ge))] := h69
      rw [h69', links_eq V] at s1
      have hlen : ∀ s, (partV sn gn s).length ≤ 40 := fun s => Nat.le_trans (idxK_len _ _ _) V.l1
      have hr := e7601 (ge := ge) (by unfold Len; omega) (p1 := partV sn gn 1) (p2 := partV sn gn 2) (p3 := partV sn gn 3) (by have := hlen 1; omega) (by have := hlen 2; omega) (by have := hlen 3; omega) (ndsD ns) (edsD es) (intsD sn) (intsD se) (intsD gn) (valsD vs) (.int 0) (intsD (partE se ge 1)) (intsD (partE se ge 2)) (intsD (partE se ge 3)) 0 (by omega) [] (by
        have : ((partV sn gn 1).length - 0) * (partV sn gn 3).length ≤ 40 * 40 := Nat.mul_le_mul (by have := hlen 1; omega) (hlen 3)
        simp only [List.length_nil]
        omega)
      rw [Nat.sub_zero, List.nil_append] at hr
      have s2 : ev 7600 [ndsD ns, edsD es, intsD sn, intsD se, intsD gn, gesD ge, valsD vs] = some [prsD (allR ge (partV sn gn 1) (partV sn gn 2) (partV sn gn 3) (partV sn gn 1).length 0), .int 0] := by
        rw [h0] at v2
        have h00 : eqI 0 0 = true := by decide
        refine ev_by u7600 ?_
        simp only [t7600, go_sem, v2, h00, e10600 V]
        exact hr
      have hlen2 : (allR ge (partV sn gn 1) (partV sn gn 2) (partV sn gn 3) (partV sn gn 1).length 0).length ≤ 1000000 := by
        rw [← links_eq V, (sortP_perm _).length_eq]
        omega
      have s3 := e7000 _ hlen2
      have s1' : ev 400 [ndsD ns, edsD es, intsD sn, intsD se, intsD gn, gesD ge, valsD vs] = some [prsD (allR ge (partV sn gn 1) (partV sn gn 2) (partV sn gn 3) (partV sn gn 1).length 0), .int 0] := s1
      refine ev_by u0 ?_
      simp only [t0, go_sem, awake_ok, hb, s1', s2, hx, s3]
    · have s1 := e400n ht hf h0
      have s2 : ev 7600 [ndsD ns, edsD es, intsD sn, intsD se, intsD gn, gesD ge, valsD vs] = some [prsD [], .int (validErr ns es sn se gn ge vs)] := by
        refine ev_by u7600 ?_
        simp only [t7600, go_sem, v2]
        rw [cond_ne h0]
        rfl
      have s3 := e7000 [] (by simp)
      refine ev_by u0 ?_
      simp only [t0, go_sem, awake_ok, hb, s1, s2, hx, s3]
theorem kinds30_36 : [30, 36].flatMap (kindsOf env.ti) = [.sl 22, .sl 23, .sl 26, .sl 26, .sl 26, .sl 31, .sl 34] := by kernel_rfl
theorem tripleLinks_pure (ν : List D) (h : All2 (WK env.ti) ([30, 36].flatMap (kindsOf env.ti)) ν) : Ev tree prim (0 * 100) ν [.bool true] := by
  rw [kinds30_36] at h
  obtain ⟨x1, r, rfl, h1, h⟩ := all2_cons h
  obtain ⟨x2, r, rfl, h2, h⟩ := all2_cons h
  obtain ⟨x3, r, rfl, h3, h⟩ := all2_cons h
  obtain ⟨x4, r, rfl, h4, h⟩ := all2_cons h
  obtain ⟨x5, r, rfl, h5, h⟩ := all2_cons h
  obtain ⟨x6, r, rfl, h6, h⟩ := all2_cons h
  obtain ⟨x7, r, rfl, h7, h⟩ := all2_cons h
  obtain rfl := all2_nil h
  obtain ⟨ns, rfl, a1, a2⟩ := dec_nds h1
  obtain ⟨es, rfl, b1, b2⟩ := dec_eds h2
  obtain ⟨sn, rfl, c1, _⟩ := dec_ints h3
  obtain ⟨se, rfl, d1, _⟩ := dec_ints h4
  obtain ⟨gn, rfl, f1, _⟩ := dec_ints h5
  obtain ⟨ge, rfl, g1⟩ := dec_ges h6
  obtain ⟨vs, rfl, i1, i2⟩ := dec_vals h7
  exact (evr_iff primDet).1 (e0 ⟨a1, b1, a2, b2⟩ c1 d1 ⟨f1, g1, i1, i2⟩)
end Go.SX.T52
