/-
Chapter 52, plain: the example, hosts made of descriptions, the insertion sort.
-/
import Derived.Test.YtodlbeaidannaaaGreatSxP52J
set_option linter.unusedVariables false
set_option linter.unusedSimpArgs false
set_option linter.unusedSectionVars false
namespace Go.SX.T52
open Go.SX

/-! ### The insertion sort, up to 12 elements: a permutation -/
theorem u64_small {n : Nat} (h : n ≤ 1000000) : IntKind.u64.wrap (n : Int) = n := by
  simp only [IntKind.wrap, IntKind.signed, IntKind.bits]
  simp
  omega
theorem ev_ex {n l : Nat} {ds r : List D} (h : fnEx tree pe n l ds = some r) : ev l ds = some r := (evr_iff primDet).2 ⟨n, fnEx_ok pe_ok _ _ _ _ h⟩
theorem bitsLen (n : Nat) (h : n ≤ 12) : ∃ x : Int, ev 15900 [.int n] = some [.int x] := by
  have h12 : n = 0 ∨ n = 1 ∨ n = 2 ∨ n = 3 ∨ n = 4 ∨ n = 5 ∨ n = 6 ∨ n = 7 ∨ n = 8 ∨ n = 9 ∨ n = 10 ∨ n = 11 ∨ n = 12 := by omega
  rcases h12 with rfl | rfl | rfl | rfl | rfl | rfl | rfl | rfl | rfl | rfl | rfl | rfl | rfl
  · exact ⟨0, ev_ex (n := 10) (by kernel_rfl)⟩
  · exact ⟨1, ev_ex (n := 10) (by kernel_rfl)⟩
  · exact ⟨2, ev_ex (n := 10) (by kernel_rfl)⟩
  · exact ⟨2, ev_ex (n := 10) (by kernel_rfl)⟩
  · exact ⟨3, ev_ex (n := 10) (by kernel_rfl)⟩
  · exact ⟨3, ev_ex (n := 10) (by kernel_rfl)⟩
  · exact ⟨3, ev_ex (n := 10) (by kernel_rfl)⟩
  · exact ⟨3, ev_ex (n := 10) (by kernel_rfl)⟩
  · exact ⟨4, ev_ex (n := 10) (by kernel_rfl)⟩
  · exact ⟨4, ev_ex (n := 10) (by kernel_rfl)⟩
  · exact ⟨4, ev_ex (n := 10) (by kernel_rfl)⟩
  · exact ⟨4, ev_ex (n := 10) (by kernel_rfl)⟩
  · exact ⟨4, ev_ex (n := 10) (by kernel_rfl)⟩
theorem e16300 (a b c d : Int) : ∃ x : Int, ev 16300 [.int a, .int b, .int c, .int d] = some [.int x] := by
  cases h : eqI a c
  · exact ⟨IntKind.i64.wrap (a - c), by
      refine ev_by u16300 ?_
      simp only [t16300, go_sem, h]
      ⟩
  · exact ⟨IntKind.i64.wrap (b - d), by
      refine ev_by u16300 ?_
      simp only [t16300, go_sem, h]
      ⟩
theorem swap_perm {l : List (Int × Int)} {i j : Nat} (hi : i < l.length) (hj : j < l.length) : List.Perm ((l.set i (l.getD j default)).set j (l.getD i default)) l := by
  have ei : l.getD i default = l[i] := by simp [List.getD_eq_getElem?_getD, hi]
  have ej : l.getD j default = l[j] := by simp [List.getD_eq_getElem?_getD, hj]
  rw [ei, ej]
  exact List.set_set_perm hi hj
theorem e16203 (n i : Nat) (hi : i < n) (hn : n ≤ 100) : ∀ j, j ≤ i → ∀ l : List (Int × Int), l.length = n → ∃ l', List.Perm l' l ∧ ev 16203 [.int 0, .int n, .int i, .int j, prsD l] = ev 16201 [.int 0, .int n, .int (i + 1 : Nat), prsD l'] := by
  intro j
  induction j with
  | zero =>
    intro _ l hl
    refine ⟨l, .refl l, ?_⟩
    have hf : ltI 0 ((0 : Nat) : Int) = false := by decide
    rw [ev_eq u16203 rfl]
    simp only [t16203, go_sem, hf, wrapS i (by omega)]
  | succ j ih =>
    intro hj l hl
    have h1 : j + 1 < l.length := by omega
    have h0 : j < l.length := by omega
    have hd : IntKind.i64.wrap (((j + 1 : Nat) : Int) - 1) = ((j : Nat) : Int) := by rw [nowrap (by omega) (by omega)]; omega
    have hin1 : (leI 0 ((j + 1 : Nat) : Int) && ltI ((j + 1 : Nat) : Int) l.length) = true := by rw [and_iff, leI_iff, ltI_iff]; omega
    have hin0 : (leI 0 ((j : Nat) : Int) && ltI ((j : Nat) : Int) l.length) = true := by rw [and_iff, leI_iff, ltI_iff]; omega
    have hlt : ltI 0 ((j + 1 : Nat) : Int) = true := by rw [ltI_iff]; omega
    obtain ⟨x, hx⟩ := e16300 (l.getD (j + 1) default).1 (l.getD (j + 1) default).2 (l.getD j default).1 (l.getD j default).2
    have e1 : ((l.map Pr.d).set (j + 1) (.agg [.int (l.getD j default).1, .int (l.getD j default).2])).set j (.agg [.int (l.getD (j + 1) default).1, .int (l.getD (j + 1) default).2]) = ((l.set (j + 1) (l.getD j default)).set j (l.getD (j + 1) default)).map Pr.d := by rw [List.map_set, List.map_set]
    cases hc : ltI x 0
    · refine ⟨l, .refl l, ?_⟩
      rw [ev_eq u16203 rfl]
      simp only [t16203, go_sem, hlt, List.length_map, hin1, hd, hin0, idx_map _ _ _ h1, idx_map _ _ _ h0, hx, hc, wrapS i (by omega)]
    · obtain ⟨l', p1, p2⟩ := ih (by omega) ((l.set (j + 1) (l.getD j default)).set j (l.getD (j + 1) default)) (by simp [hl])
      refine ⟨l', p1.trans (swap_perm h1 h0), ?_⟩
      rw [← p2]
      rw [ev_eq u16203 rfl]
      simp only [t16203, go_sem, hlt, List.length_map, List.length_set, hin1, hd, hin0, idx_map _ _ _ h1, idx_map _ _ _ h0, hx, hc, e1]
theorem e16201 (n : Nat) (hn : n ≤ 100) : ∀ i, i ≤ n → ∀ l : List (Int × Int), l.length = n → ∃ l', List.Perm l' l ∧ ev 16201 [.int 0, .int n, .int i, prsD l] = some [prsD l'] := by
  refine down ?_ fun i hi ih => ?_
  · intro l hl
    refine ⟨l, .refl l, ?_⟩
    refine ev_by u16201 ?_
    simp only [t16201, go_sem, ltI_irr]
  · intro l hl
    obtain ⟨l1, p1, q1⟩ := e16203 n i hi hn i (Nat.le_refl _) l hl
    obtain ⟨l2, p2, q2⟩ := ih l1 (by rw [p1.length_eq, hl])
    refine ⟨l2, p2.trans p1, ?_⟩
    refine ev_by u16201 ?_
    simp only [t16201, go_sem]
    rw [cond_lt (by omega), q1, q2]
theorem e16201e : ev 16201 [.int 0, .int 0, .int 1, prsD []] = some [prsD []] := by
  have h : ltI 1 0 = false := by decide
  refine ev_by u16201 ?_
  simp only [t16201, go_sem, h]
theorem e6900s {l : List (Int × Int)} (hl : l.length ≤ 12) : ∃ l', List.Perm l' l ∧ ev 6900 [prsD l] = some [prsD l'] := by
  obtain ⟨x, hx⟩ := bitsLen l.length hl
  have w1 : IntKind.i64.wrap (0 + 1) = 1 := by decide
  have hs : ∃ l', List.Perm l' l ∧ ev 16201 [.int 0, .int l.length, .int 1, prsD l] = some [prsD l'] := by
    by_cases h0 : l.length = 0
    · obtain rfl := List.eq_nil_of_length_eq_zero h0
      exact ⟨[], .refl _, e16201e⟩
    · exact e16201 l.length (by omega) 1 (by omega) l rfl
  obtain ⟨l', p, q⟩ := hs
  refine ⟨l', p, ?_⟩
  have h2 : ev 16200 [prsD l, .int 0, .int l.length] = some [prsD l'] := by
    refine ev_by u16200 ?_
    simp only [t16200, go_sem, w1]
    exact q
  have h3 : ev 16101 [.int 0, .int l.length, .int x, .bool true, .bool true, prsD l] = some [prsD l'] := by
    refine ev_by u16101 ?_
    simp only [t16101, go_sem, h2, nowrap (n := (l.length : Int) - 0) (by omega) (by omega)]
    rw [cond_le (by omega)]
  have h4 : ev 16100 [prsD l, .int 0, .int l.length, .int x] = some [prsD l'] := by
    refine ev_by u16100 ?_
    simp only [t16100, go_sem]
    exact h3
  refine ev_by u6900 ?_
  simp only [t6900, go_sem, List.length_map, u64_small (n := l.length) (by omega), hx, h4]

/-! ### The example -/
def exNs : List Nd := [⟨⟨#[67, 108, 97, 115, 115]⟩, -1, false, []⟩, ⟨⟨#[65, 116, 116, 114, 105, 98, 117, 116, 101]⟩, -1, false, []⟩, ⟨⟨#[84, 97, 98, 108, 101]⟩, -1, false, []⟩, ⟨⟨#[67, 111, 108, 117, 109, 110]⟩, -1, false, []⟩, ⟨⟨#[77, 97, 112]⟩, -1, false, []⟩]
def exEs : List Ed := [⟨⟨#[104, 97, 115]⟩, 0, 1, 0, -1, 0, -1⟩, ⟨⟨#[119, 105, 116, 104]⟩, 2, 3, 0, -1, 0, -1⟩, ⟨⟨#[111, 102, 67, 108, 97, 115, 115]⟩, 4, 0, 0, -1, 0, -1⟩, ⟨⟨#[111, 102, 65, 116, 116, 114, 105, 98, 117, 116, 101]⟩, 4, 1, 0, -1, 0, -1⟩, ⟨⟨#[116, 111, 84, 97, 98, 108, 101]⟩, 4, 2, 0, -1, 0, -1⟩, ⟨⟨#[116, 111, 67, 111, 108, 117, 109, 110]⟩, 4, 3, 0, -1, 0, -1⟩]
def exSn : List Int := [1, 1, 3, 3, 2]
def exSe : List Int := [1, 3, 2, 2, 2, 2]
theorem e200 : ev 200 [] = some [ndsD exNs, edsD exEs, intsD exSn, intsD exSe] := ev_ex (n := 10) (by kernel_rfl)
theorem exTypes : typesErr exNs exEs = 0 := by kernel_rfl
theorem exSorts : sortsErr exNs exEs exSn exSe = 0 := by kernel_rfl
theorem exOk : OkT exNs exEs := by
  refine ⟨by decide, by decide, fun n hn => ?_, fun e he => ?_⟩
  · obtain ⟨k, hk, rfl⟩ := mem_getD hn
    have hk' : k = 0 ∨ k = 1 ∨ k = 2 ∨ k = 3 ∨ k = 4 := by have : exNs.length = 5 := rfl; omega
    rcases hk' with rfl | rfl | rfl | rfl | rfl <;> exact ⟨by decide, by decide, fun a ha => by cases ha⟩
  · obtain ⟨k, hk, rfl⟩ := mem_getD he
    have hk' : k = 0 ∨ k = 1 ∨ k = 2 ∨ k = 3 ∨ k = 4 ∨ k = 5 := by have : exEs.length = 6 := rfl; omega
    rcases hk' with rfl | rfl | rfl | rfl | rfl | rfl <;> decide
theorem exAttrs {t : Nat} (h : t < 5) : attrsN exNs (t + 1) t = [] := by
  have hk' : t = 0 ∨ t = 1 ∨ t = 2 ∨ t = 3 ∨ t = 4 := by omega
  rcases hk' with rfl | rfl | rfl | rfl | rfl <;> rfl
theorem exAbs {t : Nat} (h : t < 5) : (exNs.getD t default).abs = false := by
  have hk' : t = 0 ∨ t = 1 ∨ t = 2 ∨ t = 3 ∨ t = 4 := by omega
  rcases hk' with rfl | rfl | rfl | rfl | rfl <;> rfl
/-- Hosts over the example's types that are valid. -/
structure ExH (gn : List Int) (ge : List Ge) (vs : List (List Int)) : Prop where
  nk : ∀ j, j < gn.length → 0 ≤ gn.getD j default ∧ gn.getD j default ≤ 4
  lv : vs.length = gn.length
  ev : ∀ j, j < vs.length → vs.getD j default = []
  ek : ∀ j, j < ge.length → 0 ≤ (ge.getD j default).ty ∧ (ge.getD j default).ty ≤ 5 ∧ 0 ≤ (ge.getD j default).src ∧ (ge.getD j default).src < gn.length ∧ 0 ≤ (ge.getD j default).dst ∧ (ge.getD j default).dst < gn.length ∧
    fitsB exNs exEs (ge.getD j default).ty (gn.getD (ge.getD j default).src.toNat default) (gn.getD (ge.getD j default).dst.toNat default) = true
  l1 : gn.length ≤ 40
  l2 : ge.length ≤ 80
theorem anyK_none {p : Nat → Bool} : ∀ (k i : Nat), (∀ j, i ≤ j → j < i + k → p j = false) → anyK p k i = false
  | 0, i, _ => rfl
  | k + 1, i, h => by
    rw [anyK, h i (Nat.le_refl _) (by omega), anyK_none k (i + 1) fun j h1 h2 => h j (by omega) (by omega)]
    rfl
theorem scan_none {f : Nat → Int} : ∀ (k i : Nat), (∀ j, i ≤ j → j < i + k → f j = 0) → scan f k i = 0
  | 0, i, _ => rfl
  | k + 1, i, h => by
    rw [scan, if_pos (h i (Nat.le_refl _) (by omega))]
    exact scan_none k (i + 1) fun j h1 h2 => h j (by omega) (by omega)
theorem ExH.host {gn : List Int} {ge : List Ge} {vs : List (List Int)} (h : ExH gn ge vs) : hostErr exNs exEs gn ge vs = 0 := by
  have l1 := h.l1
  have l2 := h.l2
  have g0 : graphErr gn ge = 0 := by
    unfold graphErr
    rw [if_neg (by omega), if_neg (by omega), anyK_none gn.length 0 (fun j _ hj => by
      have := h.nk j (by omega)
      simp only [Bool.not_eq_false', kindB, and_iff, leI_iff]
      omega), anyK_none ge.length 0 (fun j _ hj => by
      have := h.ek j (by omega)
      simp only [Bool.not_eq_false', rightB, kindB, inB, and_iff, leI_iff, ltI_iff]
      omega)]
    rfl
  unfold hostErr thenE
  rw [if_pos exTypes, if_pos g0, if_pos h.lv, scan_none gn.length 0 (fun j _ hj => by
    obtain ⟨n1, n2⟩ := h.nk j (by omega)
    unfold nodeVErr
    have hle : leI exNs.length (gn.getD j default) = false := by rw [leI_false]; have : exNs.length = 5 := rfl; omega
    rw [hle, exAbs (by omega), exAttrs (by omega), h.ev j (by have := h.lv; omega)]
    rfl), if_pos rfl, scan_none ge.length 0 (fun j _ hj => by
    obtain ⟨k1, k2, k3, k4, k5, k6, k7⟩ := h.ek j (by omega)
    unfold edgeV
    have hle : leI exEs.length (ge.getD j default).ty = false := by rw [leI_false]; have : exEs.length = 6 := rfl; omega
    rw [hle, k7]
    rfl)]
theorem ExH.valid {gn : List Int} {ge : List Ge} {vs : List (List Int)} (h : ExH gn ge vs) : validErr exNs exEs exSn exSe gn ge vs = 0 := by
  unfold validErr thenE
  rw [if_pos exSorts]
  exact h.host
theorem ExH.valid' {gn : List Int} {ge : List Ge} {vs : List (List Int)} (h : ExH gn ge vs) : validErr exNs exEs (turn exSn) (turn exSe) gn ge vs = 0 := by
  unfold validErr thenE
  rw [if_pos (sortsErr_turn exSorts)]
  exact h.host
theorem ExH.few {gn : List Int} {ge : List Ge} {vs : List (List Int)} (h : ExH gn ge vs) : FewH gn ge vs := by
  have := h.l1
  have := h.l2
  have := h.lv
  exact ⟨by omega, by omega, by omega, fun j hj => by rw [h.ev j hj]; simp⟩

/-! ### Hosts made of descriptions -/
abbrev u8D (l : List (Int × Int)) : D := .list (l.map Pr.d)
abbrev Tr.d (p : Int × Int × Int) : D := .agg [.int p.1, .int p.2.1, .int p.2.2]
abbrev trsD (l : List (Int × Int × Int)) : D := .list (l.map Tr.d)
theorem o_rem (k : IntKind) (a b : D) : (O2.rem k).den a b = .int (a.toInt.tmod b.toInt) := rfl
theorem e15600 : ev 15600 [ndsD exNs, edsD exEs] = some [intsD [0, 1, 2, 3, 4]] := ev_ex (n := 20) (by kernel_rfl)
abbrev B8 (n : Int) : Prop := 0 ≤ n ∧ n ≤ 255
theorem tmod_in {x : Int} {n : Nat} (hx : 0 ≤ x) (hn : 0 < n) : 0 ≤ x.tmod n ∧ x.tmod n < n := by
  rw [Int.tmod_eq_emod_of_nonneg hx]
  exact ⟨Int.emod_nonneg _ (by omega), Int.emod_lt_of_pos _ (by omega)⟩
def newE (x : Int × Int × Int) (n : Nat) : Ge := ⟨x.1.tmod ((6 : Nat) : Int), x.2.1.tmod n, x.2.2.tmod n⟩
theorem e15505 {gn : List Int} {vs : List (List Int)} (hl : gn.length ≤ 8) (hn : ∀ j, j < gn.length → 0 ≤ gn.getD j default ∧ gn.getD j default ≤ 4) (de : List (Int × Int × Int)) (hd : Len de.length) (hb : ∀ x, x ∈ de → B8 x.1 ∧ B8 x.2.1 ∧ B8 x.2.2) (a b c i cv : D) :
    ∀ k j : Nat, k + j = 11 → j ≤ 10 → j ≤ de.length → ∀ ge : List Ge, ge.length ≤ j → (∀ j, j < ge.length → 0 ≤ (ge.getD j default).ty ∧ (ge.getD j default).ty ≤ 5 ∧ 0 ≤ (ge.getD j default).src ∧ (ge.getD j default).src < gn.length ∧ 0 ≤ (ge.getD j default).dst ∧ (ge.getD j default).dst < gn.length ∧
      fitsB exNs exEs (ge.getD j default).ty (gn.getD (ge.getD j default).src.toNat default) (gn.getD (ge.getD j default).dst.toNat default) = true) →
    ∃ ge' : List Ge, ge'.length ≤ 10 ∧ (∀ j, j < ge'.length → 0 ≤ (ge'.getD j default).ty ∧ (ge'.getD j default).ty ≤ 5 ∧ 0 ≤ (ge'.getD j default).src ∧ (ge'.getD j default).src < gn.length ∧ 0 ≤ (ge'.getD j default).dst ∧ (ge'.getD j default).dst < gn.length ∧
      fitsB exNs exEs (ge'.getD j default).ty (gn.getD (ge'.getD j default).src.toNat default) (gn.getD (ge'.getD j default).dst.toNat default) = true) ∧
      ev 15505 [a, b, c, trsD de, i, .int gn.length, .int j, ndsD exNs, edsD exEs, cv, intsD gn, gesD ge, valsD vs] = some [intsD gn, gesD ge', valsD vs] := by
  intro k
  induction k with
  | zero =>
    intro j hj hj10 hjd ge hge hok
    omega
  | succ k ih =>
    intro j hj hj10 hjd ge hge hok
    by_cases h1 : j < de.length
    · by_cases h2 : j < 10
      · by_cases h3 : 0 < gn.length
        · obtain ⟨⟨x1, x2⟩, ⟨y1, y2⟩, ⟨z1, z2⟩⟩ := hb _ (getD_mem h1)
          have hin : (leI 0 j && ltI j de.length) = true := by rw [and_iff, leI_iff, ltI_iff]; omega
          have he6 : exEs.length = 6 := rfl
          obtain ⟨t1, t2⟩ := tmod_in (n := 6) x1 (by omega)
          obtain ⟨s1, s2⟩ := tmod_in (n := gn.length) y1 h3
          obtain ⟨d1, d2⟩ := tmod_in (n := gn.length) z1 h3
          have hz6 : (!eqI ((6 : Nat) : Int) 0) = true := by decide
          have hzn : (!eqI (gn.length : Int) 0) = true := by rw [Bool.not_eq_true', eqI_false]; omega
          have hs : (leI 0 ((de.getD j default).2.1.tmod gn.length) && ltI ((de.getD j default).2.1.tmod gn.length) gn.length) = true := by rw [and_iff, leI_iff, ltI_iff]; omega
          have hd' : (leI 0 ((de.getD j default).2.2.tmod gn.length) && ltI ((de.getD j default).2.2.tmod gn.length) gn.length) = true := by rw [and_iff, leI_iff, ltI_iff]; omega
          have n1 := hn ((de.getD j default).2.1.tmod gn.length).toNat (by omega)
          have n2 := hn ((de.getD j default).2.2.tmod gn.length).toNat (by omega)
          have hf := e10400 exOk exTypes (ty := (de.getD j default).1.tmod ((6 : Nat) : Int)) n1.1 (by have : exNs.length = 5 := rfl; omega) n2.1 (by have : exNs.length = 5 := rfl; omega)
          cases hc : fitsB exNs exEs ((de.getD j default).1.tmod ((6 : Nat) : Int)) (gn.getD ((de.getD j default).2.1.tmod gn.length).toNat default) (gn.getD ((de.getD j default).2.2.tmod gn.length).toNat default)
          · rw [hc] at hf
            obtain ⟨ge', g1, g2, g3⟩ := ih (j + 1) (by omega) (by omega) (by omega) ge (by omega) hok
            refine ⟨ge', g1, g2, ?_⟩
            refine ev_by u15505 ?_
            simp only [t15505, go_sem, List.length_map, idx_map _ _ _ h1, hin, o_rem, he6, hz6, hzn, nowrap (n := (de.getD j default).1) (by omega) (by omega), nowrap (n := (de.getD j default).2.1) (by omega) (by omega), nowrap (n := (de.getD j default).2.2) (by omega) (by omega), hs, hd', idx_map _ gn ((de.getD j default).2.1.tmod gn.length).toNat (by omega), idx_map _ gn ((de.getD j default).2.2.tmod gn.length).toNat (by omega), hf, wrapS j (by omega), g3]
            rw [cond_lt (by omega), cond_lt (by omega), cond_lt (by omega), cond_lt (by decide)]
          · rw [hc] at hf
            have e1 : ge.map Ge.d ++ [.agg [.int ((de.getD j default).1.tmod ((6 : Nat) : Int)), .int ((de.getD j default).2.1.tmod gn.length), .int ((de.getD j default).2.2.tmod gn.length)]] = (ge ++ [newE (de.getD j default) gn.length]).map Ge.d := by simp [newE]
            obtain ⟨ge', g1, g2, g3⟩ := ih (j + 1) (by omega) (by omega) (by omega) (ge ++ [newE (de.getD j default) gn.length]) (by simp; omega) (fun q hq => by
              by_cases hqg : q < ge.length
              · have : (ge ++ [newE (de.getD j default) gn.length]).getD q default = ge.getD q default := by
                  simp only [List.getD_eq_getElem?_getD, List.getElem?_append_left hqg]
                rw [this]
                exact hok q hqg
              · have hqe : q = ge.length := by simp at hq; omega
                have : (ge ++ [newE (de.getD j default) gn.length]).getD q default = newE (de.getD j default) gn.length := by
                  rw [hqe]
                  simp [List.getD_eq_getElem?_getD]
                rw [this]
                exact ⟨t1, by unfold newE; simp only; omega, s1, s2, d1, d2, hc⟩)
            refine ⟨ge', g1, g2, ?_⟩
            refine ev_by u15505 ?_
            simp only [t15505, go_sem, List.length_map, idx_map _ _ _ h1, hin, o_rem, he6, hz6, hzn, nowrap (n := (de.getD j default).1) (by omega) (by omega), nowrap (n := (de.getD j default).2.1) (by omega) (by omega), nowrap (n := (de.getD j default).2.2) (by omega) (by omega), hs, hd', idx_map _ gn ((de.getD j default).2.1.tmod gn.length).toNat (by omega), idx_map _ gn ((de.getD j default).2.2.tmod gn.length).toNat (by omega), hf, wrapS j (by omega), e1, g3]
            rw [cond_lt (by omega), cond_lt (by omega), cond_lt (by omega), cond_lt (by decide), cond_le (by omega)]
        · refine ⟨ge, by omega, hok, ?_⟩
          refine ev_by u15505 ?_
          simp only [t15505, go_sem, List.length_map]
          rw [cond_lt (by omega), cond_lt (by omega), cond_nlt (by omega)]
      · refine ⟨ge, by omega, hok, ?_⟩
        refine ev_by u15505 ?_
        simp only [t15505, go_sem, List.length_map]
        rw [cond_lt (by omega), cond_nlt (by omega)]
    · refine ⟨ge, by omega, hok, ?_⟩
      refine ev_by u15505 ?_
      simp only [t15505, go_sem, List.length_map]
      rw [cond_nlt (by omega)]
end Go.SX.T52
