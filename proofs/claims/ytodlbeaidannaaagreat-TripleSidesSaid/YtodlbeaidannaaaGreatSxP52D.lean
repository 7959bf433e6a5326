/-
Chapter 52, plain: type graphs: node types, edge types, the whole, by the program and by the specification.
-/
import Derived.Test.YtodlbeaidannaaaGreatSxP52C
set_option linter.unusedVariables false
set_option linter.unusedSimpArgs false
set_option linter.unusedSectionVars false
namespace Go.SX.T52
open Go.SX

/-! ### Inherited attributes -/
def OkN (n : Nd) : Prop := Short n.name ∧ n.attrs.length ≤ 1000 ∧ ∀ a, a ∈ n.attrs → OkA a
def OkT (ns : List Nd) (es : List Ed) : Prop := ns.length ≤ 1000 ∧ es.length ≤ 1000 ∧ (∀ n, n ∈ ns → OkN n) ∧ ∀ e, e ∈ es → Short e.name
def Par (ns : List Nd) (m : Nat) : Prop := ∀ j, j < m → (ns.getD j default).parent < j
def attrsN (ns : List Nd) : Nat → Nat → List At
  | 0, _ => []
  | k + 1, a => (bif leI 0 (ns.getD a default).parent then attrsN ns k (ns.getD a default).parent.toNat else []) ++ (ns.getD a default).attrs
theorem Par.lt {ns : List Nd} {m a : Nat} (h : Par ns m) (ha : a < m) (hp : leI 0 (ns.getD a default).parent = true) : (ns.getD a default).parent.toNat < a ∧ (((ns.getD a default).parent.toNat : Nat) : Int) = (ns.getD a default).parent := by
  rw [leI_iff] at hp
  have := h a ha
  omega
theorem attrsN_ok {ns : List Nd} (hn : ∀ n, n ∈ ns → OkN n) {m : Nat} (hm : m ≤ ns.length) (hp : Par ns m) : ∀ (k a : Nat), a < k → a < m → (attrsN ns k a).length ≤ 1000 * k ∧ ∀ x, x ∈ attrsN ns k a → OkA x
  | 0, a, h, _ => by omega
  | k + 1, a, h, ha => by
    have ho := hn _ (getD_mem (show a < ns.length by omega))
    unfold attrsN
    cases hq : leI 0 (ns.getD a default).parent
    · simp only [go_sem, List.nil_append]
      exact ⟨by have := ho.2.1; omega, ho.2.2⟩
    · obtain ⟨h1, h2⟩ := hp.lt ha hq
      obtain ⟨i1, i2⟩ := attrsN_ok hn hm hp k (ns.getD a default).parent.toNat (by omega) (by omega)
      simp only [go_sem, List.length_append, List.mem_append]
      exact ⟨by have := ho.2.1; omega, fun x hx => hx.elim (i2 x) (ho.2.2 x)⟩
theorem attrsN_own {ns : List Nd} {k a : Nat} (h : 0 < k) : (ns.getD a default).attrs.length ≤ (attrsN ns k a).length := by
  cases k with
  | zero => omega
  | succ k => unfold attrsN; simp only [List.length_append]; omega
theorem e2900 {ns : List Nd} (hl : ns.length ≤ 1000) (hn : ∀ n, n ∈ ns → OkN n) {m : Nat} (hm : m ≤ ns.length) (hp : Par ns m) (x : D) : ∀ (k a : Nat), a < k → k ≤ 1001 → a < m → ev 2900 [ndsD ns, x, .int a] = some [atsD (attrsN ns k a)]
  | 0, a, h, _, _ => by omega
  | k + 1, a, h, hk, ha => by
    have ho := hn _ (getD_mem (show a < ns.length by omega))
    have h3 := ho.2.1
    have hin : (leI 0 a && ltI a ns.length) = true := by rw [and_iff, leI_iff, ltI_iff]; omega
    have hin' : leI ((ns.getD a default).attrs.length) 1073741824 = true := by rw [leI_iff]; omega
    unfold attrsN
    refine ev_by u2900 ?_
    simp only [t2900, go_sem, List.length_map, idx_map _ _ a (show a < ns.length by omega), hin, hin']
    cases hq : leI 0 (ns.getD a default).parent
    · simp only [go_sem, List.nil_append]
    · obtain ⟨h1, h2⟩ := hp.lt ha hq
      have ih := e2900 hl hn hm hp x k _ (show (ns.getD a default).parent.toNat < k by omega) (by omega) (by omega)
      have hb := (attrsN_ok hn hm hp k _ (show (ns.getD a default).parent.toNat < k by omega) (by omega)).1
      rw [h2] at ih
      simp only [go_sem, ih, List.length_map, ← List.map_append]
      rw [cond_le (by omega)]
theorem e9100n (ns x : D) (p : Int) (h : p < 0) : ev 9100 [ns, x, .int p] = some [.list []] := by
  refine ev_by u9100 ?_
  simp only [t9100, go_sem]
  rw [cond_lt h]
theorem e9100 {ns : List Nd} (hl : ns.length ≤ 1000) (hn : ∀ n, n ∈ ns → OkN n) {m : Nat} (hm : m ≤ ns.length) (hp : Par ns m) (x : D) : ∀ (k a : Nat), a < k → k ≤ 1001 → a < m → ev 9100 [ndsD ns, x, .int a] = some [atsD (attrsN ns k a)]
  | 0, a, h, _, _ => by omega
  | k + 1, a, h, hk, ha => by
    have ho := hn _ (getD_mem (show a < ns.length by omega))
    have h3 := ho.2.1
    have hin : (leI 0 a && ltI a ns.length) = true := by rw [and_iff, leI_iff, ltI_iff]; omega
    have hin' : leI ((ns.getD a default).attrs.length) 1073741824 = true := by rw [leI_iff]; omega
    have hneg : ltI (a : Int) 0 = false := by rw [ltI_false]; omega
    unfold attrsN
    cases hq : leI 0 (ns.getD a default).parent
    · have hc := e9100n (ndsD ns) x (ns.getD a default).parent (by rw [leI_false] at hq; exact hq)
      refine ev_by u9100 ?_
      simp only [t9100, go_sem, List.length_map, idx_map _ _ a (show a < ns.length by omega), hin, hin', hneg, hc, List.length_nil]
      rw [cond_le (by omega), cond_le (by omega)]
    · obtain ⟨h1, h2⟩ := hp.lt ha hq
      have ih := e9100 hl hn hm hp x k _ (show (ns.getD a default).parent.toNat < k by omega) (by omega) (by omega)
      have hb := (attrsN_ok hn hm hp k _ (show (ns.getD a default).parent.toNat < k by omega) (by omega)).1
      rw [h2] at ih
      refine ev_by u9100 ?_
      simp only [t9100, go_sem, List.length_map, idx_map _ _ a (show a < ns.length by omega), hin, hin', hneg, ih, ← List.map_append]
      rw [cond_le (by omega), cond_le (by omega)]

/-! ### Node types -/
def nodeDup (ns : List Nd) (i : Nat) : Bool := anyK (fun j => eqS (ns.getD j default).name (ns.getD i default).name) i 0
def nodeErr (ns : List Nd) (i : Nat) : Int := bif isName (ns.getD i default).name then (bif nodeDup ns i then 5 else
    (if (ns.getD i default).parent < -1 ∨ (i : Int) ≤ (ns.getD i default).parent then 6 else
      (if 4 < (ns.getD i default).attrs.length then 3 else (if 8 < (attrsN ns (i + 1) i).length then 3 else
        scan (attrErr (attrsN ns (i + 1) i)) ((attrsN ns (i + 1) i).length - ((attrsN ns (i + 1) i).length - (ns.getD i default).attrs.length)) ((attrsN ns (i + 1) i).length - (ns.getD i default).attrs.length))))) else 2
theorem e2800 (s : ByteArray) (a b c : D) (t : ByteArray) (e f g : D) : ev 2800 [.str s, a, b, c, .str t, e, f, g] = some [.bool (eqS s t)] := by
  refine ev_by u2800 ?_
  simp only [t2800, go_sem]
theorem e2701 (l : List Nd) (hl : l.length ≤ 1000) (s : ByteArray) (a b c x : D) : ∀ i, i ≤ l.length → ev 2701 [ndsD l, .str s, a, b, c, x, .int l.length, .int i] = some [.int (findK (fun j => eqS (l.getD j default).name s) (l.length - i) i)] := by
  refine down ?_ fun i hi ih => ?_
  · refine ev_by u2701 ?_
    simp only [t2701, go_sem, findK_end, ltI_irr]
  · have hin : (leI 0 i && ltI i l.length) = true := by rw [and_iff, leI_iff, ltI_iff]; omega
    refine ev_by u2701 ?_
    simp only [t2701, go_sem, List.length_map, idx_map _ _ _ hi, hin, e2800, wrapS i (by omega), ih]
    rw [findK_step _ hi, cond_lt (by omega)]
    cases eqS (l.getD i default).name s <;> rfl
theorem e2600 (l : List Nd) (hl : l.length ≤ 1000) (s : ByteArray) (a b c : D) : ev 2600 [ndsD l, .str s, a, b, c] = some [.bool (anyK (fun j => eqS (l.getD j default).name s) l.length 0)] := by
  have h : ev 2700 [ndsD l, .str s, a, b, c] = some [.int (findK (fun j => eqS (l.getD j default).name s) l.length 0)] := by
    refine ev_by u2700 ?_
    simp only [t2700, go_sem, List.length_map]
    exact e2701 l hl s a b c _ 0 (by omega)
  refine ev_by u2600 ?_
  simp only [t2600, go_sem, h, leI_find]
theorem e802 (all : List At) (h : ∀ a, a ∈ all → OkA a) (hl : all.length ≤ 1000) (a b c d x y z w : D) : ∀ k, k ≤ all.length → ev 802 [a, b, c, d, atsD all, .int k, x, y, z, w] = some [.int (scan (attrErr all) (all.length - k) k)] := by
  refine down ?_ fun k hk ih => ?_
  · refine ev_by u802 ?_
    simp only [t802, go_sem, List.length_map, scan_end, ltI_irr]
  · have hin : (leI 0 k && ltI k all.length) = true := by rw [and_iff, leI_iff, ltI_iff]; omega
    refine ev_by u802 ?_
    simp only [t802, go_sem, List.length_map, idx_map _ _ _ hk, take_map', hin, e3000 all h hl k hk, wrapS k (by omega), ih]
    rw [scan_step _ hk, cond_lt (by omega), cond_le (by omega), cond_le (by omega)]
    refine cond_split (fun h0 => ?_) (fun h0 => ?_)
    · rw [eqI_iff] at h0; rw [if_pos h0]
    · rw [eqI_false] at h0; rw [if_neg h0]
theorem e800 {ns : List Nd} {es : List Ed} (ht : OkT ns es) {i : Nat} (hi : i < ns.length) (hp : Par ns i) (x : D) : ev 800 [ndsD ns, x, .int i] = some [.int (nodeErr ns i)] := by
  obtain ⟨hl, _, hn, _⟩ := ht
  have ho := hn _ (getD_mem hi)
  have hin : (leI 0 i && ltI i ns.length) = true := by rw [and_iff, leI_iff, ltI_iff]; omega
  have h26 := e2600 (ns.take i) (by rw [List.length_take]; omega) (ns.getD i default).name (.int (ns.getD i default).parent) (.bool (ns.getD i default).abs) (atsD (ns.getD i default).attrs)
  rw [length_take' (Nat.le_of_lt hi), anyK_congr (q := fun j => eqS (ns.getD j default).name (ns.getD i default).name) i 0 (fun j _ hj => by rw [getD_take (by omega)])] at h26
  refine ev_by u800 ?_
  simp only [t800, go_sem, List.length_map, idx_map _ _ _ hi, take_map', hin, e900 _ ho.1, h26]
  unfold nodeErr nodeDup
  cases isName (ns.getD i default).name
  · rfl
  · simp only [go_sem]
    rw [cond_le (by omega), cond_le (by omega)]
    generalize hq : anyK _ i 0 = q
    cases q
    · simp only [go_sem]
      by_cases h1 : (ns.getD i default).parent < -1
      · rw [cond_lt h1, if_pos (.inl h1)]
      · rw [cond_nlt (by omega)]
        by_cases h2 : (i : Int) ≤ (ns.getD i default).parent
        · rw [cond_le h2, if_pos (.inr h2)]
        · rw [cond_nle (by omega), if_neg (by omega)]
          by_cases h3 : 4 < (ns.getD i default).attrs.length
          · rw [cond_lt (by omega), if_pos h3]
          · rw [cond_nlt (by omega), if_neg h3]
            have hp' : Par ns (i + 1) := fun j hj => by
              by_cases hji : j = i
              · rw [hji]; omega
              · exact hp j (by omega)
            have h29 := e2900 hl hn (m := i + 1) (by omega) hp' x (i + 1) i (by omega) (by omega) (by omega)
            obtain ⟨hb, hok⟩ := attrsN_ok hn (m := i + 1) (by omega) hp' (i + 1) i (by omega) (by omega)
            have hown := attrsN_own (ns := ns) (k := i + 1) (a := i) (by omega)
            generalize attrsN ns (i + 1) i = all at *
            simp only [h29, go_sem, List.length_map]
            by_cases h4 : 8 < all.length
            · rw [cond_lt (by omega), if_pos h4]
            · rw [cond_nlt (by omega), if_neg h4, nowrap (by omega) (by omega), show ((all.length : Int) - ((ns.getD i default).attrs.length : Int)) = ((all.length - (ns.getD i default).attrs.length : Nat) : Int) by omega]
              exact e802 all hok (by omega) _ _ _ _ _ _ _ _ _ (by omega)
    · rfl

/-! ### The same by the specification -/
theorem e8005 (all : List At) (h : ∀ a, a ∈ all → OkA a) (hl : all.length ≤ 1000) (a b c d e x y z w : D) (k : Nat) (hk : k < all.length) : ∀ j, j ≤ k → ev 8005 [a, b, c, d, e, .int k, .int j, x, y, z, w, atsD all] =
    bif anyK (fun j => eqS (all.getD j default).name (all.getD k default).name) (k - j) j then some [.int 5] else
      (if attr1 (all.getD k default) = 0 then ev 8003 [a, b, c, d, e, .int (k + 1 : Nat), x, y, z, w, atsD all] else some [.int (attr1 (all.getD k default))]) := by
  have hin : (leI 0 k && ltI k all.length) = true := by rw [and_iff, leI_iff, ltI_iff]; omega
  refine down ?_ fun j hj ih => ?_
  · rw [ev_eq u8005 rfl]
    simp only [t8005, go_sem, List.length_map, idx_map _ _ _ hk, hin, ltI_irr, anyK_end, e9200 _ (h _ (getD_mem hk)), wrapS k (by omega)]
    split
    · rename_i h0; rw [cond_eq h0]
    · rename_i h0; rw [cond_ne h0]
  · have hjn : (leI 0 j && ltI j all.length) = true := by rw [and_iff, leI_iff, ltI_iff]; omega
    rw [ev_eq u8005 rfl]
    simp only [t8005, go_sem, List.length_map, idx_map _ _ _ hk, idx_map _ _ j (show j < all.length by omega), hin, hjn, wrapS j (by omega), ih]
    rw [anyK_step _ hj, cond_lt (by omega)]
    cases eqS (all.getD j default).name (all.getD k default).name <;> rfl
theorem e8003 (all : List At) (h : ∀ a, a ∈ all → OkA a) (hl : all.length ≤ 1000) (a b c d e x y z w : D) : ∀ k, k ≤ all.length → ev 8003 [a, b, c, d, e, .int k, x, y, z, w, atsD all] = some [.int (scan (attrErr all) (all.length - k) k)] := by
  refine down ?_ fun k hk ih => ?_
  · refine ev_by u8003 ?_
    simp only [t8003, go_sem, List.length_map, scan_end, ltI_irr]
  · have hin : (leI 0 k && ltI k all.length) = true := by rw [and_iff, leI_iff, ltI_iff]; omega
    have h5 := e8005 all h hl a b c d e x y z w k hk 0 (by omega)
    simp only [Nat.sub_zero, Int.ofNat_zero] at h5
    refine ev_by u8003 ?_
    simp only [t8003, go_sem, List.length_map, idx_map _ _ _ hk, hin, e8100 _ (h _ (getD_mem hk)).1]
    rw [scan_step _ hk, cond_lt (by omega)]
    have hae : attrErr all k = bif isName (all.getD k default).name then (bif anyK (fun j => eqS (all.getD j default).name (all.getD k default).name) k 0 then 5 else attr1 (all.getD k default)) else 2 := rfl
    rw [hae]
    cases isName (all.getD k default).name
    · rfl
    · simp only [go_sem]
      refine h5.trans ?_
      rw [ih]
      cases anyK (fun j => eqS (all.getD j default).name (all.getD k default).name) k 0
      · simp only [go_sem]
        split <;> rfl
      · rfl
theorem e8001 {ns : List Nd} (hl : ns.length ≤ 1000) {i : Nat} (hi : i < ns.length) (x y z w v : D) : ∀ k, k ≤ i → ev 8001 [ndsD ns, x, .int i, y, .int k, .str (ns.getD i default).name, z, w, v] =
    bif anyK (fun j => eqS (ns.getD j default).name (ns.getD i default).name) (i - k) k then some [.int 5] else ev 8001 [ndsD ns, x, .int i, y, .int i, .str (ns.getD i default).name, z, w, v] := by
  refine down ?_ fun k hk ih => ?_
  · rw [anyK_end]; rfl
  · have hkn : (leI 0 k && ltI k ns.length) = true := by rw [and_iff, leI_iff, ltI_iff]; omega
    rw [ev_eq u8001 rfl]
    simp only [t8001, go_sem, List.length_map, idx_map _ _ k (show k < ns.length by omega), hkn, wrapS k (by omega), ih]
    rw [anyK_step _ hk, cond_lt (by omega)]
    cases eqS (ns.getD k default).name (ns.getD i default).name <;> rfl
theorem e8000 {ns : List Nd} {es : List Ed} (ht : OkT ns es) {i : Nat} (hi : i < ns.length) (hp : Par ns i) (x : D) : ev 8000 [ndsD ns, x, .int i] = some [.int (nodeErr ns i)] := by
  obtain ⟨hl, _, hn, _⟩ := ht
  have ho := hn _ (getD_mem hi)
  have hin : (leI 0 i && ltI i ns.length) = true := by rw [and_iff, leI_iff, ltI_iff]; omega
  have h1 := e8001 hl hi x (.int 0) (.int (ns.getD i default).parent) (.bool (ns.getD i default).abs) (atsD (ns.getD i default).attrs) 0 (by omega)
  simp only [Nat.sub_zero, Int.ofNat_zero] at h1
  refine ev_by u8000 ?_
  simp only [t8000, go_sem, List.length_map, idx_map _ _ _ hi, hin, e8100 _ ho.1]
  unfold nodeErr nodeDup
  cases isName (ns.getD i default).name
  · rfl
  · simp only [go_sem]
    refine h1.trans ?_
    generalize hq : anyK _ i 0 = q
    cases q
    · simp only [go_sem]
      refine ev_by u8001 ?_
      simp only [t8001, go_sem, ltI_irr, e9000, nowrap (n := (i : Int) - 1) (by omega) (by omega)]
      by_cases h2 : (ns.getD i default).parent < -1 ∨ (i : Int) ≤ (ns.getD i default).parent
      · rw [if_pos h2, cond_neg (by rw [Bool.eq_false_iff]; simp only [ne_eq, and_iff, leI_iff]; omega)]
      · rw [if_neg h2, cond_pos (by simp only [and_iff, leI_iff]; omega)]
        have hp' : Par ns (i + 1) := fun j hj => by
          by_cases hji : j = i
          · rw [hji]; omega
          · exact hp j (by omega)
        have h29 := e9100 hl hn (m := i + 1) (by omega) hp' x (i + 1) i (by omega) (by omega) (by omega)
        obtain ⟨hb, hok⟩ := attrsN_ok hn (m := i + 1) (by omega) hp' (i + 1) i (by omega) (by omega)
        have hown := attrsN_own (ns := ns) (k := i + 1) (a := i) (by omega)
        generalize attrsN ns (i + 1) i = all at *
        simp only [h29, go_sem, List.length_map]
        by_cases h3 : 4 < (ns.getD i default).attrs.length
        · rw [cond_lt (by omega), if_pos h3]
        · rw [cond_nlt (by omega), if_neg h3]
          by_cases h4 : 8 < all.length
          · rw [cond_lt (by omega), if_pos h4]
          · rw [cond_nlt (by omega), if_neg h4, nowrap (by omega) (by omega), show ((all.length : Int) - ((ns.getD i default).attrs.length : Int)) = ((all.length - (ns.getD i default).attrs.length : Nat) : Int) by omega]
            exact e8003 all hok (by omega) _ _ _ _ _ _ _ _ _ _ (by omega)
    · rfl
/-- A node type without an error has an earlier parent, or none. -/
theorem nodeErr_parent {ns : List Nd} {i : Nat} (h : nodeErr ns i = 0) : -1 ≤ (ns.getD i default).parent ∧ (ns.getD i default).parent < i := by
  unfold nodeErr at h
  revert h
  cases isName (ns.getD i default).name
  · intro h; cases h
  · cases nodeDup ns i
    · simp only [go_sem]
      intro h
      split at h
      · cases h
      · omega
    · intro h; cases h

/-! ### Edge types -/
def boundB (lo hi : Int) : Bool := (leI 0 lo && leI lo 40) && (eqI hi (-1) || (leI lo hi && leI hi 40))
def inB (n : Nat) (p : Int) : Bool := leI 0 p && ltI p n
def edgeDup (es : List Ed) (i : Nat) : Bool := anyK (fun j => eqS (es.getD j default).name (es.getD i default).name) i 0
def edgeErr (ns : List Nd) (es : List Ed) (i : Nat) : Int := bif isName (es.getD i default).name then (bif edgeDup es i then 5 else
    bif (inB ns.length (es.getD i default).src && inB ns.length (es.getD i default).dst) && (boundB (es.getD i default).ol (es.getD i default).oh && boundB (es.getD i default).il (es.getD i default).ih) then 0 else 6) else 2
theorem e3800 (s : ByteArray) (a b c d e f : D) (t : ByteArray) (g h i j k l : D) : ev 3800 [.str s, a, b, c, d, e, f, .str t, g, h, i, j, k, l] = some [.bool (eqS s t)] := by
  refine ev_by u3800 ?_
  simp only [t3800, go_sem]
theorem e3701 (l : List Ed) (hl : l.length ≤ 1000) (s : ByteArray) (a b c d e f x : D) : ∀ i, i ≤ l.length → ev 3701 [edsD l, .str s, a, b, c, d, e, f, x, .int l.length, .int i] = some [.int (findK (fun j => eqS (l.getD j default).name s) (l.length - i) i)] := by
  refine down ?_ fun i hi ih => ?_
  · refine ev_by u3701 ?_
    simp only [t3701, go_sem, findK_end, ltI_irr]
  · have hin : (leI 0 i && ltI i l.length) = true := by rw [and_iff, leI_iff, ltI_iff]; omega
    refine ev_by u3701 ?_
    simp only [t3701, go_sem, List.length_map, idx_map _ _ _ hi, hin, e3800, wrapS i (by omega), ih]
    rw [findK_step _ hi, cond_lt (by omega)]
    cases eqS (l.getD i default).name s <;> rfl
theorem e3600 (l : List Ed) (hl : l.length ≤ 1000) (s : ByteArray) (a b c d e f : D) : ev 3600 [edsD l, .str s, a, b, c, d, e, f] = some [.bool (anyK (fun j => eqS (l.getD j default).name s) l.length 0)] := by
  have h : ev 3700 [edsD l, .str s, a, b, c, d, e, f] = some [.int (findK (fun j => eqS (l.getD j default).name s) l.length 0)] := by
    refine ev_by u3700 ?_
    simp only [t3700, go_sem, List.length_map]
    exact e3701 l hl s a b c d e f _ 0 (by omega)
  refine ev_by u3600 ?_
  simp only [t3600, go_sem, h, leI_find]
theorem e3900 (p : Int) (ns : List Nd) (x : D) : ev 3900 [.int p, ndsD ns, x] = some [.bool (inB ns.length p)] := by
  refine ev_by u3900 ?_
  simp only [t3900, go_sem, List.length_map, inB]
  cases leI 0 p <;> rfl
theorem e4000 (lo hi : Int) : ev 4000 [.int lo, .int hi] = some [.bool (boundB lo hi)] := by
  refine ev_by u4000 ?_
  simp only [t4000, go_sem, boundB]
  cases leI 0 lo <;> cases leI lo 40 <;> cases eqI hi (-1) <;> cases leI lo hi <;> cases leI hi 40 <;> rfl
theorem e9500 (lo hi : Int) : ev 9500 [.int lo, .int hi] = some [.bool (boundB lo hi)] := by
  refine ev_by u9500 ?_
  simp only [t9500, go_sem, boundB, e9000]
  cases leI 0 lo <;> cases leI lo 40 <;> cases eqI hi (-1) <;> cases leI lo hi <;> cases leI hi 40 <;> rfl
theorem e3500 {ns : List Nd} {es : List Ed} (ht : OkT ns es) {i : Nat} (hi : i < es.length) : ev 3500 [ndsD ns, edsD es, .int i] = some [.int (edgeErr ns es i)] := by
  obtain ⟨_, hl, _, hn⟩ := ht
  have ho := hn _ (getD_mem hi)
  have hin : (leI 0 i && ltI i es.length) = true := by rw [and_iff, leI_iff, ltI_iff]; omega
  have h26 := e3600 (es.take i) (by rw [List.length_take]; omega) (es.getD i default).name (.int (es.getD i default).src) (.int (es.getD i default).dst) (.int (es.getD i default).ol) (.int (es.getD i default).oh) (.int (es.getD i default).il) (.int (es.getD i default).ih)
  rw [length_take' (Nat.le_of_lt hi), anyK_congr (q := fun j => eqS (es.getD j default).name (es.getD i default).name) i 0 (fun j _ hj => by rw [getD_take (by omega)])] at h26
  refine ev_by u3500 ?_
  simp only [t3500, go_sem, List.length_map, idx_map _ _ _ hi, take_map', hin, e900 _ ho, h26, e3900, e4000]
  unfold edgeErr edgeDup
  cases isName (es.getD i default).name
  · rfl
  · simp only [go_sem]
    rw [cond_le (by omega), cond_le (by omega)]
    generalize anyK _ i 0 = q
    cases q <;> cases inB ns.length (es.getD i default).src <;> cases inB ns.length (es.getD i default).dst <;> cases boundB (es.getD i default).ol (es.getD i default).oh <;> cases boundB (es.getD i default).il (es.getD i default).ih <;> rfl
theorem e9401 {es : List Ed} (hl : es.length ≤ 1000) {i : Nat} (hi : i < es.length) (x y a b c d e f : D) : ∀ k, k ≤ i → ev 9401 [x, edsD es, .int i, y, .int k, .str (es.getD i default).name, a, b, c, d, e, f] =
    bif anyK (fun j => eqS (es.getD j default).name (es.getD i default).name) (i - k) k then some [.int 5] else ev 9401 [x, edsD es, .int i, y, .int i, .str (es.getD i default).name, a, b, c, d, e, f] := by
  refine down ?_ fun k hk ih => ?_
  · rw [anyK_end]; rfl
  · have hkn : (leI 0 k && ltI k es.length) = true := by rw [and_iff, leI_iff, ltI_iff]; omega
    rw [ev_eq u9401 rfl]
    simp only [t9401, go_sem, List.length_map, idx_map _ _ k (show k < es.length by omega), hkn, wrapS k (by omega), ih]
    rw [anyK_step _ hk, cond_lt (by omega)]
    cases eqS (es.getD k default).name (es.getD i default).name <;> rfl
theorem leI_pred (p : Int) (n : Nat) : (leI 0 p && leI p ((n : Int) - 1)) = inB n p := by
  unfold inB
  rw [Bool.eq_iff_iff]
  simp only [and_iff, leI_iff, ltI_iff]
  omega
theorem e9400 {ns : List Nd} {es : List Ed} (ht : OkT ns es) {i : Nat} (hi : i < es.length) : ev 9400 [ndsD ns, edsD es, .int i] = some [.int (edgeErr ns es i)] := by
  obtain ⟨hln, hl, _, hn⟩ := ht
  have ho := hn _ (getD_mem hi)
  have hin : (leI 0 i && ltI i es.length) = true := by rw [and_iff, leI_iff, ltI_iff]; omega
  have h1 := e9401 hl hi (ndsD ns) (.int 0) (.int (es.getD i default).src) (.int (es.getD i default).dst) (.int (es.getD i default).ol) (.int (es.getD i default).oh) (.int (es.getD i default).il) (.int (es.getD i default).ih) 0 (by omega)
  simp only [Nat.sub_zero, Int.ofNat_zero] at h1
  refine ev_by u9400 ?_
  simp only [t9400, go_sem, List.length_map, idx_map _ _ _ hi, hin, e8100 _ ho]
  unfold edgeErr edgeDup
  cases isName (es.getD i default).name
  · rfl
  · simp only [go_sem]
    refine h1.trans ?_
    generalize anyK _ i 0 = q
    cases q
    · simp only [go_sem]
      refine ev_by u9401 ?_
      simp only [t9401, go_sem, ltI_irr, List.length_map, e9000, e9500, nowrap (n := (ns.length : Int) - 1) (by omega) (by omega), leI_pred]
      cases inB ns.length (es.getD i default).src <;> cases inB ns.length (es.getD i default).dst <;> cases boundB (es.getD i default).ol (es.getD i default).oh <;> cases boundB (es.getD i default).il (es.getD i default).ih <;> rfl
    · rfl

/-! ### Type graphs -/
def thenE (a b : Int) : Int := if a = 0 then b else a
def typesErr (ns : List Nd) (es : List Ed) : Int := if ns.length = 0 then 7 else if 12 < ns.length then 3 else if 20 < es.length then 3 else thenE (scan (nodeErr ns) ns.length 0) (scan (edgeErr ns es) es.length 0)
def Says (l : Nat) (ds : List D) (e : Int) : Prop := ∃ s : ByteArray, ev l ds = some [.str s, .int e]
theorem e704 {ns : List Nd} {es : List Ed} (ht : OkT ns es) (a b c d e f : D) : ∀ i, i ≤ es.length → Says 704 [a, b, c, d, e, f, edsD es, .int es.length, .int i, ndsD ns, edsD es] (scan (edgeErr ns es) (es.length - i) i) := by
  have hl := ht.2.1
  refine down ?_ fun i hi ih => ?_
  · refine ⟨⟨#[]⟩, ?_⟩
    refine ev_by u704 ?_
    simp only [t704, go_sem, scan_end, ltI_irr, toArray_nil]
  · obtain ⟨s, ih⟩ := ih
    have hin : (leI 0 i && ltI i es.length) = true := by rw [and_iff, leI_iff, ltI_iff]; omega
    by_cases h0 : edgeErr ns es i = 0
    · refine ⟨s, ?_⟩
      refine ev_by u704 ?_
      simp only [t704, go_sem, List.length_map, idx_map _ _ _ hi, hin, e3500 ht hi, wrapS i (by omega), ih]
      rw [scan_step _ hi, cond_lt (by omega), cond_eq h0, if_pos h0]
    · refine ⟨(es.getD i default).name, ?_⟩
      refine ev_by u704 ?_
      simp only [t704, go_sem, List.length_map, idx_map _ _ _ hi, hin, e3500 ht hi, wrapS i (by omega), ih]
      rw [scan_step _ hi, cond_lt (by omega), cond_ne h0, if_neg h0]
theorem e702 {ns : List Nd} {es : List Ed} (ht : OkT ns es) (a b c : D) : ∀ i, i ≤ ns.length → (∀ j, j < i → nodeErr ns j = 0) → Says 702 [ndsD ns, a, b, c, .int ns.length, .int i, ndsD ns, edsD es] (thenE (scan (nodeErr ns) (ns.length - i) i) (scan (edgeErr ns es) es.length 0)) := by
  have hl := ht.1
  refine down ?_ fun i hi ih => ?_
  · intro _
    obtain ⟨s, h⟩ := e704 ht (ndsD ns) a b c (.int ns.length) (.int ns.length) 0 (by omega)
    refine ⟨s, ?_⟩
    rw [scan_end]
    refine ev_by u702 ?_
    simp only [t702, go_sem, List.length_map, ltI_irr]
    exact h
  · intro hv
    have hin : (leI 0 i && ltI i ns.length) = true := by rw [and_iff, leI_iff, ltI_iff]; omega
    have hp : Par ns i := fun j hj => (nodeErr_parent (hv j hj)).2
    by_cases h0 : nodeErr ns i = 0
    · obtain ⟨s, ih⟩ := ih (fun j hj => by
        by_cases hji : j = i
        · rw [hji]; exact h0
        · exact hv j (by omega))
      refine ⟨s, ?_⟩
      refine ev_by u702 ?_
      simp only [t702, go_sem, List.length_map, idx_map _ _ _ hi, hin, e800 ht hi hp, wrapS i (by omega), ih]
      rw [scan_step _ hi, cond_lt (by omega), cond_eq h0, if_pos h0]
    · refine ⟨(ns.getD i default).name, ?_⟩
      refine ev_by u702 ?_
      simp only [t702, go_sem, List.length_map, idx_map _ _ _ hi, hin, e800 ht hi hp]
      rw [scan_step _ hi, cond_lt (by omega), cond_ne h0, if_neg h0]
      unfold thenE
      rw [if_neg h0]
theorem e700 {ns : List Nd} {es : List Ed} (ht : OkT ns es) : Says 700 [ndsD ns, edsD es] (typesErr ns es) := by
  have hl := ht.1
  have hl2 := ht.2.1
  obtain ⟨s, h⟩ := e702 ht (edsD es) (.str ⟨#[]⟩) (.int 0) 0 (by omega) (fun j hj => by omega)
  unfold typesErr
  split
  · refine ⟨⟨#[]⟩, ?_⟩
    refine ev_by u700 ?_
    simp only [t700, go_sem, List.length_map, toArray_nil]
    rw [cond_eq (by omega)]
  · split
    · refine ⟨⟨#[]⟩, ?_⟩
      refine ev_by u700 ?_
      simp only [t700, go_sem, List.length_map, toArray_nil]
      rw [cond_ne (by omega), cond_lt (by omega)]
    · split
      · refine ⟨⟨#[]⟩, ?_⟩
        refine ev_by u700 ?_
        simp only [t700, go_sem, List.length_map, toArray_nil]
        rw [cond_ne (by omega), cond_nlt (by omega), cond_lt (by omega)]
      · refine ⟨s, ?_⟩
        refine ev_by u700 ?_
        simp only [t700, go_sem, List.length_map, toArray_nil]
        rw [cond_ne (by omega), cond_nlt (by omega), cond_nlt (by omega)]
        exact h
theorem e7903 {ns : List Nd} {es : List Ed} (ht : OkT ns es) (a b c d e : D) : ∀ i, i ≤ es.length → Says 7903 [a, b, c, d, e, .int i, ndsD ns, edsD es] (scan (edgeErr ns es) (es.length - i) i) := by
  have hl := ht.2.1
  refine down ?_ fun i hi ih => ?_
  · refine ⟨⟨#[]⟩, ?_⟩
    refine ev_by u7903 ?_
    simp only [t7903, go_sem, List.length_map, scan_end, ltI_irr, toArray_nil]
  · obtain ⟨s, ih⟩ := ih
    have hin : (leI 0 i && ltI i es.length) = true := by rw [and_iff, leI_iff, ltI_iff]; omega
    by_cases h0 : edgeErr ns es i = 0
    · refine ⟨s, ?_⟩
      refine ev_by u7903 ?_
      simp only [t7903, go_sem, List.length_map, idx_map _ _ _ hi, hin, e9400 ht hi, wrapS i (by omega), ih]
      rw [scan_step _ hi, cond_lt (by omega), cond_eq h0, if_pos h0]
    · refine ⟨(es.getD i default).name, ?_⟩
      refine ev_by u7903 ?_
      simp only [t7903, go_sem, List.length_map, idx_map _ _ _ hi, hin, e9400 ht hi, wrapS i (by omega), ih]
      rw [scan_step _ hi, cond_lt (by omega), cond_ne h0, if_neg h0]
theorem e7901 {ns : List Nd} {es : List Ed} (ht : OkT ns es) (a b c d : D) : ∀ i, i ≤ ns.length → (∀ j, j < i → nodeErr ns j = 0) → Says 7901 [a, b, c, d, .int i, ndsD ns, edsD es] (thenE (scan (nodeErr ns) (ns.length - i) i) (scan (edgeErr ns es) es.length 0)) := by
  have hl := ht.1
  refine down ?_ fun i hi ih => ?_
  · intro _
    obtain ⟨s, h⟩ := e7903 ht a b c d (.int ns.length) 0 (by omega)
    refine ⟨s, ?_⟩
    rw [scan_end]
    refine ev_by u7901 ?_
    simp only [t7901, go_sem, List.length_map, ltI_irr]
    exact h
  · intro hv
    have hin : (leI 0 i && ltI i ns.length) = true := by rw [and_iff, leI_iff, ltI_iff]; omega
    have hp : Par ns i := fun j hj => (nodeErr_parent (hv j hj)).2
    by_cases h0 : nodeErr ns i = 0
    · obtain ⟨s, ih⟩ := ih (fun j hj => by
        by_cases hji : j = i
        · rw [hji]; exact h0
        · exact hv j (by omega))
      refine ⟨s, ?_⟩
      refine ev_by u7901 ?_
      simp only [t7901, go_sem, List.length_map, idx_map _ _ _ hi, hin, e8000 ht hi hp, wrapS i (by omega), ih]
      rw [scan_step _ hi, cond_lt (by omega), cond_eq h0, if_pos h0]
    · refine ⟨(ns.getD i default).name, ?_⟩
      refine ev_by u7901 ?_
      simp only [t7901, go_sem, List.length_map, idx_map _ _ _ hi, hin, e8000 ht hi hp]
      rw [scan_step _ hi, cond_lt (by omega), cond_ne h0, if_neg h0]
      unfold thenE
      rw [if_neg h0]
theorem e7900 {ns : List Nd} {es : List Ed} (ht : OkT ns es) : Says 7900 [ndsD ns, edsD es] (typesErr ns es) := by
  have hl := ht.1
  have hl2 := ht.2.1
  obtain ⟨s, h⟩ := e7901 ht (ndsD ns) (edsD es) (.str ⟨#[]⟩) (.int 0) 0 (by omega) (fun j hj => by omega)
  unfold typesErr
  split
  · refine ⟨⟨#[]⟩, ?_⟩
    refine ev_by u7900 ?_
    simp only [t7900, go_sem, List.length_map, toArray_nil]
    rw [cond_eq (by omega)]
  · split
    · refine ⟨⟨#[]⟩, ?_⟩
      refine ev_by u7900 ?_
      simp only [t7900, go_sem, List.length_map, toArray_nil]
      rw [cond_ne (by omega), cond_lt (by omega)]
    · split
      · refine ⟨⟨#[]⟩, ?_⟩
        refine ev_by u7900 ?_
        simp only [t7900, go_sem, List.length_map, toArray_nil]
        rw [cond_ne (by omega), cond_nlt (by omega), cond_lt (by omega)]
      · refine ⟨s, ?_⟩
        refine ev_by u7900 ?_
        simp only [t7900, go_sem, List.length_map, toArray_nil]
        rw [cond_ne (by omega), cond_nlt (by omega), cond_nlt (by omega)]
        exact h
/-- What a type graph without an error is. -/
theorem typesErr_ok {ns : List Nd} {es : List Ed} (h : typesErr ns es = 0) : 0 < ns.length ∧ ns.length ≤ 12 ∧ es.length ≤ 20 ∧ (∀ j, j < ns.length → nodeErr ns j = 0) ∧ ∀ j, j < es.length → edgeErr ns es j = 0 := by
  unfold typesErr at h
  split at h
  · cases h
  · split at h
    · cases h
    · split at h
      · cases h
      · unfold thenE at h
        split at h
        · rename_i h1
          exact ⟨by omega, by omega, by omega, fun j hj => scan_zero _ _ h1 j (by omega) (by omega), fun j hj => scan_zero _ _ h j (by omega) (by omega)⟩
        · rename_i h1; exact absurd h h1
theorem edgeErr_in {ns : List Nd} {es : List Ed} {i : Nat} (h : edgeErr ns es i = 0) : 0 ≤ (es.getD i default).src ∧ (es.getD i default).src < ns.length ∧ 0 ≤ (es.getD i default).dst ∧ (es.getD i default).dst < ns.length := by
  unfold edgeErr at h
  revert h
  cases isName (es.getD i default).name
  · intro h; cases h
  · cases edgeDup es i
    · simp only [go_sem]
      generalize hq : ((inB ns.length (es.getD i default).src && inB ns.length (es.getD i default).dst) && _) = q
      cases q
      · intro h; cases h
      · intro _
        simp only [and_iff, inB, leI_iff, ltI_iff] at hq
        omega
    · intro h; cases h
end Go.SX.T52
