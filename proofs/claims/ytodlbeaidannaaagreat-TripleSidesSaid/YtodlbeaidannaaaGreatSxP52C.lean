/-
Chapter 52, plain: type graphs: names, attributes, node types, edge types, by the program and by the specification.
-/
import Derived.Test.YtodlbeaidannaaaGreatSxP52B
set_option linter.unusedVariables false
set_option linter.unusedSimpArgs false
set_option linter.unusedSectionVars false
namespace Go.SX.T52
open Go.SX

/-! ### Data -/
structure At where
  name : ByteArray
  low : Int
  high : Int
  names : List ByteArray
  deriving Inhabited
structure Nd where
  name : ByteArray
  parent : Int
  abs : Bool
  attrs : List At
  deriving Inhabited
structure Ed where
  name : ByteArray
  src : Int
  dst : Int
  ol : Int
  oh : Int
  il : Int
  ih : Int
  deriving Inhabited
abbrev At.d (a : At) : D := .agg [.str a.name, .int a.low, .int a.high, strsD a.names]
abbrev atsD (l : List At) : D := .list (l.map At.d)
abbrev Nd.d (n : Nd) : D := .agg [.str n.name, .int n.parent, .bool n.abs, atsD n.attrs]
abbrev ndsD (l : List Nd) : D := .list (l.map Nd.d)
abbrev Ed.d (e : Ed) : D := .agg [.str e.name, .int e.src, .int e.dst, .int e.ol, .int e.oh, .int e.il, .int e.ih]
abbrev edsD (l : List Ed) : D := .list (l.map Ed.d)
theorem getD_mem {α : Type} [Inhabited α] {l : List α} {i : Nat} (h : i < l.length) : l.getD i default ∈ l := by
  rw [List.getD_eq_getElem?_getD, List.getElem?_eq_getElem h]
  exact List.getElem_mem h
theorem take_map' {α β : Type} (f : α → β) (l : List α) (n : Nat) : (l.map f).take n = (l.take n).map f := (List.map_take ..).symm
theorem getD_take {α : Type} [Inhabited α] {l : List α} {n j : Nat} (h : j < n) : (l.take n).getD j default = l.getD j default := by
  simp only [List.getD_eq_getElem?_getD, List.getElem?_take, if_pos h]
theorem length_take' {α : Type} {l : List α} {n : Nat} (h : n ≤ l.length) : (l.take n).length = n := by
  rw [List.length_take]; omega
theorem eqS_comm (a b : ByteArray) : eqS a b = eqS b a := by
  rw [Bool.eq_iff_iff, eqS_iff, eqS_iff]
  exact ⟨Eq.symm, Eq.symm⟩
theorem succ_cast (i : Nat) : ((i + 1 : Nat) : Int) = (i : Int) + 1 := rfl

/-! ### Lists of names -/
def namesErr (l : List ByteArray) : Int := if 20 < l.length then 3 else scan (fun i => bif isName (l.getD i default) then (bif anyK (fun j => eqS (l.getD i default) (l.getD j default)) i 0 then 5 else 0) else 2) l.length 0
def OkS (l : List ByteArray) : Prop := l.length ≤ 1000 ∧ ∀ s, s ∈ l → Short s
theorem hasS_take (l : List ByteArray) (s : ByteArray) {i : Nat} (hi : i ≤ l.length) : hasS (l.take i) s = anyK (fun j => eqS s (l.getD j default)) i 0 := by
  unfold hasS
  rw [length_take' hi]
  exact anyK_congr i 0 fun j h1 h2 => by rw [getD_take (by omega)]
theorem e3401 (l : List ByteArray) (h : OkS l) (x : D) : ∀ i, i ≤ l.length → ev 3401 [strsD l, x, .int l.length, .int i] = some [.int (scan (fun i => bif isName (l.getD i default) then (bif anyK (fun j => eqS (l.getD i default) (l.getD j default)) i 0 then 5 else 0) else 2) (l.length - i) i)] := by
  have hl := h.1
  refine down ?_ fun i hi ih => ?_
  · refine ev_by u3401 ?_
    simp only [t3401, go_sem, scan_end, ltI_irr]
  · have hin : (leI 0 i && ltI i l.length) = true := by rw [and_iff, leI_iff, ltI_iff]; omega
    have h9 := e900 (l.getD i default) (h.2 _ (getD_mem hi))
    have h21 := e2100 (l.take i) (l.getD i default) (by rw [List.length_take]; omega)
    rw [hasS_take l _ (Nat.le_of_lt hi)] at h21
    refine ev_by u3401 ?_
    simp only [t3401, go_sem, List.length_map, idx_map _ _ _ hi, take_map', h9, h21, hin, wrapS i (by omega), ih]
    rw [scan_step _ hi, cond_lt (by omega)]
    cases isName (l.getD i default)
    · rfl
    · simp only [go_sem]
      rw [cond_le (by omega), cond_le (by omega)]
      cases anyK (fun j => eqS (l.getD i default) (l.getD j default)) i 0 <;> rfl
theorem e3400 (l : List ByteArray) (h : OkS l) : ev 3400 [strsD l] = some [.int (namesErr l)] := by
  have hl := h.1
  refine ev_by u3400 ?_
  simp only [t3400, go_sem, List.length_map]
  unfold namesErr
  split
  · rw [cond_lt (by omega)]
  · rw [cond_nlt (by omega)]
    exact e3401 l h _ 0 (by omega)
theorem e9303 (l : List ByteArray) (h : OkS l) (x : D) (i : Nat) (hi : i < l.length) : ∀ k, k ≤ i → ev 9303 [strsD l, x, .int i, .int k] = bif anyK (fun j => eqS (l.getD i default) (l.getD j default)) (i - k) k then some [.int 5] else ev 9301 [strsD l, x, .int (i + 1 : Nat)] := by
  have hl := h.1
  refine down ?_ fun k hk ih => ?_
  · rw [ev_eq u9303 rfl]
    simp only [t9303, go_sem, ltI_irr, anyK_end, wrapS i (by omega)]
  · have hin : (leI 0 i && ltI i l.length) = true := by rw [and_iff, leI_iff, ltI_iff]; omega
    have hkn : (leI 0 k && ltI k l.length) = true := by rw [and_iff, leI_iff, ltI_iff]; omega
    rw [ev_eq u9303 rfl]
    simp only [t9303, go_sem, List.length_map, idx_map _ _ _ hi, idx_map _ _ k (show k < l.length by omega), hin, hkn, wrapS k (by omega), ih]
    rw [anyK_step _ hk, cond_lt (by omega), eqS_comm]
    cases eqS (l.getD i default) (l.getD k default) <;> rfl
theorem e9301 (l : List ByteArray) (h : OkS l) (x : D) : ∀ i, i ≤ l.length → ev 9301 [strsD l, x, .int i] = some [.int (scan (fun i => bif isName (l.getD i default) then (bif anyK (fun j => eqS (l.getD i default) (l.getD j default)) i 0 then 5 else 0) else 2) (l.length - i) i)] := by
  have hl := h.1
  refine down ?_ fun i hi ih => ?_
  · refine ev_by u9301 ?_
    simp only [t9301, go_sem, List.length_map, scan_end, ltI_irr]
  · have hin : (leI 0 i && ltI i l.length) = true := by rw [and_iff, leI_iff, ltI_iff]; omega
    have h8 := e8100 (l.getD i default) (h.2 _ (getD_mem hi))
    have h93 := e9303 l h x i hi 0 (by omega)
    simp only [Nat.sub_zero, Int.ofNat_zero] at h93
    refine ev_by u9301 ?_
    simp only [t9301, go_sem, List.length_map, idx_map _ _ _ hi, h8, hin]
    rw [scan_step _ hi, cond_lt (by omega)]
    cases isName (l.getD i default)
    · rfl
    · simp only [go_sem]
      refine h93.trans ?_
      rw [ih]
      cases anyK (fun j => eqS (l.getD i default) (l.getD j default)) i 0 <;> rfl
theorem e9300 (l : List ByteArray) (h : OkS l) : ev 9300 [strsD l] = some [.int (namesErr l)] := by
  have hl := h.1
  refine ev_by u9300 ?_
  simp only [t9300, go_sem, List.length_map]
  unfold namesErr
  split
  · rw [cond_lt (by omega)]
  · rw [cond_nlt (by omega)]
    exact e9301 l h _ 0 (by omega)

/-! ### Attributes -/
def rangeErr (a : At) : Int := if a.names.length = 0 then (if -1000000 ≤ a.low ∧ a.low ≤ a.high ∧ a.high ≤ 1000000 then 0 else 6) else (if a.low = 0 ∧ a.high = a.names.length - 1 then 0 else 6)
def attr1 (a : At) : Int := if namesErr a.names = 0 then rangeErr a else namesErr a.names
def attrErr (all : List At) (k : Nat) : Int := bif isName (all.getD k default).name then (bif anyK (fun j => eqS (all.getD j default).name (all.getD k default).name) k 0 then 5 else attr1 (all.getD k default)) else 2
def OkA (a : At) : Prop := Short a.name ∧ OkS a.names
theorem e3300 (s : ByteArray) (a b c : D) (t : ByteArray) (e f g : D) : ev 3300 [.str s, a, b, c, .str t, e, f, g] = some [.bool (eqS s t)] := by
  refine ev_by u3300 ?_
  simp only [t3300, go_sem]
theorem e3201 (l : List At) (hl : l.length ≤ 1000) (s : ByteArray) (a b c x : D) : ∀ i, i ≤ l.length → ev 3201 [atsD l, .str s, a, b, c, x, .int l.length, .int i] = some [.int (findK (fun j => eqS (l.getD j default).name s) (l.length - i) i)] := by
  refine down ?_ fun i hi ih => ?_
  · refine ev_by u3201 ?_
    simp only [t3201, go_sem, findK_end, ltI_irr]
  · have hin : (leI 0 i && ltI i l.length) = true := by rw [and_iff, leI_iff, ltI_iff]; omega
    refine ev_by u3201 ?_
    simp only [t3201, go_sem, List.length_map, idx_map _ _ _ hi, hin, e3300, wrapS i (by omega), ih]
    rw [findK_step _ hi, cond_lt (by omega)]
    cases eqS (l.getD i default).name s <;> rfl
theorem e3100 (l : List At) (hl : l.length ≤ 1000) (s : ByteArray) (a b c : D) : ev 3100 [atsD l, .str s, a, b, c] = some [.bool (anyK (fun j => eqS (l.getD j default).name s) l.length 0)] := by
  have h : ev 3200 [atsD l, .str s, a, b, c] = some [.int (findK (fun j => eqS (l.getD j default).name s) l.length 0)] := by
    refine ev_by u3200 ?_
    simp only [t3200, go_sem, List.length_map]
    exact e3201 l hl s a b c _ 0 (by omega)
  refine ev_by u3100 ?_
  simp only [t3100, go_sem, h, leI_find]
theorem e3000 (all : List At) (h : ∀ a, a ∈ all → OkA a) (hl : all.length ≤ 1000) (k : Nat) (hk : k < all.length) : ev 3000 [.str (all.getD k default).name, .int (all.getD k default).low, .int (all.getD k default).high, strsD (all.getD k default).names, atsD (all.take k)] = some [.int (attrErr all k)] := by
  obtain ⟨h1, h2⟩ := h _ (getD_mem hk)
  have h3 := e3100 (all.take k) (by rw [List.length_take]; omega) (all.getD k default).name (.int (all.getD k default).low) (.int (all.getD k default).high) (strsD (all.getD k default).names)
  rw [length_take' (Nat.le_of_lt hk), anyK_congr (q := fun j => eqS (all.getD j default).name (all.getD k default).name) k 0 (fun j _ hj => by rw [getD_take (by omega)])] at h3
  have hn := h2.1
  unfold attrErr
  generalize all.getD k default = a at *
  refine ev_by u3000 ?_
  simp only [t3000, go_sem, e900 _ h1, h3, e3400 _ h2, List.length_map]
  cases isName a.name
  · rfl
  · simp only [go_sem]
    generalize anyK _ k 0 = q
    cases q
    · simp only [go_sem, nowrap (n := (a.names.length : Int) - 1) (by omega) (by omega)]
      unfold attr1 rangeErr
      refine cond_split (fun h0 => ?_) (fun h0 => ?_)
      · rw [eqI_iff] at h0
        rw [if_pos h0]
        by_cases hz : a.names.length = 0
        · have hz' : ltI 0 a.names.length = false := by rw [ltI_false]; omega
          rw [if_pos hz]
          simp only [hz', go_sem]
          split
          · rename_i hc
            rw [cond_le hc.1, cond_le hc.2.1, cond_le hc.2.2]
          · rename_i hc
            repeat' (refine cond_split (fun h => ?_) (fun h => ?_) <;> (try simp only [leI_iff, ltI_iff, eqI_iff, eqS_iff, leI_false, ltI_false, eqI_false, eqS_false] at h))
            all_goals first | rfl | (exfalso; omega)
        · have hz' : ltI 0 a.names.length = true := by rw [ltI_iff]; omega
          rw [if_neg hz]
          simp only [hz', go_sem]
          split
          · rename_i hc
            repeat' (refine cond_split (fun h => ?_) (fun h => ?_) <;> (try simp only [leI_iff, ltI_iff, eqI_iff, eqS_iff, leI_false, ltI_false, eqI_false, eqS_false] at h))
            all_goals first | rfl | (exfalso; omega)
          · rename_i hc
            repeat' (refine cond_split (fun h => ?_) (fun h => ?_) <;> (try simp only [leI_iff, ltI_iff, eqI_iff, eqS_iff, leI_false, ltI_false, eqI_false, eqS_false] at h))
            all_goals first | rfl | (exfalso; omega)
      · rw [eqI_false] at h0
        rw [if_neg h0]
    · rfl
theorem e9000 (n a b : Int) : ev 9000 [.int n, .int a, .int b] = some [.bool (leI a n && leI n b)] := by
  refine ev_by u9000 ?_
  simp only [t9000, go_sem]
  cases leI a n <;> rfl
theorem e9200 (a : At) (h : OkA a) : ev 9200 [.str a.name, .int a.low, .int a.high, strsD a.names] = some [.int (attr1 a)] := by
  have hn := h.2.1
  refine ev_by u9200 ?_
  simp only [t9200, go_sem, e9000, e9300 _ h.2, List.length_map, nowrap (n := (a.names.length : Int) - 1) (by omega) (by omega)]
  unfold attr1 rangeErr
  by_cases hz : a.names.length = 0
  · have h0 : namesErr a.names = 0 := by
      unfold namesErr
      rw [hz]
      rfl
    rw [cond_eq (by omega), if_pos h0, if_pos hz]
    split
    · rename_i hc
      rw [cond_pos (by rw [and_iff, leI_iff, leI_iff]; omega), cond_pos (by rw [and_iff, leI_iff, leI_iff]; omega)]
    · rename_i hc
      refine cond_split (fun h1 => ?_) (fun h1 => rfl)
      refine cond_split (fun h2 => ?_) (fun h2 => rfl)
      rw [and_iff, leI_iff, leI_iff] at h1 h2
      exfalso; omega
  · rw [cond_ne (by omega)]
    refine cond_split (fun h0 => ?_) (fun h0 => ?_)
    · rw [eqI_iff] at h0
      rw [if_pos h0, if_neg hz]
      split
      · rename_i hc
        rw [cond_eq hc.1, cond_eq hc.2]
      · rename_i hc
        repeat' (refine cond_split (fun h => ?_) (fun h => ?_) <;> (try simp only [leI_iff, ltI_iff, eqI_iff, eqS_iff, leI_false, ltI_false, eqI_false, eqS_false] at h))
        all_goals first | rfl | (exfalso; omega)
    · rw [eqI_false] at h0
      rw [if_neg h0]
end Go.SX.T52
