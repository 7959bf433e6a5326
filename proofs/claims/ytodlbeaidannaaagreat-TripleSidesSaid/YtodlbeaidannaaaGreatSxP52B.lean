/-
Chapter 52, plain: what a name is, by the program and by the specification.
-/
import Derived.Test.YtodlbeaidannaaaGreatSxP52A
set_option linter.unusedVariables false
set_option linter.unusedSimpArgs false
set_option linter.unusedSectionVars false
namespace Go.SX.T52
open Go.SX

def isName (s : ByteArray) : Bool := ltI 0 s.size && (letterB (byteAt s 0) && (eqI (runOf partB s) s.size && leI s.size 20))
theorem letter_digit {c : Int} (h : letterB c = true) : digitB c = false := by
  simp [letterB, leI_iff] at h
  simp [digitB, leI_iff, leI_false]
  omega
theorem empty_iff (s : ByteArray) : eqS s ⟨#[]⟩ = eqI s.size 0 := by
  rw [Bool.eq_iff_iff, eqS_iff, eqI_iff]
  constructor
  · intro h; rw [h]; rfl
  · intro h
    have : s.data.size = 0 := by
      have : s.size = 0 := by omega
      exact this
    cases s
    rename_i d
    simp only at this
    rw [Array.eq_empty_of_size_eq_zero this]
theorem toArray_nil : ([] : List UInt8).toArray = #[] := rfl

/-! ### The program's -/
theorem e1100a (s : ByteArray) (hs : Short s) (h0 : 0 < s.size) (hl : letterB (byteAt s 0) = true) : ev 1100 [.str s] = some (bif ltI 20 (runOf partB s) then [.int 0, .int 0, .int 3] else [.int 1, .int (runOf partB s), .int 0]) := by
  refine ev_by u1100 ?_
  simp only [t1100, go_sem, e1200, e1300 s hs, hl]
  rw [cond_in (by omega) (by omega)]
  cases ltI 20 (runOf partB s) <;> rfl
theorem e1100b (s : ByteArray) (hs : Short s) (h0 : 0 < s.size) (hl : letterB (byteAt s 0) = false) : ∃ k n e : Int, ev 1100 [.str s] = some [.int k, .int n, .int e] ∧ k ≠ 1 := by
  obtain ⟨a, b, hq⟩ := e1700 s hs h0
  obtain ⟨p, hp⟩ := e2000 s
  have key : ∃ k n e : Int, t1100.go ev [.str s] = some [.int k, .int n, .int e] ∧ k ≠ 1 := by
    simp only [t1100, go_sem, e1200, e1500, e1600 s hs, hl, hq, hp, e2300]
    rw [cond_in (by omega) (by omega)]
    cases digitB (byteAt s 0)
    · simp only [go_sem]
      cases eqI (byteAt s 0) 34
      · simp only [go_sem]
        cases p
        · simp only [go_sem]
          generalize leI 0 _ = q
          cases q
          · exact ⟨_, _, _, rfl, by decide⟩
          · exact ⟨_, _, _, rfl, by decide⟩
        · exact ⟨_, _, _, rfl, by decide⟩
      · exact ⟨_, _, _, rfl, by decide⟩
    · simp only [go_sem]
      cases ltI 9 (runOf digitB s)
      · exact ⟨_, _, _, rfl, by decide⟩
      · exact ⟨_, _, _, rfl, by decide⟩
  obtain ⟨k, n, e, h, hk⟩ := key
  exact ⟨k, n, e, ev_by u1100 h, hk⟩
theorem e1000 (s : ByteArray) (hs : Short s) (x : D) : ev 1000 [.int 1, .str s, x] = some [.str s, .bool (isName s)] := by
  refine ev_by u1000 ?_
  by_cases h0 : 0 < s.size
  · have hne : eqI s.size 0 = false := by rw [eqI_false]; omega
    have hpos : ltI 0 s.size = true := by rw [ltI_iff]; omega
    cases hl : letterB (byteAt s 0)
    · obtain ⟨k, n, e, h1, h2⟩ := e1100b s hs h0 hl
      have hk : eqI k 1 = false := by rw [eqI_false]; exact h2
      simp only [t1000, go_sem, toArray_nil, empty_iff, hne, h1, hk, isName, hl, Bool.false_and, Bool.and_false]
      rw [cond_ne (by decide)]
      cases eqI e 0 <;> rfl
    · have h1 := e1100a s hs h0 hl
      have h13 : eqI 1 3 = false := by decide
      have h11 : eqI 1 1 = true := by decide
      have h30 : eqI 3 0 = false := by decide
      have h00 : eqI 0 0 = true := by decide
      cases hr : ltI 20 (runOf partB s)
      · rw [hr] at h1
        simp only [go_sem] at h1
        simp only [t1000, go_sem, toArray_nil, empty_iff, hne, h1, h13, h11, h00, isName, hl, hpos, Bool.true_and]
        rw [ltI_false] at hr
        refine congrArg (fun b => some [D.str s, D.bool b]) ?_
        rw [Bool.eq_iff_iff]
        simp only [Bool.and_eq_true, eqI_iff, leI_iff]
        omega
      · rw [hr] at h1
        simp only [go_sem] at h1
        simp only [t1000, go_sem, toArray_nil, empty_iff, hne, h1, h13, h30, isName, hl, hpos, Bool.true_and]
        rw [ltI_iff] at hr
        refine congrArg (fun b => some [D.str s, D.bool b]) ?_
        symm
        rw [Bool.eq_false_iff]
        simp only [ne_eq, Bool.and_eq_true, eqI_iff, leI_iff]
        omega
  · have he : s.size = 0 := by omega
    have hne : eqI s.size 0 = true := by rw [eqI_iff]; omega
    have hpos : ltI 0 s.size = false := by rw [ltI_false]; omega
    have hs0 : s = ⟨#[]⟩ := by
      have := empty_iff s
      rw [hne, eqS_iff] at this
      exact this
    have h13 : eqI 1 3 = false := by decide
    simp only [t1000, go_sem, toArray_nil, empty_iff, hne, h13, isName, hpos, Bool.false_and]
    rw [← hs0]
theorem e900 (s : ByteArray) (hs : Short s) : ev 900 [.str s] = some [.bool (isName s)] := by
  refine ev_by u900 ?_
  simp only [t900, go_sem, e1000 s hs]

/-! ### The specification's -/
def refB (dg : Bool) (c : Int) : Bool := digitB c || (!dg && (letterB c || eqI c 95))
theorem refB_part (c : Int) : refB false c = partB c := by
  unfold refB partB
  cases digitB c <;> cases letterB c <;> simp
theorem e8701 (s : ByteArray) (dg : Bool) (hs : Short s) : ∀ i, i ≤ s.size → ev 8701 [.str s, .int 0, .bool dg, .int i] = some [.int (runK (fun j => refB dg (byteAt s j)) (s.size - i) i)] := by
  refine down ?_ fun i hi ih => ?_
  · refine ev_by u8701 ?_
    simp only [t8701, go_sem, runK_end, Int.zero_add, nowrap (n := (s.size : Int)) (by omega) (by omega), ltI_irr]
  · have hin : (leI 0 i && ltI i s.size) = true := by rw [and_iff, leI_iff, ltI_iff]; omega
    refine ev_by u8701 ?_
    simp only [t8701, go_sem, e8600, e8500, Int.zero_add, nowrap (n := (i : Int)) (by omega) (by omega), nowrap (n := (i : Int) + 1) (by omega) (by omega), hin]
    have hx : refB dg (byteAt s i) = (digitB (byteAt s i) || (!dg && (letterB (byteAt s i) || eqI (byteAt s i) 95))) := rfl
    rw [runK_step _ hi, cond_lt (by omega), hx]
    cases digitB (byteAt s i)
    · cases dg
      · simp only [go_sem, Bool.false_or, Bool.not_false, Bool.true_and]
        cases letterB (byteAt s i)
        · cases eqI (byteAt s i) 95
          · rfl
          · exact ih
        · exact ih
      · rfl
    · exact ih
theorem e8700 (s : ByteArray) (dg : Bool) (hs : Short s) : ev 8700 [.str s, .int 0, .bool dg] = some [.int (runOf (refB dg) s)] := by
  refine ev_by u8700 ?_
  simp only [t8700, go_sem]
  exact e8701 s dg hs 0 (by omega)
theorem e8801 (s : ByteArray) (x : D) (hs : Short s) : ∀ i, i ≤ s.size → 1 ≤ i → ∃ n : Int, ev 8801 [.str s, .int 0, x, .int i] = some [.int n] ∧ (n = 0 ∨ (2 ≤ n ∧ n ≤ s.size)) := by
  refine down ?_ fun i hi ih => ?_
  · intro h1
    refine ⟨0, ?_, .inl rfl⟩
    refine ev_by u8801 ?_
    simp only [t8801, go_sem, Int.zero_add, nowrap (n := (s.size : Int)) (by omega) (by omega), ltI_irr]
  · intro h1
    obtain ⟨n, hn, hb⟩ := ih (by omega)
    rw [show (((i + 1 : Nat)) : Int) = (i : Int) + 1 by omega] at hn
    have key : ∃ n : Int, t8801.go ev [.str s, .int 0, x, .int i] = some [.int n] ∧ (n = 0 ∨ (2 ≤ n ∧ n ≤ s.size)) := by
      simp only [t8801, go_sem, Int.zero_add, nowrap (n := (i : Int)) (by omega) (by omega), nowrap (n := (i : Int) + 1) (by omega) (by omega), hn]
      rw [cond_lt (by omega), cond_in (by omega) (by omega)]
      cases eqI (byteAt s i) 34
      · simp only [go_sem]
        cases ltI (byteAt s i) 32
        · simp only [go_sem]
          cases ltI 126 (byteAt s i)
          · exact ⟨n, rfl, hb⟩
          · exact ⟨0, rfl, .inl rfl⟩
        · exact ⟨0, rfl, .inl rfl⟩
      · exact ⟨_, rfl, .inr ⟨by omega, by omega⟩⟩
    obtain ⟨n, h, hb⟩ := key
    exact ⟨n, ev_by u8801 h, hb⟩
theorem e8800 (s : ByteArray) (hs : Short s) (h0 : 0 < s.size) : ∃ n : Int, ev 8800 [.str s, .int 0] = some [.int n] ∧ (n = 0 ∨ (2 ≤ n ∧ n ≤ s.size)) := by
  obtain ⟨n, h, hb⟩ := e8801 s (.int 0) hs 1 (by omega) (by omega)
  refine ⟨n, ?_, hb⟩
  refine ev_by u8800 ?_
  simp only [t8800, go_sem]
  exact h
def signs : List ByteArray := [⟨#[45, 62]⟩, ⟨#[60, 61]⟩, ⟨#[62, 61]⟩, ⟨#[61, 61]⟩, ⟨#[33, 61]⟩, ⟨#[123]⟩, ⟨#[125]⟩, ⟨#[40]⟩, ⟨#[41]⟩, ⟨#[91]⟩, ⟨#[93]⟩, ⟨#[44]⟩, ⟨#[59]⟩, ⟨#[58]⟩, ⟨#[61]⟩, ⟨#[43]⟩, ⟨#[45]⟩, ⟨#[42]⟩, ⟨#[60]⟩, ⟨#[62]⟩, ⟨#[33]⟩, ⟨#[38]⟩, ⟨#[124]⟩, ⟨#[46]⟩, ⟨#[63]⟩]
theorem e8900 : ev 8900 [] = some [strsD signs] := by
  refine ev_by u8900 ?_
  simp only [t8900, go_sem, signs, strsD]
theorem e8401 (s : ByteArray) (l : List ByteArray) (hs : Short s) (hl : l.length ≤ 1000) (hz : ∀ j, j < l.length → (l.getD j default).size ≤ 1000) (x2 x3 x4 x6 x7 x8 : D) : ∀ i, i ≤ l.length → ∃ (k : Int) (t : ByteArray) (a b e : Int), ev 8401 [.str s, .int 0, x2, x3, x4, .int i, x6, x7, x8, strsD l] = some [.int k, .str t, .int a, .int b, .int e] ∧ k ≠ 1 := by
  refine down ?_ fun i hi ih => ?_
  · have key : ∃ (k : Int) (t : ByteArray) (a b e : Int), t8401.go ev [.str s, .int 0, x2, x3, x4, .int l.length, x6, x7, x8, strsD l] = some [.int k, .str t, .int a, .int b, .int e] ∧ k ≠ 1 := by
      simp only [t8401, go_sem, List.length_map, ltI_irr]
      exact ⟨_, _, _, _, _, rfl, by decide⟩
    obtain ⟨k, t, a, b, e, h, hk⟩ := key
    exact ⟨k, t, a, b, e, ev_by u8401 h, hk⟩
  · obtain ⟨k, t, a, b, e, h, hk⟩ := ih
    rw [show (((i + 1 : Nat)) : Int) = (i : Int) + 1 by omega] at h
    have hzi := hz i hi
    have key : ∃ (k : Int) (t : ByteArray) (a b e : Int), t8401.go ev [.str s, .int 0, x2, x3, x4, .int i, x6, x7, x8, strsD l] = some [.int k, .str t, .int a, .int b, .int e] ∧ k ≠ 1 := by
      simp only [t8401, go_sem, List.length_map, idx_map _ _ _ hi, Int.zero_add, nowrap (n := ((l.getD i default).size : Int)) (by omega) (by omega), nowrap (n := (i : Int) + 1) (by omega) (by omega), h]
      rw [cond_lt (by omega)]
      generalize l.getD i default = u at *
      simp only [cond_in (x := cond _ _ _) (i := (i : Int)) (n := (l.length : Int)) (by omega) (by omega), cond_in (i := (i : Int)) (n := (l.length : Int)) (by omega) (by omega)]
      cases hc : leI u.size s.size
      · exact ⟨_, _, _, _, _, rfl, hk⟩
      · rw [leI_iff] at hc
        simp only [go_sem]
        rw [cond_le (by omega), cond_le (by omega), cond_le (by omega)]
        generalize eqS _ u = q
        cases q
        · exact ⟨_, _, _, _, _, rfl, hk⟩
        · exact ⟨_, _, _, _, _, rfl, by decide⟩
    obtain ⟨k, t, a, b, e, h, hk⟩ := key
    exact ⟨k, t, a, b, e, ev_by u8401 h, hk⟩
theorem signs_small : ∀ j, j < signs.length → (signs.getD j default).size ≤ 1000 := by decide
theorem e8400b (s : ByteArray) (hs : Short s) (h0 : 0 < s.size) (hl : letterB (byteAt s 0) = false) : ∃ (k : Int) (t : ByteArray) (a b e : Int), ev 8400 [.str s, .int 0] = some [.int k, .str t, .int a, .int b, .int e] ∧ k ≠ 1 := by
  obtain ⟨n, hn, hb⟩ := e8800 s hs h0
  have hrl := runOf_le (refB (digitB (byteAt s 0))) s
  have key : ∃ (k : Int) (t : ByteArray) (a b e : Int), t8400.go ev [.str s, .int 0] = some [.int k, .str t, .int a, .int b, .int e] ∧ k ≠ 1 := by
    simp only [t8400, go_sem, e8500, e8600, e8700 s _ hs, hl, hn, e8900]
    rw [cond_in (by omega) (by omega)]
    cases hd : digitB (byteAt s 0)
    · simp only [go_sem]
      cases eqI (byteAt s 0) 34
      · simp only [go_sem]
        exact e8401 s signs hs (by decide) signs_small _ _ _ _ _ _ 0 (by omega)
      · simp only [go_sem]
        cases hz : eqI n 0
        · rw [eqI_false] at hz
          simp only [go_sem]
          generalize ltI 60 _ = q
          cases q
          · simp only [go_sem, Int.zero_add, nowrap (n := n) (by omega) (by omega), nowrap (n := n - 1) (by omega) (by omega), nowrap (n := 1) (by omega) (by omega)]
            rw [cond_le (by omega), cond_le (by omega), cond_le (by omega), cond_le (by omega)]
            exact ⟨_, _, _, _, _, rfl, by decide⟩
          · exact ⟨_, _, _, _, _, rfl, by decide⟩
        · exact ⟨_, _, _, _, _, rfl, by decide⟩
    · simp only [go_sem]
      rw [hd] at hrl
      cases ltI 9 (runOf (refB true) s)
      · simp only [go_sem, Int.zero_add, nowrap (n := (runOf (refB true) s : Int)) (by omega) (by omega)]
        rw [cond_le (by omega), cond_le (by omega), cond_le (by omega), cond_le (by omega)]
        exact ⟨_, _, _, _, _, rfl, by decide⟩
      · exact ⟨_, _, _, _, _, rfl, by decide⟩
  obtain ⟨k, t, a, b, e, h, hk⟩ := key
  exact ⟨k, t, a, b, e, ev_by u8400 h, hk⟩
theorem e8400a (s : ByteArray) (hs : Short s) (h0 : 0 < s.size) (hl : letterB (byteAt s 0) = true) : ev 8400 [.str s, .int 0] = some (bif ltI 20 (runOf partB s) then [.int 0, .str ⟨#[]⟩, .int 0, .int 0, .int 3] else [.int 1, .str (s.extract 0 (runOf partB s)), .int 0, .int (runOf partB s), .int 0]) := by
  have hrl := runOf_le partB s
  have hp : refB false = partB := funext refB_part
  refine ev_by u8400 ?_
  simp only [t8400, go_sem, e8500, e8600, e8700 s _ hs, hl, letter_digit hl, hp]
  rw [cond_in (by omega) (by omega)]
  cases ltI 20 (runOf partB s)
  · simp only [go_sem, Int.zero_add, nowrap (n := (runOf partB s : Int)) (by omega) (by omega)]
    rw [cond_le (by omega), cond_le (by omega), cond_le (by omega), cond_le (by omega)]
  · rfl
theorem e8300 (s : ByteArray) (x : D) : ev 8300 [.int 1, .str s, x] = some [.str s] := by
  refine ev_by u8300 ?_
  simp only [t8300, go_sem]
  rw [cond_ne (by decide)]
theorem e8200 (s : ByteArray) (hs : Short s) (x : D) : ev 8200 [.int 1, .str s, x] = some [.bool (isName s)] := by
  refine ev_by u8200 ?_
  by_cases h0 : 0 < s.size
  · have hne : eqI s.size 0 = false := by rw [eqI_false]; omega
    have hpos : ltI 0 s.size = true := by rw [ltI_iff]; omega
    cases hl : letterB (byteAt s 0)
    · obtain ⟨k, t, a, b, e, h1, h2⟩ := e8400b s hs h0 hl
      have hk : eqI k 1 = false := by rw [eqI_false]; exact h2
      simp only [t8200, go_sem, e8300, toArray_nil, empty_iff, hne, h1, hk, isName, hl, Bool.false_and, Bool.and_false]
      cases eqI e 0 <;> cases eqI b s.size <;> rfl
    · have h1 := e8400a s hs h0 hl
      have h11 : eqI 1 1 = true := by decide
      have h30 : eqI 3 0 = false := by decide
      have h00 : eqI 0 0 = true := by decide
      cases hr : ltI 20 (runOf partB s)
      · rw [hr] at h1
        simp only [go_sem] at h1
        simp only [t8200, go_sem, e8300, toArray_nil, empty_iff, hne, h1, h11, h00, isName, hl, hpos, Bool.true_and]
        rw [ltI_false] at hr
        cases hc : eqI (runOf partB s) s.size
        · rfl
        · rw [eqI_iff] at hc
          simp only [go_sem, Bool.true_and]
          refine congrArg (fun b => some [D.bool b]) ?_
          symm
          rw [leI_iff]
          omega
      · rw [hr] at h1
        simp only [go_sem] at h1
        simp only [t8200, go_sem, e8300, toArray_nil, empty_iff, hne, h1, h30, isName, hl, hpos, Bool.true_and]
        rw [ltI_iff] at hr
        refine congrArg (fun b => some [D.bool b]) ?_
        symm
        rw [Bool.eq_false_iff]
        simp only [ne_eq, Bool.and_eq_true, eqI_iff, leI_iff]
        omega
  · have he : s.size = 0 := by omega
    have hne : eqI s.size 0 = true := by rw [eqI_iff]; omega
    have hpos : ltI 0 s.size = false := by rw [ltI_false]; omega
    simp only [t8200, go_sem, e8300, toArray_nil, empty_iff, hne, isName, hpos, Bool.false_and]
theorem e8100 (s : ByteArray) (hs : Short s) : ev 8100 [.str s] = some [.bool (isName s)] := by
  refine ev_by u8100 ?_
  simp only [t8100, go_sem, e8200 s hs]
end Go.SX.T52
