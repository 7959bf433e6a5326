/-
Chapter 52, plain: numbers, bytes, names of tokens.
-/
import Derived.Test.YtodlbeaidannaaaGreatSxKit
import Derived.Test.YtodlbeaidannaaaGreatSyPrim52
import Derived.Test.YtodlbeaidannaaaGreatSxOpen
import Derived.Test.YtodlbeaidannaaaGreatSyT52
set_option linter.unusedVariables false
set_option linter.unusedSimpArgs false
set_option linter.unusedSectionVars false
namespace Go.SX.T52
open Go.SX

/-! ### Bytes -/
def letterB (c : Int) : Bool := (leI 97 c && leI c 122) || (leI 65 c && leI c 90)
def digitB (c : Int) : Bool := leI 48 c && leI c 57
def partB (c : Int) : Bool := letterB c || (digitB c || eqI c 95)
def quotB (c : Int) : Bool := leI 32 c && (leI c 126 && !eqI c 34)
theorem some_bool {a b : Bool} (h : a = b) : some [D.bool a] = some [D.bool b] := by rw [h]
theorem some_int {a b : Int} (h : a = b) : some [D.int a] = some [D.int b] := by rw [h]
theorem e1200 (c : Int) : ev 1200 [.int c] = some [.bool (letterB c)] := by
  refine ev_by u1200 ?_
  simp only [t1200, go_sem, letterB]
  repeat' (refine cond_split (fun h => ?_) (fun h => ?_) <;> (try simp only [leI_iff, ltI_iff, eqI_iff, eqS_iff, leI_false, ltI_false, eqI_false, eqS_false] at h))
  all_goals (first | rfl | (refine some_bool ?_; rw [Bool.eq_iff_iff]; simp [leI_iff, ltI_iff, eqI_iff, eqS_iff, leI_false, ltI_false, eqI_false, eqS_false] <;> omega))
theorem e1500 (c : Int) : ev 1500 [.int c] = some [.bool (digitB c)] := by
  refine ev_by u1500 ?_
  simp only [t1500, go_sem, digitB]
  repeat' (refine cond_split (fun h => ?_) (fun h => ?_) <;> (try simp only [leI_iff, ltI_iff, eqI_iff, eqS_iff, leI_false, ltI_false, eqI_false, eqS_false] at h))
  all_goals (first | rfl | (refine some_bool ?_; rw [Bool.eq_iff_iff]; simp [leI_iff, ltI_iff, eqI_iff, eqS_iff, leI_false, ltI_false, eqI_false, eqS_false] <;> omega))
theorem e1400 (c : Int) : ev 1400 [.int c] = some [.bool (partB c)] := by
  refine ev_by u1400 ?_
  simp only [t1400, go_sem, e1200, e1500, partB]
  cases letterB c <;> cases digitB c <;> rfl
theorem e1900 (c : Int) : ev 1900 [.int c] = some [.bool (quotB c)] := by
  refine ev_by u1900 ?_
  simp only [t1900, go_sem, quotB]
  repeat' (refine cond_split (fun h => ?_) (fun h => ?_) <;> (try simp only [leI_iff, ltI_iff, eqI_iff, eqS_iff, leI_false, ltI_false, eqI_false, eqS_false] at h))
  all_goals (first | rfl | (refine some_bool ?_; rw [Bool.eq_iff_iff]; simp [leI_iff, ltI_iff, eqI_iff, eqS_iff, leI_false, ltI_false, eqI_false, eqS_false] <;> omega))
theorem e8500 (c : Int) : ev 8500 [.int c] = some [.bool (letterB c)] := by
  refine ev_by u8500 ?_
  simp only [t8500, go_sem, letterB]
  repeat' (refine cond_split (fun h => ?_) (fun h => ?_) <;> (try simp only [leI_iff, ltI_iff, eqI_iff, eqS_iff, leI_false, ltI_false, eqI_false, eqS_false] at h))
  all_goals (first | rfl | (refine some_bool ?_; rw [Bool.eq_iff_iff]; simp [leI_iff, ltI_iff, eqI_iff, eqS_iff, leI_false, ltI_false, eqI_false, eqS_false] <;> omega))
theorem e8600 (c : Int) : ev 8600 [.int c] = some [.bool (digitB c)] := by
  refine ev_by u8600 ?_
  simp only [t8600, go_sem, digitB]
  repeat' (refine cond_split (fun h => ?_) (fun h => ?_) <;> (try simp only [leI_iff, ltI_iff, eqI_iff, eqS_iff, leI_false, ltI_false, eqI_false, eqS_false] at h))
  all_goals (first | rfl | (refine some_bool ?_; rw [Bool.eq_iff_iff]; simp [leI_iff, ltI_iff, eqI_iff, eqS_iff, leI_false, ltI_false, eqI_false, eqS_false] <;> omega))

/-! ### Runs -/
/-- Short enough to count without a wrap. -/
abbrev Short (s : ByteArray) : Prop := s.size ≤ 1048576
theorem e1301 (s : ByteArray) (hs : Short s) : ∀ i, i ≤ s.size → ev 1301 [.str s, .int i] = some [.int (runK (fun j => partB (byteAt s j)) (s.size - i) i)] := by
  refine down ?_ fun i hi ih => ?_
  · refine ev_by u1301 ?_
    simp only [t1301, go_sem, runK_end, ltI_irr]
  · refine ev_by u1301 ?_
    simp only [t1301, go_sem, e1400]
    rw [runK_step _ hi, nowrap (by omega) (by omega), cond_lt (by omega), cond_in (by omega) (by omega)]
    cases partB (byteAt s i)
    · rfl
    · exact ih
theorem e1601 (s : ByteArray) (hs : Short s) : ∀ i, i ≤ s.size → ev 1601 [.str s, .int i] = some [.int (runK (fun j => digitB (byteAt s j)) (s.size - i) i)] := by
  refine down ?_ fun i hi ih => ?_
  · refine ev_by u1601 ?_
    simp only [t1601, go_sem, runK_end, ltI_irr]
  · refine ev_by u1601 ?_
    simp only [t1601, go_sem, e1500]
    rw [runK_step _ hi, nowrap (by omega) (by omega), cond_lt (by omega), cond_in (by omega) (by omega)]
    cases digitB (byteAt s i)
    · rfl
    · exact ih
theorem e1801 (s : ByteArray) (hs : Short s) : ∀ i, i ≤ s.size → ev 1801 [.str s, .int i] = some [.int (runK (fun j => quotB (byteAt s j)) (s.size - i) i)] := by
  refine down ?_ fun i hi ih => ?_
  · refine ev_by u1801 ?_
    simp only [t1801, go_sem, runK_end, ltI_irr]
  · refine ev_by u1801 ?_
    simp only [t1801, go_sem, e1900]
    rw [runK_step _ hi, nowrap (by omega) (by omega), cond_lt (by omega), cond_in (by omega) (by omega)]
    cases quotB (byteAt s i)
    · rfl
    · exact ih
def runOf (p : Int → Bool) (s : ByteArray) : Nat := runK (fun j => p (byteAt s j)) s.size 0
theorem runOf_le (p : Int → Bool) (s : ByteArray) : runOf p s ≤ s.size := by
  have := (runK_le (fun j => p (byteAt s j)) s.size 0).2
  unfold runOf
  omega
theorem e1300 (s : ByteArray) (hs : Short s) : ev 1300 [.str s] = some [.int (runOf partB s)] := by
  refine ev_by u1300 ?_
  simp only [t1300, go_sem]
  exact e1301 s hs 0 (by omega)
theorem e1600 (s : ByteArray) (hs : Short s) : ev 1600 [.str s] = some [.int (runOf digitB s)] := by
  refine ev_by u1600 ?_
  simp only [t1600, go_sem]
  exact e1601 s hs 0 (by omega)
theorem e1800 (s : ByteArray) (hs : Short s) : ev 1800 [.str s] = some [.int (runOf quotB s)] := by
  refine ev_by u1800 ?_
  simp only [t1800, go_sem]
  exact e1801 s hs 0 (by omega)
/-- A string token's length: some answer. -/
theorem e1700 (s : ByteArray) (hs : Short s) (h0 : 1 ≤ s.size) : ∃ a b : Int, ev 1700 [.str s] = some [.int a, .int b] := by
  have hx : (s.extract 1 s.size).size = s.size - 1 := by simp
  have hs' : Short (s.extract 1 s.size) := by unfold Short; omega
  have hr := runOf_le quotB (s.extract 1 s.size)
  have e := e1800 _ hs'
  generalize runOf quotB (s.extract 1 s.size) = r at *
  have key : ∃ a b : Int, t1700.go ev [.str s] = some [.int a, .int b] := by
    simp only [t1700, go_sem, e]
    rw [nowrap (n := 1 + (r : Int)) (by omega) (by omega), nowrap (n := (r : Int) + 2) (by omega) (by omega), cond_le (by omega)]
    refine cond_ex (p := fun o => ∃ a b : Int, o = some [D.int a, D.int b]) (fun h => ⟨_, _, rfl⟩) fun h => ?_
    rw [eqI_false] at h
    rw [cond_in (by omega) (by omega)]
    refine cond_ex (p := fun o => ∃ a b : Int, o = some [D.int a, D.int b]) (fun h => ?_) fun h => ⟨_, _, rfl⟩
    exact cond_ex (p := fun o => ∃ a b : Int, o = some [D.int a, D.int b]) (fun h => ⟨_, _, rfl⟩) fun h => ⟨_, _, rfl⟩
  obtain ⟨a, b, h⟩ := key
  exact ⟨a, b, ev_by u1700 h⟩
/-- A list of strings. -/
abbrev strsD (l : List ByteArray) : D := .list (l.map D.str)
theorem e2201 (l : List ByteArray) (s : ByteArray) (hl : l.length ≤ 1048576) (x : D) : ∀ i, i ≤ l.length → ev 2201 [strsD l, .str s, x, .int l.length, .int i] = some [.int (findK (fun j => eqS s (l.getD j default)) (l.length - i) i)] := by
  refine down ?_ fun i hi ih => ?_
  · refine ev_by u2201 ?_
    simp only [t2201, go_sem, findK_end, ltI_irr]
  · refine ev_by u2201 ?_
    simp only [t2201, go_sem, List.length_map, idx_map _ _ _ hi]
    rw [findK_step _ hi, nowrap (by omega) (by omega), cond_lt (by omega), cond_in (by omega) (by omega)]
    cases eqS s (l.getD i default)
    · exact ih
    · rfl
def hasS (l : List ByteArray) (s : ByteArray) : Bool := anyK (fun j => eqS s (l.getD j default)) l.length 0
theorem e2200 (l : List ByteArray) (s : ByteArray) (hl : l.length ≤ 1048576) : ev 2200 [strsD l, .str s] = some [.int (findK (fun j => eqS s (l.getD j default)) l.length 0)] := by
  refine ev_by u2200 ?_
  simp only [t2200, go_sem, List.length_map]
  exact e2201 l s hl _ 0 (by omega)
theorem leI_find (p : Nat → Bool) (k i : Nat) : leI 0 (findK p k i) = anyK p k i := by
  rw [← findK_any]; rfl
theorem e2100 (l : List ByteArray) (s : ByteArray) (hl : l.length ≤ 1048576) : ev 2100 [strsD l, .str s] = some [.bool (hasS l s)] := by
  refine ev_by u2100 ?_
  simp only [t2100, go_sem, e2200 l s hl, leI_find]
  rfl
theorem e2000 (s : ByteArray) : ∃ b : Bool, ev 2000 [.str s] = some [.bool b] := by
  have key : ∃ b : Bool, t2000.go ev [.str s] = some [.bool b] := by
    simp only [t2000, go_sem]
    refine cond_ex (p := fun o => ∃ b : Bool, o = some [D.bool b]) (fun h => ?_) fun h => ⟨_, rfl⟩
    · have := e2100 [⟨#[45, 62]⟩, ⟨#[60, 61]⟩, ⟨#[62, 61]⟩, ⟨#[61, 61]⟩, ⟨#[33, 61]⟩] (s.extract 0 2) (by simp)
      simp only [strsD, go_sem] at this
      simp only [this, go_sem]
      exact ⟨_, rfl⟩
  obtain ⟨b, h⟩ := key
  exact ⟨b, ev_by u2000 h⟩
theorem e2500 (s : ByteArray) (c : Int) : ev 2500 [.str s, .int c] = some [.int (Lib.indexByte s.data.toList c.toNat.toUInt8)] :=
  (evr_iff primDet).2 (ev_prim (by kernel_rfl) (.inl ⟨rfl, s, c, rfl, rfl⟩))
theorem e2400 (s : ByteArray) (c : Int) : ev 2400 [.str s, .int c] = some [.int (Lib.indexByte s.data.toList c.toNat.toUInt8)] := by
  refine ev_by u2400 ?_
  simp only [t2400, go_sem, e2500]
theorem e2300 (s : ByteArray) (c : Int) : ev 2300 [.str s, .int c] = some [.int (Lib.indexByte s.data.toList c.toNat.toUInt8)] := by
  refine ev_by u2300 ?_
  simp only [t2300, go_sem, e2400]
end Go.SX.T52

/-
Chapter 52, plain: what a name is, by the program and by the specification.
-/
set_option linter.unusedVariables false
set_option linter.unusedSimpArgs false
set_option linter.unusedSectionVars false
namespace Go.SX.T52
open Go.SX

def isName (s : ByteArray) : Bool := ltI 0 s.size && (letterB (byteAt s 0) && (eqI (runOf partB s) s.size && leI s.size 20))
theorem letter_digit {c : Int} (h : letterB c = true) : digitB c = false := by
  simp [letterB, leI_iff] at h
  simp [digitB, leI_iff, leI_false]
  omega
theorem empty_iff (s : ByteArray) : eqS s ⟨#[]⟩ = eqI s.size 0 := by
  rw [Bool.eq_iff_iff, eqS_iff, eqI_iff]
  constructor
  · intro h; rw [h]; rfl
  · intro h
    have : s.data.size = 0 := by
      have : s.size = 0 := by omega
      exact this
    cases s
    rename_i d
    simp only at this
    rw [Array.eq_empty_of_size_eq_zero this]
theorem toArray_nil : ([] : List UInt8).toArray = #[] := rfl

/-! ### The program's -/
theorem e1100a (s : ByteArray) (hs : Short s) (h0 : 0 < s.size) (hl : letterB (byteAt s 0) = true) : ev 1100 [.str s] = some (bif ltI 20 (runOf partB s) then [.int 0, .int 0, .int 3] else [.int 1, .int (runOf partB s), .int 0]) := by
  refine ev_by u1100 ?_
  simp only [t1100, go_sem, e1200, e1300 s hs, hl]
  rw [cond_in (by omega) (by omega)]
  cases ltI 20 (runOf partB s) <;> rfl
theorem e1100b (s : ByteArray) (hs : Short s) (h0 : 0 < s.size) (hl : letterB (byteAt s 0) = false) : ∃ k n e : Int, ev 1100 [.str s] = some [.int k, .int n, .int e] ∧ k ≠ 1 := by
  obtain ⟨a, b, hq⟩ := e1700 s hs h0
  obtain ⟨p, hp⟩ := e2000 s
  have key : ∃ k n e : Int, t1100.go ev [.str s] = some [.int k, .int n, .int e] ∧ k ≠ 1 := by
    simp only [t1100, go_sem, e1200, e1500, e1600 s hs, hl, hq, hp, e2300]
    rw [cond_in (by omega) (by omega)]
    cases digitB (byteAt s 0)
    · simp only [go_sem]
      cases eqI (byteAt s 0) 34
      · simp only [go_sem]
        cases p
        · simp only [go_sem]
          generalize leI 0 _ = q
          cases q
          · exact ⟨_, _, _, rfl, by decide⟩
          · exact ⟨_, _, _, rfl, by decide⟩
        · exact ⟨_, _, _, rfl, by decide⟩
      · exact ⟨_, _, _, rfl, by decide⟩
    · simp only [go_sem]
      cases ltI 9 (runOf digitB s)
      · exact ⟨_, _, _, rfl, by decide⟩
      · exact ⟨_, _, _, rfl, by decide⟩
  obtain ⟨k, n, e, h, hk⟩ := key
  exact ⟨k, n, e, ev_by u1100 h, hk⟩
theorem e1000 (s : ByteArray) (hs : Short s) (x : D) : ev 1000 [.int 1, .str s, x] = some [.str s, .bool (isName s)] := by
  refine ev_by u1000 ?_
  by_cases h0 : 0 < s.size
  · have hne : eqI s.size 0 = false := by rw [eqI_false]; omega
    have hpos : ltI 0 s.size = true := by rw [ltI_iff]; omega
    cases hl : letterB (byteAt s 0)
    · obtain ⟨k, n, e, h1, h2⟩ := e1100b s hs h0 hl
      have hk : eqI k 1 = false := by rw [eqI_false]; exact h2
      simp only [t1000, go_sem, toArray_nil, empty_iff, hne, h1, hk, isName, hl, Bool.false_and, Bool.and_false]
      rw [cond_ne (by decide)]
      cases eqI e 0 <;> rfl
    · have h1 := e1100a s hs h0 hl
      have h13 : eqI 1 3 = false := by decide
      have h11 : eqI 1 1 = true := by decide
      have h30 : eqI 3 0 = false := by decide
      have h00 : eqI 0 0 = true := by decide
      cases hr : ltI 20 (runOf partB s)
      · rw [hr] at h1
        simp only [go_sem] at h1
        simp only [t1000, go_sem, toArray_nil, empty_iff, hne, h1, h13, h11, h00, isName, hl, hpos, Bool.true_and]
        rw [ltI_false] at hr
        refine congrArg (fun b => some [D.str s, D.bool b]) ?_
        rw [Bool.eq_iff_iff]
        simp only [Bool.and_eq_true, eqI_iff, leI_iff]
        omega
      · rw [hr] at h1
        simp only [go_sem] at h1
        simp only [t1000, go_sem, toArray_nil, empty_iff, hne, h1, h13, h30, isName, hl, hpos, Bool.true_and]
        rw [ltI_iff] at hr
        refine congrArg (fun b => some [D.str s, D.bool b]) ?_
        symm
        rw [Bool.eq_false_iff]
        simp only [ne_eq, Bool.and_eq_true, eqI_iff, leI_iff]
        omega
  · have he : s.size = 0 := by omega
    have hne : eqI s.size 0 = true := by rw [eqI_iff]; omega
    have hpos : ltI 0 s.size = false := by rw [ltI_false]; omega
    have hs0 : s = ⟨#[]⟩ := by
      have := empty_iff s
      rw [hne, eqS_iff] at this
      exact this
    have h13 : eqI 1 3 = false := by decide
    simp only [t1000, go_sem, toArray_nil, empty_iff, hne, h13, isName, hpos, Bool.false_and]
    rw [← hs0]
theorem e900 (s : ByteArray) (hs : Short s) : ev 900 [.str s] = some [.bool (isName s)] := by
  refine ev_by u900 ?_
  simp only [t900, go_sem, e1000 s hs]

/-! ### The specification's -/
def refB (dg : Bool) (c : Int) : Bool := digitB c || (!dg && (letterB c || eqI c 95))
theorem refB_part (c : Int) : refB false c = partB c := by
  unfold refB partB
  cases digitB c <;> cases letterB c <;> simp
theorem e8701 (s : ByteArray) (dg : Bool) (hs : Short s) : ∀ i, i ≤ s.size → ev 8701 [.str s, .int 0, .bool dg, .int i] = some [.int (runK (fun j => refB dg (byteAt s j)) (s.size - i) i)] := by
  refine down ?_ fun i hi ih => ?_
  · refine ev_by u8701 ?_
    simp only [t8701, go_sem, runK_end, Int.zero_add, nowrap (n := (s.size : Int)) (by omega) (by omega), ltI_irr]
  · have hin : (leI 0 i && ltI i s.size) = true := by rw [and_iff, leI_iff, ltI_iff]; omega
    refine ev_by u8701 ?_
    simp only [t8701, go_sem, e8600, e8500, Int.zero_add, nowrap (n := (i : Int)) (by omega) (by omega), nowrap (n := (i : Int) + 1) (by omega) (by omega), hin]
    have hx : refB dg (byteAt s i) = (digitB (byteAt s i) || (!dg && (letterB (byteAt s i) || eqI (byteAt s i) 95))) := rfl
    rw [runK_step _ hi, cond_lt (by omega), hx]
    cases digitB (byteAt s i)
    · cases dg
      · simp only [go_sem, Bool.false_or, Bool.not_false, Bool.true_and]
        cases letterB (byteAt s i)
        · cases eqI (byteAt s i) 95
          · rfl
          · exact ih
        · exact ih
      · rfl
    · exact ih
theorem e8700 (s : ByteArray) (dg : Bool) (hs : Short s) : ev 8700 [.str s, .int 0, .bool dg] = some [.int (runOf (refB dg) s)] := by
  refine ev_by u8700 ?_
  simp only [t8700, go_sem]
  exact e8701 s dg hs 0 (by omega)
theorem e8801 (s : ByteArray) (x : D) (hs : Short s) : ∀ i, i ≤ s.size → 1 ≤ i → ∃ n : Int, ev 8801 [.str s, .int 0, x, .int i] = some [.int n] ∧ (n = 0 ∨ (2 ≤ n ∧ n ≤ s.size)) := by
  refine down ?_ fun i hi ih => ?_
  · intro h1
    refine ⟨0, ?_, .inl rfl⟩
    refine ev_by u8801 ?_
    simp only [t8801, go_sem, Int.zero_add, nowrap (n := (s.size : Int)) (by omega) (by omega), ltI_irr]
  · intro h1
    obtain ⟨n, hn, hb⟩ := ih (by omega)
    rw [show (((i + 1 : Nat)) : Int) = (i : Int) + 1 by omega] at hn
    have key : ∃ n : Int, t8801.go ev [.str s, .int 0, x, .int i] = some [.int n] ∧ (n = 0 ∨ (2 ≤ n ∧ n ≤ s.size)) := by
      simp only [t8801, go_sem, Int.zero_add, nowrap (n := (i : Int)) (by omega) (by omega), nowrap (n := (i : Int) + 1) (by omega) (by omega), hn]
      rw [cond_lt (by omega), cond_in (by omega) (by omega)]
      cases eqI (byteAt s i) 34
      · simp only [go_sem]
        cases ltI (byteAt s i) 32
        · simp only [go_sem]
          cases ltI 126 (byteAt s i)
          · exact ⟨n, rfl, hb⟩
          · exact ⟨0, rfl, .inl rfl⟩
        · exact ⟨0, rfl, .inl rfl⟩
      · exact ⟨_, rfl, .inr ⟨by omega, by omega⟩⟩
    obtain ⟨n, h, hb⟩ := key
    exact ⟨n, ev_by u8801 h, hb⟩
theorem e8800 (s : ByteArray) (hs : Short s) (h0 : 0 < s.size) : ∃ n : Int, ev 8800 [.str s, .int 0] = some [.int n] ∧ (n = 0 ∨ (2 ≤ n ∧ n ≤ s.size)) := by
  obtain ⟨n, h, hb⟩ := e8801 s (.int 0) hs 1 (by omega) (by omega)
  refine ⟨n, ?_, hb⟩
  refine ev_by u8800 ?_
  simp only [t8800, go_sem]
  exact h
def signs : List ByteArray := [⟨#[45, 62]⟩, ⟨#[60, 61]⟩, ⟨#[62, 61]⟩, ⟨#[61, 61]⟩, ⟨#[33, 61]⟩, ⟨#[123]⟩, ⟨#[125]⟩, ⟨#[40]⟩, ⟨#[41]⟩, ⟨#[91]⟩, ⟨#[93]⟩, ⟨#[44]⟩, ⟨#[59]⟩, ⟨#[58]⟩, ⟨#[61]⟩, ⟨#[43]⟩, ⟨#[45]⟩, ⟨#[42]⟩, ⟨#[60]⟩, ⟨#[62]⟩, ⟨#[33]⟩, ⟨#[38]⟩, ⟨#[124]⟩, ⟨#[46]⟩, ⟨#[63]⟩]
theorem e8900 : ev 8900 [] = some [strsD signs] := by
  refine ev_by u8900 ?_
  simp only [t8900, go_sem, signs, strsD]
theorem e8401 (s : ByteArray) (l : List ByteArray) (hs : Short s) (hl : l.length ≤ 1000) (hz : ∀ j, j < l.length → (l.getD j default).size ≤ 1000) (x2 x3 x4 x6 x7 x8 : D) : ∀ i, i ≤ l.length → ∃ (k : Int) (t : ByteArray) (a b e : Int), ev 8401 [.str s, .int 0, x2, x3, x4, .int i, x6, x7, x8, strsD l] = some [.int k, .str t, .int a, .int b, .int e] ∧ k ≠ 1 := by
  refine down ?_ fun i hi ih => ?_
  · have key : ∃ (k : Int) (t : ByteArray) (a b e : Int), t8401.go ev [.str s, .int 0, x2, x3, x4, .int l.length, x6, x7, x8, strsD l] = some [.int k, .str t, .int a, .int b, .int e] ∧ k ≠ 1 := by
      simp only [t8401, go_sem, List.length_map, ltI_irr]
      exact ⟨_, _, _, _, _, rfl, by decide⟩
    obtain ⟨k, t, a, b, e, h, hk⟩ := key
    exact ⟨k, t, a, b, e, ev_by u8401 h, hk⟩
  · obtain ⟨k, t, a, b, e, h, hk⟩ := ih
    rw [show (((i + 1 : Nat)) : Int) = (i : Int) + 1 by omega] at h
    have hzi := hz i hi
    have key : ∃ (k : Int) (t : ByteArray) (a b e : Int), t8401.go ev [.str s, .int 0, x2, x3, x4, .int i, x6, x7, x8, strsD l] = some [.int k, .str t, .int a, .int b, .int e] ∧ k ≠ 1 := by
      simp only [t8401, go_sem, List.length_map, idx_map _ _ _ hi, Int.zero_add, nowrap (n := ((l.getD i default).size : Int)) (by omega) (by omega), nowrap (n := (i : Int) + 1) (by omega) (by omega), h]
      rw [cond_lt (by omega)]
      generalize l.getD i default = u at *
      simp only [cond_in (x := cond _ _ _) (i := (i : Int)) (n := (l.length : Int)) (by omega) (by omega), cond_in (i := (i : Int)) (n := (l.length : Int)) (by omega) (by omega)]
      cases hc : leI u.size s.size
      · exact ⟨_, _, _, _, _, rfl, hk⟩
      · rw [leI_iff] at hc
        simp only [go_sem]
        rw [cond_le (by omega), cond_le (by omega), cond_le (by omega)]
        generalize eqS _ u = q
        cases q
        · exact ⟨_, _, _, _, _, rfl, hk⟩
        · exact ⟨_, _, _, _, _, rfl, by decide⟩
    obtain ⟨k, t, a, b, e, h, hk⟩ := key
    exact ⟨k, t, a, b, e, ev_by u8401 h, hk⟩
theorem signs_small : ∀ j, j < signs.length → (signs.getD j default).size ≤ 1000 := by decide
theorem e8400b (s : ByteArray) (hs : Short s) (h0 : 0 < s.size) (hl : letterB (byteAt s 0) = false) : ∃ (k : Int) (t : ByteArray) (a b e : Int), ev 8400 [.str s, .int 0] = some [.int k, .str t, .int a, .int b, .int e] ∧ k ≠ 1 := by
  obtain ⟨n, hn, hb⟩ := e8800 s hs h0
  have hrl := runOf_le (refB (digitB (byteAt s 0))) s
  have key : ∃ (k : Int) (t : ByteArray) (a b e : Int), t8400.go ev [.str s, .int 0] = some [.int k, .str t, .int a, .int b, .int e] ∧ k ≠ 1 := by
    simp only [t8400, go_sem, e8500, e8600, e8700 s _ hs, hl, hn, e8900]
    rw [cond_in (by omega) (by omega)]
    cases hd : digitB (byteAt s 0)
    · simp only [go_sem]
      cases eqI (byteAt s 0) 34
      · simp only [go_sem]
        exact e8401 s signs hs (by decide) signs_small _ _ _ _ _ _ 0 (by omega)
      · simp only [go_sem]
        cases hz : eqI n 0
        · rw [eqI_false] at hz
          simp only [go_sem]
          generalize ltI 60 _ = q
          cases q
          · simp only [go_sem, Int.zero_add, nowrap (n := n) (by omega) (by omega), nowrap (n := n - 1) (by omega) (by omega), nowrap (n := 1) (by omega) (by omega)]
            rw [cond_le (by omega), cond_le (by omega), cond_le (by omega), cond_le (by omega)]
            exact ⟨_, _, _, _, _, rfl, by decide⟩
          · exact ⟨_, _, _, _, _, rfl, by decide⟩
        · exact ⟨_, _, _, _, _, rfl, by decide⟩
    · simp only [go_sem]
      rw [hd] at hrl
      cases ltI 9 (runOf (refB true) s)
      · simp only [go_sem, Int.zero_add, nowrap (n := (runOf (refB true) s : Int)) (by omega) (by omega)]
        rw [cond_le (by omega), cond_le (by omega), cond_le (by omega), cond_le (by omega)]
        exact ⟨_, _, _, _, _, rfl, by decide⟩
      · exact ⟨_, _, _, _, _, rfl, by decide⟩
  obtain ⟨k, t, a, b, e, h, hk⟩ := key
  exact ⟨k, t, a, b, e, ev_by u8400 h, hk⟩
theorem e8400a (s : ByteArray) (hs : Short s) (h0 : 0 < s.size) (hl : letterB (byteAt s 0) = true) : ev 8400 [.str s, .int 0] = some (bif ltI 20 (runOf partB s) then [.int 0, .str ⟨#[]⟩, .int 0, .int 0, .int 3] else [.int 1, .str (s.extract 0 (runOf partB s)), .int 0, .int (runOf partB s), .int 0]) := by
  have hrl := runOf_le partB s
  have hp : refB false = partB := funext refB_part
  refine ev_by u8400 ?_
  simp only [t8400, go_sem, e8500, e8600, e8700 s _ hs, hl, letter_digit hl, hp]
  rw [cond_in (by omega) (by omega)]
  cases ltI 20 (runOf partB s)
  · simp only [go_sem, Int.zero_add, nowrap (n := (runOf partB s : Int)) (by omega) (by omega)]
    rw [cond_le (by omega), cond_le (by omega), cond_le (by omega), cond_le (by omega)]
  · rfl
theorem e8300 (s : ByteArray) (x : D) : ev 8300 [.int 1, .str s, x] = some [.str s] := by
  refine ev_by u8300 ?_
  simp only [t8300, go_sem]
  rw [cond_ne (by decide)]
theorem e8200 (s : ByteArray) (hs : Short s) (x : D) : ev 8200 [.int 1, .str s, x] = some [.bool (isName s)] := by
  refine ev_by u8200 ?_
  by_cases h0 : 0 < s.size
  · have hne : eqI s.size 0 = false := by rw [eqI_false]; omega
    have hpos : ltI 0 s.size = true := by rw [ltI_iff]; omega
    cases hl : letterB (byteAt s 0)
    · obtain ⟨k, t, a, b, e, h1, h2⟩ := e8400b s hs h0 hl
      have hk : eqI k 1 = false := by rw [eqI_false]; exact h2
      simp only [t8200, go_sem, e8300, toArray_nil, empty_iff, hne, h1, hk, isName, hl, Bool.false_and, Bool.and_false]
      cases eqI e 0 <;> cases eqI b s.size <;> rfl
    · have h1 := e8400a s hs h0 hl
      have h11 : eqI 1 1 = true := by decide
      have h30 : eqI 3 0 = false := by decide
      have h00 : eqI 0 0 = true := by decide
      cases hr : ltI 20 (runOf partB s)
      · rw [hr] at h1
        simp only [go_sem] at h1
        simp only [t8200, go_sem, e8300, toArray_nil, empty_iff, hne, h1, h11, h00, isName, hl, hpos, Bool.true_and]
        rw [ltI_false] at hr
        cases hc : eqI (runOf partB s) s.size
        · rfl
        · rw [eqI_iff] at hc
          simp only [go_sem, Bool.true_and]
          refine congrArg (fun b => some [D.bool b]) ?_
          symm
          rw [leI_iff]
          omega
      · rw [hr] at h1
        simp only [go_sem] at h1
        simp only [t8200, go_sem, e8300, toArray_nil, empty_iff, hne, h1, h30, isName, hl, hpos, Bool.true_and]
        rw [ltI_iff] at hr
        refine congrArg (fun b => some [D.bool b]) ?_
        symm
        rw [Bool.eq_false_iff]
        simp only [ne_eq, Bool.and_eq_true, eqI_iff, leI_iff]
        omega
  · have he : s.size = 0 := by omega
    have hne : eqI s.size 0 = true := by rw [eqI_iff]; omega
    have hpos : ltI 0 s.size = false := by rw [ltI_false]; omega
    simp only [t8200, go_sem, e8300, toArray_nil, empty_iff, hne, isName, hpos, Bool.false_and]
theorem e8100 (s : ByteArray) (hs : Short s) : ev 8100 [.str s] = some [.bool (isName s)] := by
  refine ev_by u8100 ?_
  simp only [t8100, go_sem, e8200 s hs]
end Go.SX.T52

/-
Chapter 52, plain: type graphs: names, attributes, node types, edge types, by the program and by the specification.
-/
set_option linter.unusedVariables false
set_option linter.unusedSimpArgs false
set_option linter.unusedSectionVars false
namespace Go.SX.T52
open Go.SX

/-! ### Data -/
structure At where
  name : ByteArray
  low : Int
  high : Int
  names : List ByteArray
  deriving Inhabited
structure Nd where
  name : ByteArray
  parent : Int
  abs : Bool
  attrs : List At
  deriving Inhabited
structure Ed where
  name : ByteArray
  src : Int
  dst : Int
  ol : Int
  oh : Int
  il : Int
  ih : Int
  deriving Inhabited
abbrev At.d (a : At) : D := .agg [.str a.name, .int a.low, .int a.high, strsD a.names]
abbrev atsD (l : List At) : D := .list (l.map At.d)
abbrev Nd.d (n : Nd) : D := .agg [.str n.name, .int n.parent, .bool n.abs, atsD n.attrs]
abbrev ndsD (l : List Nd) : D := .list (l.map Nd.d)
abbrev Ed.d (e : Ed) : D := .agg [.str e.name, .int e.src, .int e.dst, .int e.ol, .int e.oh, .int e.il, .int e.ih]
abbrev edsD (l : List Ed) : D := .list (l.map Ed.d)
theorem getD_mem {α : Type} [Inhabited α] {l : List α} {i : Nat} (h : i < l.length) : l.getD i default ∈ l := by
  rw [List.getD_eq_getElem?_getD, List.getElem?_eq_getElem h]
  exact List.getElem_mem h
theorem take_map' {α β : Type} (f : α → β) (l : List α) (n : Nat) : (l.map f).take n = (l.take n).map f := (List.map_take ..).symm
theorem getD_take {α : Type} [Inhabited α] {l : List α} {n j : Nat} (h : j < n) : (l.take n).getD j default = l.getD j default := by
  simp only [List.getD_eq_getElem?_getD, List.getElem?_take, if_pos h]
theorem length_take' {α : Type} {l : List α} {n : Nat} (h : n ≤ l.length) : (l.take n).length = n := by
  rw [List.length_take]; omega
theorem eqS_comm (a b : ByteArray) : eqS a b = eqS b a := by
  rw [Bool.eq_iff_iff, eqS_iff, eqS_iff]
  exact ⟨Eq.symm, Eq.symm⟩
theorem succ_cast (i : Nat) : ((i + 1 : Nat) : Int) = (i : Int) + 1 := rfl

/-! ### Lists of names -/
def namesErr (l : List ByteArray) : Int := if 20 < l.length then 3 else scan (fun i => bif isName (l.getD i default) then (bif anyK (fun j => eqS (l.getD i default) (l.getD j default)) i 0 then 5 else 0) else 2) l.length 0
def OkS (l : List ByteArray) : Prop := l.length ≤ 1000 ∧ ∀ s, s ∈ l → Short s
theorem hasS_take (l : List ByteArray) (s : ByteArray) {i : Nat} (hi : i ≤ l.length) : hasS (l.take i) s = anyK (fun j => eqS s (l.getD j default)) i 0 := by
  unfold hasS
  rw [length_take' hi]
  exact anyK_congr i 0 fun j h1 h2 => by rw [getD_take (by omega)]
theorem e3401 (l : List ByteArray) (h : OkS l) (x : D) : ∀ i, i ≤ l.length → ev 3401 [strsD l, x, .int l.length, .int i] = some [.int (scan (fun i => bif isName (l.getD i default) then (bif anyK (fun j => eqS (l.getD i default) (l.getD j default)) i 0 then 5 else 0) else 2) (l.length - i) i)] := by
  have hl := h.1
  refine down ?_ fun i hi ih => ?_
  · refine ev_by u3401 ?_
    simp only [t3401, go_sem, scan_end, ltI_irr]
  · have hin : (leI 0 i && ltI i l.length) = true := by rw [and_iff, leI_iff, ltI_iff]; omega
    have h9 := e900 (l.getD i default) (h.2 _ (getD_mem hi))
    have h21 := e2100 (l.take i) (l.getD i default) (by rw [List.length_take]; omega)
    rw [hasS_take l _ (Nat.le_of_lt hi)] at h21
    refine ev_by u3401 ?_
    simp only [t3401, go_sem, List.length_map, idx_map _ _ _ hi, take_map', h9, h21, hin, wrapS i (by omega), ih]
    rw [scan_step _ hi, cond_lt (by omega)]
    cases isName (l.getD i default)
    · rfl
    · simp only [go_sem]
      rw [cond_le (by omega), cond_le (by omega)]
      cases anyK (fun j => eqS (l.getD i default) (l.getD j default)) i 0 <;> rfl
theorem e3400 (l : List ByteArray) (h : OkS l) : ev 3400 [strsD l] = some [.int (namesErr l)] := by
  have hl := h.1
  refine ev_by u3400 ?_
  simp only [t3400, go_sem, List.length_map]
  unfold namesErr
  split
  · rw [cond_lt (by omega)]
  · rw [cond_nlt (by omega)]
    exact e3401 l h _ 0 (by omega)
theorem e9303 (l : List ByteArray) (h : OkS l) (x : D) (i : Nat) (hi : i < l.length) : ∀ k, k ≤ i → ev 9303 [strsD l, x, .int i, .int k] = bif anyK (fun j => eqS (l.getD i default) (l.getD j default)) (i - k) k then some [.int 5] else ev 9301 [strsD l, x, .int (i + 1 : Nat)] := by
  have hl := h.1
  refine down ?_ fun k hk ih => ?_
  · rw [ev_eq u9303 rfl]
    simp only [t9303, go_sem, ltI_irr, anyK_end, wrapS i (by omega)]
  · have hin : (leI 0 i && ltI i l.length) = true := by rw [and_iff, leI_iff, ltI_iff]; omega
    have hkn : (leI 0 k && ltI k l.length) = true := by rw [and_iff, leI_iff, ltI_iff]; omega
    rw [ev_eq u9303 rfl]
    simp only [t9303, go_sem, List.length_map, idx_map _ _ _ hi, idx_map _ _ k (show k < l.length by omega), hin, hkn, wrapS k (by omega), ih]
    rw [anyK_step _ hk, cond_lt (by omega), eqS_comm]
    cases eqS (l.getD i default) (l.getD k default) <;> rfl
theorem e9301 (l : List ByteArray) (h : OkS l) (x : D) : ∀ i, i ≤ l.length → ev 9301 [strsD l, x, .int i] = some [.int (scan (fun i => bif isName (l.getD i default) then (bif anyK (fun j => eqS (l.getD i default) (l.getD j default)) i 0 then 5 else 0) else 2) (l.length - i) i)] := by
  have hl := h.1
  refine down ?_ fun i hi ih => ?_
  · refine ev_by u9301 ?_
    simp only [t9301, go_sem, List.length_map, scan_end, ltI_irr]
  · have hin : (leI 0 i && ltI i l.length) = true := by rw [and_iff, leI_iff, ltI_iff]; omega
    have h8 := e8100 (l.getD i default) (h.2 _ (getD_mem hi))
    have h93 := e9303 l h x i hi 0 (by omega)
    simp only [Nat.sub_zero, Int.ofNat_zero] at h93
    refine ev_by u9301 ?_
    simp only [t9301, go_sem, List.length_map, idx_map _ _ _ hi, h8, hin]
    rw [scan_step _ hi, cond_lt (by omega)]
    cases isName (l.getD i default)
    · rfl
    · simp only [go_sem]
      refine h93.trans ?_
      rw [ih]
      cases anyK (fun j => eqS (l.getD i default) (l.getD j default)) i 0 <;> rfl
theorem e9300 (l : List ByteArray) (h : OkS l) : ev 9300 [strsD l] = some [.int (namesErr l)] := by
  have hl := h.1
  refine ev_by u9300 ?_
  simp only [t9300, go_sem, List.length_map]
  unfold namesErr
  split
  · rw [cond_lt (by omega)]
  · rw [cond_nlt (by omega)]
    exact e9301 l h _ 0 (by omega)

/-! ### Attributes -/
def rangeErr (a : At) : Int := if a.names.length = 0 then (if -1000000 ≤ a.low ∧ a.low ≤ a.high ∧ a.high ≤ 1000000 then 0 else 6) else (if a.low = 0 ∧ a.high = a.names.length - 1 then 0 else 6)
def attr1 (a : At) : Int := if namesErr a.names = 0 then rangeErr a else namesErr a.names
def attrErr (all : List At) (k : Nat) : Int := bif isName (all.getD k default).name then (bif anyK (fun j => eqS (all.getD j default).name (all.getD k default).name) k 0 then 5 else attr1 (all.getD k default)) else 2
def OkA (a : At) : Prop := Short a.name ∧ OkS a.names
theorem e3300 (s : ByteArray) (a b c : D) (t : ByteArray) (e f g : D) : ev 3300 [.str s, a, b, c, .str t, e, f, g] = some [.bool (eqS s t)] := by
  refine ev_by u3300 ?_
  simp only [t3300, go_sem]
theorem e3201 (l : List At) (hl : l.length ≤ 1000) (s : ByteArray) (a b c x : D) : ∀ i, i ≤ l.length → ev 3201 [atsD l, .str s, a, b, c, x, .int l.length, .int i] = some [.int (findK (fun j => eqS (l.getD j default).name s) (l.length - i) i)] := by
  refine down ?_ fun i hi ih => ?_
  · refine ev_by u3201 ?_
    simp only [t3201, go_sem, findK_end, ltI_irr]
  · have hin : (leI 0 i && ltI i l.length) = true := by rw [and_iff, leI_iff, ltI_iff]; omega
    refine ev_by u3201 ?_
    simp only [t3201, go_sem, List.length_map, idx_map _ _ _ hi, hin, e3300, wrapS i (by omega), ih]
    rw [findK_step _ hi, cond_lt (by omega)]
    cases eqS (l.getD i default).name s <;> rfl
theorem e3100 (l : List At) (hl : l.length ≤ 1000) (s : ByteArray) (a b c : D) : ev 3100 [atsD l, .str s, a, b, c] = some [.bool (anyK (fun j => eqS (l.getD j default).name s) l.length 0)] := by
  have h : ev 3200 [atsD l, .str s, a, b, c] = some [.int (findK (fun j => eqS (l.getD j default).name s) l.length 0)] := by
    refine ev_by u3200 ?_
    simp only [t3200, go_sem, List.length_map]
    exact e3201 l hl s a b c _ 0 (by omega)
  refine ev_by u3100 ?_
  simp only [t3100, go_sem, h, leI_find]
theorem e3000 (all : List At) (h : ∀ a, a ∈ all → OkA a) (hl : all.length ≤ 1000) (k : Nat) (hk : k < all.length) : ev 3000 [.str (all.getD k default).name, .int (all.getD k default).low, .int (all.getD k default).high, strsD (all.getD k default).names, atsD (all.take k)] = some [.int (attrErr all k)] := by
  obtain ⟨h1, h2⟩ := h _ (getD_mem hk)
  have h3 := e3100 (all.take k) (by rw [List.length_take]; omega) (all.getD k default).name (.int (all.getD k default).low) (.int (all.getD k default).high) (strsD (all.getD k default).names)
  rw [length_take' (Nat.le_of_lt hk), anyK_congr (q := fun j => eqS (all.getD j default).name (all.getD k default).name) k 0 (fun j _ hj => by rw [getD_take (by omega)])] at h3
  have hn := h2.1
  unfold attrErr
  generalize all.getD k default = a at *
  refine ev_by u3000 ?_
  simp only [t3000, go_sem, e900 _ h1, h3, e3400 _ h2, List.length_map]
  cases isName a.name
  · rfl
  · simp only [go_sem]
    generalize anyK _ k 0 = q
    cases q
    · simp only [go_sem, nowrap (n := (a.names.length : Int) - 1) (by omega) (by omega)]
      unfold attr1 rangeErr
      refine cond_split (fun h0 => ?_) (fun h0 => ?_)
      · rw [eqI_iff] at h0
        rw [if_pos h0]
        by_cases hz : a.names.length = 0
        · have hz' : ltI 0 a.names.length = false := by rw [ltI_false]; omega
          rw [if_pos hz]
          simp only [hz', go_sem]
          split
          · rename_i hc
            rw [cond_le hc.1, cond_le hc.2.1, cond_le hc.2.2]
          · rename_i hc
            repeat' (refine cond_split (fun h => ?_) (fun h => ?_) <;> (try simp only [leI_iff, ltI_iff, eqI_iff, eqS_iff, leI_false, ltI_false, eqI_false, eqS_false] at h))
            all_goals first | rfl | (exfalso; omega)
        · have hz' : ltI 0 a.names.length = true := by rw [ltI_iff]; omega
          rw [if_neg hz]
          simp only [hz', go_sem]
          split
          · rename_i hc
            repeat' (refine cond_split (fun h => ?_) (fun h => ?_) <;> (try simp only [leI_iff, ltI_iff, eqI_iff, eqS_iff, leI_false, ltI_false, eqI_false, eqS_false] at h))
            all_goals first | rfl | (exfalso; omega)
          · rename_i hc
            repeat' (refine cond_split (fun h => ?_) (fun h => ?_) <;> (try simp only [leI_iff, ltI_iff, eqI_iff, eqS_iff, leI_false, ltI_false, eqI_false, eqS_false] at h))
            all_goals first | rfl | (exfalso; omega)
      · rw [eqI_false] at h0
        rw [if_neg h0]
    · rfl
theorem e9000 (n a b : Int) : ev 9000 [.int n, .int a, .int b] = some [.bool (leI a n && leI n b)] := by
  refine ev_by u9000 ?_
  simp only [t9000, go_sem]
  cases leI a n <;> rfl
theorem e9200 (a : At) (h : OkA a) : ev 9200 [.str a.name, .int a.low, .int a.high, strsD a.names] = some [.int (attr1 a)] := by
  have hn := h.2.1
  refine ev_by u9200 ?_
  simp only [t9200, go_sem, e9000, e9300 _ h.2, List.length_map, nowrap (n := (a.names.length : Int) - 1) (by omega) (by omega)]
  unfold attr1 rangeErr
  by_cases hz : a.names.length = 0
  · have h0 : namesErr a.names = 0 := by
      unfold namesErr
      rw [hz]
      rfl
    rw [cond_eq (by omega), if_pos h0, if_pos hz]
    split
    · rename_i hc
      rw [cond_pos (by rw [and_iff, leI_iff, leI_iff]; omega), cond_pos (by rw [and_iff, leI_iff, leI_iff]; omega)]
    · rename_i hc
      refine cond_split (fun h1 => ?_) (fun h1 => rfl)
      refine cond_split (fun h2 => ?_) (fun h2 => rfl)
      rw [and_iff, leI_iff, leI_iff] at h1 h2
      exfalso; omega
  · rw [cond_ne (by omega)]
    refine cond_split (fun h0 => ?_) (fun h0 => ?_)
    · rw [eqI_iff] at h0
      rw [if_pos h0, if_neg hz]
      split
      · rename_i hc
        rw [cond_eq hc.1, cond_eq hc.2]
      · rename_i hc
        repeat' (refine cond_split (fun h => ?_) (fun h => ?_) <;> (try simp only [leI_iff, ltI_iff, eqI_iff, eqS_iff, leI_false, ltI_false, eqI_false, eqS_false] at h))
        all_goals first | rfl | (exfalso; omega)
    · rw [eqI_false] at h0
      rw [if_neg h0]
end Go.SX.T52

/-
Chapter 52, plain: type graphs: node types, edge types, the whole, by the program and by the specification.
-/
set_option linter.unusedVariables false
set_option linter.unusedSimpArgs false
set_option linter.unusedSectionVars false
namespace Go.SX.T52
open Go.SX

/-! ### Inherited attributes -/
def OkN (n : Nd) : Prop := Short n.name ∧ n.attrs.length ≤ 1000 ∧ ∀ a, a ∈ n.attrs → OkA a
def OkT (ns : List Nd) (es : List Ed) : Prop := ns.length ≤ 1000 ∧ es.length ≤ 1000 ∧ (∀ n, n ∈ ns → OkN n) ∧ ∀ e, e ∈ es → Short e.name
def Par (ns : List Nd) (m : Nat) : Prop := ∀ j, j < m → (ns.getD j default).parent < j
def attrsN (ns : List Nd) : Nat → Nat → List At
  | 0, _ => []
  | k + 1, a => (bif leI 0 (ns.getD a default).parent then attrsN ns k (ns.getD a default).parent.toNat else []) ++ (ns.getD a default).attrs
theorem Par.lt {ns : List Nd} {m a : Nat} (h : Par ns m) (ha : a < m) (hp : leI 0 (ns.getD a default).parent = true) : (ns.getD a default).parent.toNat < a ∧ (((ns.getD a default).parent.toNat : Nat) : Int) = (ns.getD a default).parent := by
  rw [leI_iff] at hp
  have := h a ha
  omega
theorem attrsN_ok {ns : List Nd} (hn : ∀ n, n ∈ ns → OkN n) {m : Nat} (hm : m ≤ ns.length) (hp : Par ns m) : ∀ (k a : Nat), a < k → a < m → (attrsN ns k a).length ≤ 1000 * k ∧ ∀ x, x ∈ attrsN ns k a → OkA x
  | 0, a, h, _ => by omega
  | k + 1, a, h, ha => by
    have ho := hn _ (getD_mem (show a < ns.length by omega))
    unfold attrsN
    cases hq : leI 0 (ns.getD a default).parent
    · simp only [go_sem, List.nil_append]
      exact ⟨by have := ho.2.1; omega, ho.2.2⟩
    · obtain ⟨h1, h2⟩ := hp.lt ha hq
      obtain ⟨i1, i2⟩ := attrsN_ok hn hm hp k (ns.getD a default).parent.toNat (by omega) (by omega)
      simp only [go_sem, List.length_append, List.mem_append]
      exact ⟨by have := ho.2.1; omega, fun x hx => hx.elim (i2 x) (ho.2.2 x)⟩
theorem attrsN_own {ns : List Nd} {k a : Nat} (h : 0 < k) : (ns.getD a default).attrs.length ≤ (attrsN ns k a).length := by
  cases k with
  | zero => omega
  | succ k => unfold attrsN; simp only [List.length_append]; omega
theorem e2900 {ns : List Nd} (hl : ns.length ≤ 1000) (hn : ∀ n, n ∈ ns → OkN n) {m : Nat} (hm : m ≤ ns.length) (hp : Par ns m) (x : D) : ∀ (k a : Nat), a < k → k ≤ 1001 → a < m → ev 2900 [ndsD ns, x, .int a] = some [atsD (attrsN ns k a)]
  | 0, a, h, _, _ => by omega
  | k + 1, a, h, hk, ha => by
    have ho := hn _ (getD_mem (show a < ns.length by omega))
    have h3 := ho.2.1
    have hin : (leI 0 a && ltI a ns.length) = true := by rw [and_iff, leI_iff, ltI_iff]; omega
    have hin' : leI ((ns.getD a default).attrs.length) 1073741824 = true := by rw [leI_iff]; omega
    unfold attrsN
    refine ev_by u2900 ?_
    simp only [t2900, go_sem, List.length_map, idx_map _ _ a (show a < ns.length by omega), hin, hin']
    cases hq : leI 0 (ns.getD a default).parent
    · simp only [go_sem, List.nil_append]
    · obtain ⟨h1, h2⟩ := hp.lt ha hq
      have ih := e2900 hl hn hm hp x k _ (show (ns.getD a default).parent.toNat < k by omega) (by omega) (by omega)
      have hb := (attrsN_ok hn hm hp k _ (show (ns.getD a default).parent.toNat < k by omega) (by omega)).1
      rw [h2] at ih
      simp only [go_sem, ih, List.length_map, ← List.map_append]
      rw [cond_le (by omega)]
theorem e9100n (ns x : D) (p : Int) (h : p < 0) : ev 9100 [ns, x, .int p] = some [.list []] := by
  refine ev_by u9100 ?_
  simp only [t9100, go_sem]
  rw [cond_lt h]
theorem e9100 {ns : List Nd} (hl : ns.length ≤ 1000) (hn : ∀ n, n ∈ ns → OkN n) {m : Nat} (hm : m ≤ ns.length) (hp : Par ns m) (x : D) : ∀ (k a : Nat), a < k → k ≤ 1001 → a < m → ev 9100 [ndsD ns, x, .int a] = some [atsD (attrsN ns k a)]
  | 0, a, h, _, _ => by omega
  | k + 1, a, h, hk, ha => by
    have ho := hn _ (getD_mem (show a < ns.length by omega))
    have h3 := ho.2.1
    have hin : (leI 0 a && ltI a ns.length) = true := by rw [and_iff, leI_iff, ltI_iff]; omega
    have hin' : leI ((ns.getD a default).attrs.length) 1073741824 = true := by rw [leI_iff]; omega
    have hneg : ltI (a : Int) 0 = false := by rw [ltI_false]; omega
    unfold attrsN
    cases hq : leI 0 (ns.getD a default).parent
    · have hc := e9100n (ndsD ns) x (ns.getD a default).parent (by rw [leI_false] at hq; exact hq)
      refine ev_by u9100 ?_
      simp only [t9100, go_sem, List.length_map, idx_map _ _ a (show a < ns.length by omega), hin, hin', hneg, hc, List.length_nil]
      rw [cond_le (by omega), cond_le (by omega)]
    · obtain ⟨h1, h2⟩ := hp.lt ha hq
      have ih := e9100 hl hn hm hp x k _ (show (ns.getD a default).parent.toNat < k by omega) (by omega) (by omega)
      have hb := (attrsN_ok hn hm hp k _ (show (ns.getD a default).parent.toNat < k by omega) (by omega)).1
      rw [h2] at ih
      refine ev_by u9100 ?_
      simp only [t9100, go_sem, List.length_map, idx_map _ _ a (show a < ns.length by omega), hin, hin', hneg, ih, ← List.map_append]
      rw [cond_le (by omega), cond_le (by omega)]

/-! ### Node types -/
def nodeDup (ns : List Nd) (i : Nat) : Bool := anyK (fun j => eqS (ns.getD j default).name (ns.getD i default).name) i 0
def nodeErr (ns : List Nd) (i : Nat) : Int := bif isName (ns.getD i default).name then (bif nodeDup ns i then 5 else
    (if (ns.getD i default).parent < -1 ∨ (i : Int) ≤ (ns.getD i default).parent then 6 else
      (if 4 < (ns.getD i default).attrs.length then 3 else (if 8 < (attrsN ns (i + 1) i).length then 3 else
        scan (attrErr (attrsN ns (i + 1) i)) ((attrsN ns (i + 1) i).length - ((attrsN ns (i + 1) i).length - (ns.getD i default).attrs.length)) ((attrsN ns (i + 1) i).length - (ns.getD i default).attrs.length))))) else 2
theorem e2800 (s : ByteArray) (a b c : D) (t : ByteArray) (e f g : D) : ev 2800 [.str s, a, b, c, .str t, e, f, g] = some [.bool (eqS s t)] := by
  refine ev_by u2800 ?_
  simp only [t2800, go_sem]
theorem e2701 (l : List Nd) (hl : l.length ≤ 1000) (s : ByteArray) (a b c x : D) : ∀ i, i ≤ l.length → ev 2701 [ndsD l, .str s, a, b, c, x, .int l.length, .int i] = some [.int (findK (fun j => eqS (l.getD j default).name s) (l.length - i) i)] := by
  refine down ?_ fun i hi ih => ?_
  · refine ev_by u2701 ?_
    simp only [t2701, go_sem, findK_end, ltI_irr]
  · have hin : (leI 0 i && ltI i l.length) = true := by rw [and_iff, leI_iff, ltI_iff]; omega
    refine ev_by u2701 ?_
    simp only [t2701, go_sem, List.length_map, idx_map _ _ _ hi, hin, e2800, wrapS i (by omega), ih]
    rw [findK_step _ hi, cond_lt (by omega)]
    cases eqS (l.getD i default).name s <;> rfl
theorem e2600 (l : List Nd) (hl : l.length ≤ 1000) (s : ByteArray) (a b c : D) : ev 2600 [ndsD l, .str s, a, b, c] = some [.bool (anyK (fun j => eqS (l.getD j default).name s) l.length 0)] := by
  have h : ev 2700 [ndsD l, .str s, a, b, c] = some [.int (findK (fun j => eqS (l.getD j default).name s) l.length 0)] := by
    refine ev_by u2700 ?_
    simp only [t2700, go_sem, List.length_map]
    exact e2701 l hl s a b c _ 0 (by omega)
  refine ev_by u2600 ?_
  simp only [t2600, go_sem, h, leI_find]
theorem e802 (all : List At) (h : ∀ a, a ∈ all → OkA a) (hl : all.length ≤ 1000) (a b c d x y z w : D) : ∀ k, k ≤ all.length → ev 802 [a, b, c, d, atsD all, .int k, x, y, z, w] = some [.int (scan (attrErr all) (all.length - k) k)] := by
  refine down ?_ fun k hk ih => ?_
  · refine ev_by u802 ?_
    simp only [t802, go_sem, List.length_map, scan_end, ltI_irr]
  · have hin : (leI 0 k && ltI k all.length) = true := by rw [and_iff, leI_iff, ltI_iff]; omega
    refine ev_by u802 ?_
    simp only [t802, go_sem, List.length_map, idx_map _ _ _ hk, take_map', hin, e3000 all h hl k hk, wrapS k (by omega), ih]
    rw [scan_step _ hk, cond_lt (by omega), cond_le (by omega), cond_le (by omega)]
    refine cond_split (fun h0 => ?_) (fun h0 => ?_)
    · rw [eqI_iff] at h0; rw [if_pos h0]
    · rw [eqI_false] at h0; rw [if_neg h0]
theorem e800 {ns : List Nd} {es : List Ed} (ht : OkT ns es) {i : Nat} (hi : i < ns.length) (hp : Par ns i) (x : D) : ev 800 [ndsD ns, x, .int i] = some [.int (nodeErr ns i)] := by
  obtain ⟨hl, _, hn, _⟩ := ht
  have ho := hn _ (getD_mem hi)
  have hin : (leI 0 i && ltI i ns.length) = true := by rw [and_iff, leI_iff, ltI_iff]; omega
  have h26 := e2600 (ns.take i) (by rw [List.length_take]; omega) (ns.getD i default).name (.int (ns.getD i default).parent) (.bool (ns.getD i default).abs) (atsD (ns.getD i default).attrs)
  rw [length_take' (Nat.le_of_lt hi), anyK_congr (q := fun j => eqS (ns.getD j default).name (ns.getD i default).name) i 0 (fun j _ hj => by rw [getD_take (by omega)])] at h26
  refine ev_by u800 ?_
  simp only [t800, go_sem, List.length_map, idx_map _ _ _ hi, take_map', hin, e900 _ ho.1, h26]
  unfold nodeErr nodeDup
  cases isName (ns.getD i default).name
  · rfl
  · simp only [go_sem]
    rw [cond_le (by omega), cond_le (by omega)]
    generalize hq : anyK _ i 0 = q
    cases q
    · simp only [go_sem]
      by_cases h1 : (ns.getD i default).parent < -1
      · rw [cond_lt h1, if_pos (.inl h1)]
      · rw [cond_nlt (by omega)]
        by_cases h2 : (i : Int) ≤ (ns.getD i default).parent
        · rw [cond_le h2, if_pos (.inr h2)]
        · rw [cond_nle (by omega), if_neg (by omega)]
          by_cases h3 : 4 < (ns.getD i default).attrs.length
          · rw [cond_lt (by omega), if_pos h3]
          · rw [cond_nlt (by omega), if_neg h3]
            have hp' : Par ns (i + 1) := fun j hj => by
              by_cases hji : j = i
              · rw [hji]; omega
              · exact hp j (by omega)
            have h29 := e2900 hl hn (m := i + 1) (by omega) hp' x (i + 1) i (by omega) (by omega) (by omega)
            obtain ⟨hb, hok⟩ := attrsN_ok hn (m := i + 1) (by omega) hp' (i + 1) i (by omega) (by omega)
            have hown := attrsN_own (ns := ns) (k := i + 1) (a := i) (by omega)
            generalize attrsN ns (i + 1) i = all at *
            simp only [h29, go_sem, List.length_map]
            by_cases h4 : 8 < all.length
            · rw [cond_lt (by omega), if_pos h4]
            · rw [cond_nlt (by omega), if_neg h4, nowrap (by omega) (by omega), show ((all.length : Int) - ((ns.getD i default).attrs.length : Int)) = ((all.length - (ns.getD i default).attrs.length : Nat) : Int) by omega]
              exact e802 all hok (by omega) _ _ _ _ _ _ _ _ _ (by omega)
    · rfl

/-! ### The same by the specification -/
theorem e8005 (all : List At) (h : ∀ a, a ∈ all → OkA a) (hl : all.length ≤ 1000) (a b c d e x y z w : D) (k : Nat) (hk : k < all.length) : ∀ j, j ≤ k → ev 8005 [a, b, c, d, e, .int k, .int j, x, y, z, w, atsD all] =
    bif anyK (fun j => eqS (all.getD j default).name (all.getD k default).name) (k - j) j then some [.int 5] else
      (if attr1 (all.getD k default) = 0 then ev 8003 [a, b, c, d, e, .int (k + 1 : Nat), x, y, z, w, atsD all] else some [.int (attr1 (all.getD k default))]) := by
  have hin : (leI 0 k && ltI k all.length) = true := by rw [and_iff, leI_iff, ltI_iff]; omega
  refine down ?_ fun j hj ih => ?_
  · rw [ev_eq u8005 rfl]
    simp only [t8005, go_sem, List.length_map, idx_map _ _ _ hk, hin, ltI_irr, anyK_end, e9200 _ (h _ (getD_mem hk)), wrapS k (by omega)]
    split
    · rename_i h0; rw [cond_eq h0]
    · rename_i h0; rw [cond_ne h0]
  · have hjn : (leI 0 j && ltI j all.length) = true := by rw [and_iff, leI_iff, ltI_iff]; omega
    rw [ev_eq u8005 rfl]
    simp only [t8005, go_sem, List.length_map, idx_map _ _ _ hk, idx_map _ _ j (show j < all.length by omega), hin, hjn, wrapS j (by omega), ih]
    rw [anyK_step _ hj, cond_lt (by omega)]
    cases eqS (all.getD j default).name (all.getD k default).name <;> rfl
theorem e8003 (all : List At) (h : ∀ a, a ∈ all → OkA a) (hl : all.length ≤ 1000) (a b c d e x y z w : D) : ∀ k, k ≤ all.length → ev 8003 [a, b, c, d, e, .int k, x, y, z, w, atsD all] = some [.int (scan (attrErr all) (all.length - k) k)] := by
  refine down ?_ fun k hk ih => ?_
  · refine ev_by u8003 ?_
    simp only [t8003, go_sem, List.length_map, scan_end, ltI_irr]
  · have hin : (leI 0 k && ltI k all.length) = true := by rw [and_iff, leI_iff, ltI_iff]; omega
    have h5 := e8005 all h hl a b c d e x y z w k hk 0 (by omega)
    simp only [Nat.sub_zero, Int.ofNat_zero] at h5
    refine ev_by u8003 ?_
    simp only [t8003, go_sem, List.length_map, idx_map _ _ _ hk, hin, e8100 _ (h _ (getD_mem hk)).1]
    rw [scan_step _ hk, cond_lt (by omega)]
    have hae : attrErr all k = bif isName (all.getD k default).name then (bif anyK (fun j => eqS (all.getD j default).name (all.getD k default).name) k 0 then 5 else attr1 (all.getD k default)) else 2 := rfl
    rw [hae]
    cases isName (all.getD k default).name
    · rfl
    · simp only [go_sem]
      refine h5.trans ?_
      rw [ih]
      cases anyK (fun j => eqS (all.getD j default).name (all.getD k default).name) k 0
      · simp only [go_sem]
        split <;> rfl
      · rfl
theorem e8001 {ns : List Nd} (hl : ns.length ≤ 1000) {i : Nat} (hi : i < ns.length) (x y z w v : D) : ∀ k, k ≤ i → ev 8001 [ndsD ns, x, .int i, y, .int k, .str (ns.getD i default).name, z, w, v] =
    bif anyK (fun j => eqS (ns.getD j default).name (ns.getD i default).name) (i - k) k then some [.int 5] else ev 8001 [ndsD ns, x, .int i, y, .int i, .str (ns.getD i default).name, z, w, v] := by
  refine down ?_ fun k hk ih => ?_
  · rw [anyK_end]; rfl
  · have hkn : (leI 0 k && ltI k ns.length) = true := by rw [and_iff, leI_iff, ltI_iff]; omega
    rw [ev_eq u8001 rfl]
    simp only [t8001, go_sem, List.length_map, idx_map _ _ k (show k < ns.length by omega), hkn, wrapS k (by omega), ih]
    rw [anyK_step _ hk, cond_lt (by omega)]
    cases eqS (ns.getD k default).name (ns.getD i default).name <;> rfl
theorem e8000 {ns : List Nd} {es : List Ed} (ht : OkT ns es) {i : Nat} (hi : i < ns.length) (hp : Par ns i) (x : D) : ev 8000 [ndsD ns, x, .int i] = some [.int (nodeErr ns i)] := by
  obtain ⟨hl, _, hn, _⟩ := ht
  have ho := hn _ (getD_mem hi)
  have hin : (leI 0 i && ltI i ns.length) = true := by rw [and_iff, leI_iff, ltI_iff]; omega
  have h1 := e8001 hl hi x (.int 0) (.int (ns.getD i default).parent) (.bool (ns.getD i default).abs) (atsD (ns.getD i default).attrs) 0 (by omega)
  simp only [Nat.sub_zero, Int.ofNat_zero] at h1
  refine ev_by u8000 ?_
  simp only [t8000, go_sem, List.length_map, idx_map _ _ _ hi, hin, e8100 _ ho.1]
  unfold nodeErr nodeDup
  cases isName (ns.getD i default).name
  · rfl
  · simp only [go_sem]
    refine h1.trans ?_
    generalize hq : anyK _ i 0 = q
    cases q
    · simp only [go_sem]
      refine ev_by u8001 ?_
      simp only [t8001, go_sem, ltI_irr, e9000, nowrap (n := (i : Int) - 1) (by omega) (by omega)]
      by_cases h2 : (ns.getD i default).parent < -1 ∨ (i : Int) ≤ (ns.getD i default).parent
      · rw [if_pos h2, cond_neg (by rw [Bool.eq_false_iff]; simp only [ne_eq, and_iff, leI_iff]; omega)]
      · rw [if_neg h2, cond_pos (by simp only [and_iff, leI_iff]; omega)]
        have hp' : Par ns (i + 1) := fun j hj => by
          by_cases hji : j = i
          · rw [hji]; omega
          · exact hp j (by omega)
        have h29 := e9100 hl hn (m := i + 1) (by omega) hp' x (i + 1) i (by omega) (by omega) (by omega)
        obtain ⟨hb, hok⟩ := attrsN_ok hn (m := i + 1) (by omega) hp' (i + 1) i (by omega) (by omega)
        have hown := attrsN_own (ns := ns) (k := i + 1) (a := i) (by omega)
        generalize attrsN ns (i + 1) i = all at *
        simp only [h29, go_sem, List.length_map]
        by_cases h3 : 4 < (ns.getD i default).attrs.length
        · rw [cond_lt (by omega), if_pos h3]
        · rw [cond_nlt (by omega), if_neg h3]
          by_cases h4 : 8 < all.length
          · rw [cond_lt (by omega), if_pos h4]
          · rw [cond_nlt (by omega), if_neg h4, nowrap (by omega) (by omega), show ((all.length : Int) - ((ns.getD i default).attrs.length : Int)) = ((all.length - (ns.getD i default).attrs.length : Nat) : Int) by omega]
            exact e8003 all hok (by omega) _ _ _ _ _ _ _ _ _ _ (by omega)
    · rfl
/-- A node type without an error has an earlier parent, or none. -/
theorem nodeErr_parent {ns : List Nd} {i : Nat} (h : nodeErr ns i = 0) : -1 ≤ (ns.getD i default).parent ∧ (ns.getD i default).parent < i := by
  unfold nodeErr at h
  revert h
  cases isName (ns.getD i default).name
  · intro h; cases h
  · cases nodeDup ns i
    · simp only [go_sem]
      intro h
      split at h
      · cases h
      · omega
    · intro h; cases h

/-! ### Edge types -/
def boundB (lo hi : Int) : Bool := (leI 0 lo && leI lo 40) && (eqI hi (-1) || (leI lo hi && leI hi 40))
def inB (n : Nat) (p : Int) : Bool := leI 0 p && ltI p n
def edgeDup (es : List Ed) (i : Nat) : Bool := anyK (fun j => eqS (es.getD j default).name (es.getD i default).name) i 0
def edgeErr (ns : List Nd) (es : List Ed) (i : Nat) : Int := bif isName (es.getD i default).name then (bif edgeDup es i then 5 else
    bif (inB ns.length (es.getD i default).src && inB ns.length (es.getD i default).dst) && (boundB (es.getD i default).ol (es.getD i default).oh && boundB (es.getD i default).il (es.getD i default).ih) then 0 else 6) else 2
theorem e3800 (s : ByteArray) (a b c d e f : D) (t : ByteArray) (g h i j k l : D) : ev 3800 [.str s, a, b, c, d, e, f, .str t, g, h, i, j, k, l] = some [.bool (eqS s t)] := by
  refine ev_by u3800 ?_
  simp only [t3800, go_sem]
theorem e3701 (l : List Ed) (hl : l.length ≤ 1000) (s : ByteArray) (a b c d e f x : D) : ∀ i, i ≤ l.length → ev 3701 [edsD l, .str s, a, b, c, d, e, f, x, .int l.length, .int i] = some [.int (findK (fun j => eqS (l.getD j default).name s) (l.length - i) i)] := by
  refine down ?_ fun i hi ih => ?_
  · refine ev_by u3701 ?_
    simp only [t3701, go_sem, findK_end, ltI_irr]
  · have hin : (leI 0 i && ltI i l.length) = true := by rw [and_iff, leI_iff, ltI_iff]; omega
    refine ev_by u3701 ?_
    simp only [t3701, go_sem, List.length_map, idx_map _ _ _ hi, hin, e3800, wrapS i (by omega), ih]
    rw [findK_step _ hi, cond_lt (by omega)]
    cases eqS (l.getD i default).name s <;> rfl
theorem e3600 (l : List Ed) (hl : l.length ≤ 1000) (s : ByteArray) (a b c d e f : D) : ev 3600 [edsD l, .str s, a, b, c, d, e, f] = some [.bool (anyK (fun j => eqS (l.getD j default).name s) l.length 0)] := by
  have h : ev 3700 [edsD l, .str s, a, b, c, d, e, f] = some [.int (findK (fun j => eqS (l.getD j default).name s) l.length 0)] := by
    refine ev_by u3700 ?_
    simp only [t3700, go_sem, List.length_map]
    exact e3701 l hl s a b c d e f _ 0 (by omega)
  refine ev_by u3600 ?_
  simp only [t3600, go_sem, h, leI_find]
theorem e3900 (p : Int) (ns : List Nd) (x : D) : ev 3900 [.int p, ndsD ns, x] = some [.bool (inB ns.length p)] := by
  refine ev_by u3900 ?_
  simp only [t3900, go_sem, List.length_map, inB]
  cases leI 0 p <;> rfl
theorem e4000 (lo hi : Int) : ev 4000 [.int lo, .int hi] = some [.bool (boundB lo hi)] := by
  refine ev_by u4000 ?_
  simp only [t4000, go_sem, boundB]
  cases leI 0 lo <;> cases leI lo 40 <;> cases eqI hi (-1) <;> cases leI lo hi <;> cases leI hi 40 <;> rfl
theorem e9500 (lo hi : Int) : ev 9500 [.int lo, .int hi] = some [.bool (boundB lo hi)] := by
  refine ev_by u9500 ?_
  simp only [t9500, go_sem, boundB, e9000]
  cases leI 0 lo <;> cases leI lo 40 <;> cases eqI hi (-1) <;> cases leI lo hi <;> cases leI hi 40 <;> rfl
theorem e3500 {ns : List Nd} {es : List Ed} (ht : OkT ns es) {i : Nat} (hi : i < es.length) : ev 3500 [ndsD ns, edsD es, .int i] = some [.int (edgeErr ns es i)] := by
  obtain ⟨_, hl, _, hn⟩ := ht
  have ho := hn _ (getD_mem hi)
  have hin : (leI 0 i && ltI i es.length) = true := by rw [and_iff, leI_iff, ltI_iff]; omega
  have h26 := e3600 (es.take i) (by rw [List.length_take]; omega) (es.getD i default).name (.int (es.getD i default).src) (.int (es.getD i default).dst) (.int (es.getD i default).ol) (.int (es.getD i default).oh) (.int (es.getD i default).il) (.int (es.getD i default).ih)
  rw [length_take' (Nat.le_of_lt hi), anyK_congr (q := fun j => eqS (es.getD j default).name (es.getD i default).name) i 0 (fun j _ hj => by rw [getD_take (by omega)])] at h26
  refine ev_by u3500 ?_
  simp only [t3500, go_sem, List.length_map, idx_map _ _ _ hi, take_map', hin, e900 _ ho, h26, e3900, e4000]
  unfold edgeErr edgeDup
  cases isName (es.getD i default).name
  · rfl
  · simp only [go_sem]
    rw [cond_le (by omega), cond_le (by omega)]
    generalize anyK _ i 0 = q
    cases q <;> cases inB ns.length (es.getD i default).src <;> cases inB ns.length (es.getD i default).dst <;> cases boundB (es.getD i default).ol (es.getD i default).oh <;> cases boundB (es.getD i default).il (es.getD i default).ih <;> rfl
theorem e9401 {es : List Ed} (hl : es.length ≤ 1000) {i : Nat} (hi : i < es.length) (x y a b c d e f : D) : ∀ k, k ≤ i → ev 9401 [x, edsD es, .int i, y, .int k, .str (es.getD i default).name, a, b, c, d, e, f] =
    bif anyK (fun j => eqS (es.getD j default).name (es.getD i default).name) (i - k) k then some [.int 5] else ev 9401 [x, edsD es, .int i, y, .int i, .str (es.getD i default).name, a, b, c, d, e, f] := by
  refine down ?_ fun k hk ih => ?_
  · rw [anyK_end]; rfl
  · have hkn : (leI 0 k && ltI k es.length) = true := by rw [and_iff, leI_iff, ltI_iff]; omega
    rw [ev_eq u9401 rfl]
    simp only [t9401, go_sem, List.length_map, idx_map _ _ k (show k < es.length by omega), hkn, wrapS k (by omega), ih]
    rw [anyK_step _ hk, cond_lt (by omega)]
    cases eqS (es.getD k default).name (es.getD i default).name <;> rfl
theorem leI_pred (p : Int) (n : Nat) : (leI 0 p && leI p ((n : Int) - 1)) = inB n p := by
  unfold inB
  rw [Bool.eq_iff_iff]
  simp only [and_iff, leI_iff, ltI_iff]
  omega
theorem e9400 {ns : List Nd} {es : List Ed} (ht : OkT ns es) {i : Nat} (hi : i < es.length) : ev 9400 [ndsD ns, edsD es, .int i] = some [.int (edgeErr ns es i)] := by
  obtain ⟨hln, hl, _, hn⟩ := ht
  have ho := hn _ (getD_mem hi)
  have hin : (leI 0 i && ltI i es.length) = true := by rw [and_iff, leI_iff, ltI_iff]; omega
  have h1 := e9401 hl hi (ndsD ns) (.int 0) (.int (es.getD i default).src) (.int (es.getD i default).dst) (.int (es.getD i default).ol) (.int (es.getD i default).oh) (.int (es.getD i default).il) (.int (es.getD i default).ih) 0 (by omega)
  simp only [Nat.sub_zero, Int.ofNat_zero] at h1
  refine ev_by u9400 ?_
  simp only [t9400, go_sem, List.length_map, idx_map _ _ _ hi, hin, e8100 _ ho]
  unfold edgeErr edgeDup
  cases isName (es.getD i default).name
  · rfl
  · simp only [go_sem]
    refine h1.trans ?_
    generalize anyK _ i 0 = q
    cases q
    · simp only [go_sem]
      refine ev_by u9401 ?_
      simp only [t9401, go_sem, ltI_irr, List.length_map, e9000, e9500, nowrap (n := (ns.length : Int) - 1) (by omega) (by omega), leI_pred]
      cases inB ns.length (es.getD i default).src <;> cases inB ns.length (es.getD i default).dst <;> cases boundB (es.getD i default).ol (es.getD i default).oh <;> cases boundB (es.getD i default).il (es.getD i default).ih <;> rfl
    · rfl

/-! ### Type graphs -/
def thenE (a b : Int) : Int := if a = 0 then b else a
def typesErr (ns : List Nd) (es : List Ed) : Int := if ns.length = 0 then 7 else if 12 < ns.length then 3 else if 20 < es.length then 3 else thenE (scan (nodeErr ns) ns.length 0) (scan (edgeErr ns es) es.length 0)
def Says (l : Nat) (ds : List D) (e : Int) : Prop := ∃ s : ByteArray, ev l ds = some [.str s, .int e]
theorem e704 {ns : List Nd} {es : List Ed} (ht : OkT ns es) (a b c d e f : D) : ∀ i, i ≤ es.length → Says 704 [a, b, c, d, e, f, edsD es, .int es.length, .int i, ndsD ns, edsD es] (scan (edgeErr ns es) (es.length - i) i) := by
  have hl := ht.2.1
  refine down ?_ fun i hi ih => ?_
  · refine ⟨⟨#[]⟩, ?_⟩
    refine ev_by u704 ?_
    simp only [t704, go_sem, scan_end, ltI_irr, toArray_nil]
  · obtain ⟨s, ih⟩ := ih
    have hin : (leI 0 i && ltI i es.length) = true := by rw [and_iff, leI_iff, ltI_iff]; omega
    by_cases h0 : edgeErr ns es i = 0
    · refine ⟨s, ?_⟩
      refine ev_by u704 ?_
      simp only [t704, go_sem, List.length_map, idx_map _ _ _ hi, hin, e3500 ht hi, wrapS i (by omega), ih]
      rw [scan_step _ hi, cond_lt (by omega), cond_eq h0, if_pos h0]
    · refine ⟨(es.getD i default).name, ?_⟩
      refine ev_by u704 ?_
      simp only [t704, go_sem, List.length_map, idx_map _ _ _ hi, hin, e3500 ht hi, wrapS i (by omega), ih]
      rw [scan_step _ hi, cond_lt (by omega), cond_ne h0, if_neg h0]
theorem e702 {ns : List Nd} {es : List Ed} (ht : OkT ns es) (a b c : D) : ∀ i, i ≤ ns.length → (∀ j, j < i → nodeErr ns j = 0) → Says 702 [ndsD ns, a, b, c, .int ns.length, .int i, ndsD ns, edsD es] (thenE (scan (nodeErr ns) (ns.length - i) i) (scan (edgeErr ns es) es.length 0)) := by
  have hl := ht.1
  refine down ?_ fun i hi ih => ?_
  · intro _
    obtain ⟨s, h⟩ := e704 ht (ndsD ns) a b c (.int ns.length) (.int ns.length) 0 (by omega)
    refine ⟨s, ?_⟩
    rw [scan_end]
    refine ev_by u702 ?_
    simp only [t702, go_sem, List.length_map, ltI_irr]
    exact h
  · intro hv
    have hin : (leI 0 i && ltI i ns.length) = true := by rw [and_iff, leI_iff, ltI_iff]; omega
    have hp : Par ns i := fun j hj => (nodeErr_parent (hv j hj)).2
    by_cases h0 : nodeErr ns i = 0
    · obtain ⟨s, ih⟩ := ih (fun j hj => by
        by_cases hji : j = i
        · rw [hji]; exact h0
        · exact hv j (by omega))
      refine ⟨s, ?_⟩
      refine ev_by u702 ?_
      simp only [t702, go_sem, List.length_map, idx_map _ _ _ hi, hin, e800 ht hi hp, wrapS i (by omega), ih]
      rw [scan_step _ hi, cond_lt (by omega), cond_eq h0, if_pos h0]
    · refine ⟨(ns.getD i default).name, ?_⟩
      refine ev_by u702 ?_
      simp only [t702, go_sem, List.length_map, idx_map _ _ _ hi, hin, e800 ht hi hp]
      rw [scan_step _ hi, cond_lt (by omega), cond_ne h0, if_neg h0]
      unfold thenE
      rw [if_neg h0]
theorem e700 {ns : List Nd} {es : List Ed} (ht : OkT ns es) : Says 700 [ndsD ns, edsD es] (typesErr ns es) := by
  have hl := ht.1
  have hl2 := ht.2.1
  obtain ⟨s, h⟩ := e702 ht (edsD es) (.str ⟨#[]⟩) (.int 0) 0 (by omega) (fun j hj => by omega)
  unfold typesErr
  split
  · refine ⟨⟨#[]⟩, ?_⟩
    refine ev_by u700 ?_
    simp only [t700, go_sem, List.length_map, toArray_nil]
    rw [cond_eq (by omega)]
  · split
    · refine ⟨⟨#[]⟩, ?_⟩
      refine ev_by u700 ?_
      simp only [t700, go_sem, List.length_map, toArray_nil]
      rw [cond_ne (by omega), cond_lt (by omega)]
    · split
      · refine ⟨⟨#[]⟩, ?_⟩
        refine ev_by u700 ?_
        simp only [t700, go_sem, List.length_map, toArray_nil]
        rw [cond_ne (by omega), cond_nlt (by omega), cond_lt (by omega)]
      · refine ⟨s, ?_⟩
        refine ev_by u700 ?_
        simp only [t700, go_sem, List.length_map, toArray_nil]
        rw [cond_ne (by omega), cond_nlt (by omega), cond_nlt (by omega)]
        exact h
theorem e7903 {ns : List Nd} {es : List Ed} (ht : OkT ns es) (a b c d e : D) : ∀ i, i ≤ es.length → Says 7903 [a, b, c, d, e, .int i, ndsD ns, edsD es] (scan (edgeErr ns es) (es.length - i) i) := by
  have hl := ht.2.1
  refine down ?_ fun i hi ih => ?_
  · refine ⟨⟨#[]⟩, ?_⟩
    refine ev_by u7903 ?_
    simp only [t7903, go_sem, List.length_map, scan_end, ltI_irr, toArray_nil]
  · obtain ⟨s, ih⟩ := ih
    have hin : (leI 0 i && ltI i es.length) = true := by rw [and_iff, leI_iff, ltI_iff]; omega
    by_cases h0 : edgeErr ns es i = 0
    · refine ⟨s, ?_⟩
      refine ev_by u7903 ?_
      simp only [t7903, go_sem, List.length_map, idx_map _ _ _ hi, hin, e9400 ht hi, wrapS i (by omega), ih]
      rw [scan_step _ hi, cond_lt (by omega), cond_eq h0, if_pos h0]
    · refine ⟨(es.getD i default).name, ?_⟩
      refine ev_by u7903 ?_
      simp only [t7903, go_sem, List.length_map, idx_map _ _ _ hi, hin, e9400 ht hi, wrapS i (by omega), ih]
      rw [scan_step _ hi, cond_lt (by omega), cond_ne h0, if_neg h0]
theorem e7901 {ns : List Nd} {es : List Ed} (ht : OkT ns es) (a b c d : D) : ∀ i, i ≤ ns.length → (∀ j, j < i → nodeErr ns j = 0) → Says 7901 [a, b, c, d, .int i, ndsD ns, edsD es] (thenE (scan (nodeErr ns) (ns.length - i) i) (scan (edgeErr ns es) es.length 0)) := by
  have hl := ht.1
  refine down ?_ fun i hi ih => ?_
  · intro _
    obtain ⟨s, h⟩ := e7903 ht a b c d (.int ns.length) 0 (by omega)
    refine ⟨s, ?_⟩
    rw [scan_end]
    refine ev_by u7901 ?_
    simp only [t7901, go_sem, List.length_map, ltI_irr]
    exact h
  · intro hv
    have hin : (leI 0 i && ltI i ns.length) = true := by rw [and_iff, leI_iff, ltI_iff]; omega
    have hp : Par ns i := fun j hj => (nodeErr_parent (hv j hj)).2
    by_cases h0 : nodeErr ns i = 0
    · obtain ⟨s, ih⟩ := ih (fun j hj => by
        by_cases hji : j = i
        · rw [hji]; exact h0
        · exact hv j (by omega))
      refine ⟨s, ?_⟩
      refine ev_by u7901 ?_
      simp only [t7901, go_sem, List.length_map, idx_map _ _ _ hi, hin, e8000 ht hi hp, wrapS i (by omega), ih]
      rw [scan_step _ hi, cond_lt (by omega), cond_eq h0, if_pos h0]
    · refine ⟨(ns.getD i default).name, ?_⟩
      refine ev_by u7901 ?_
      simp only [t7901, go_sem, List.length_map, idx_map _ _ _ hi, hin, e8000 ht hi hp]
      rw [scan_step _ hi, cond_lt (by omega), cond_ne h0, if_neg h0]
      unfold thenE
      rw [if_neg h0]
theorem e7900 {ns : List Nd} {es : List Ed} (ht : OkT ns es) : Says 7900 [ndsD ns, edsD es] (typesErr ns es) := by
  have hl := ht.1
  have hl2 := ht.2.1
  obtain ⟨s, h⟩ := e7901 ht (ndsD ns) (edsD es) (.str ⟨#[]⟩) (.int 0) 0 (by omega) (fun j hj => by omega)
  unfold typesErr
  split
  · refine ⟨⟨#[]⟩, ?_⟩
    refine ev_by u7900 ?_
    simp only [t7900, go_sem, List.length_map, toArray_nil]
    rw [cond_eq (by omega)]
  · split
    · refine ⟨⟨#[]⟩, ?_⟩
      refine ev_by u7900 ?_
      simp only [t7900, go_sem, List.length_map, toArray_nil]
      rw [cond_ne (by omega), cond_lt (by omega)]
    · split
      · refine ⟨⟨#[]⟩, ?_⟩
        refine ev_by u7900 ?_
        simp only [t7900, go_sem, List.length_map, toArray_nil]
        rw [cond_ne (by omega), cond_nlt (by omega), cond_lt (by omega)]
      · refine ⟨s, ?_⟩
        refine ev_by u7900 ?_
        simp only [t7900, go_sem, List.length_map, toArray_nil]
        rw [cond_ne (by omega), cond_nlt (by omega), cond_nlt (by omega)]
        exact h
/-- What a type graph without an error is. -/
theorem typesErr_ok {ns : List Nd} {es : List Ed} (h : typesErr ns es = 0) : 0 < ns.length ∧ ns.length ≤ 12 ∧ es.length ≤ 20 ∧ (∀ j, j < ns.length → nodeErr ns j = 0) ∧ ∀ j, j < es.length → edgeErr ns es j = 0 := by
  unfold typesErr at h
  split at h
  · cases h
  · split at h
    · cases h
    · split at h
      · cases h
      · unfold thenE at h
        split at h
        · rename_i h1
          exact ⟨by omega, by omega, by omega, fun j hj => scan_zero _ _ h1 j (by omega) (by omega), fun j hj => scan_zero _ _ h j (by omega) (by omega)⟩
        · rename_i h1; exact absurd h h1
theorem edgeErr_in {ns : List Nd} {es : List Ed} {i : Nat} (h : edgeErr ns es i = 0) : 0 ≤ (es.getD i default).src ∧ (es.getD i default).src < ns.length ∧ 0 ≤ (es.getD i default).dst ∧ (es.getD i default).dst < ns.length := by
  unfold edgeErr at h
  revert h
  cases isName (es.getD i default).name
  · intro h; cases h
  · cases edgeDup es i
    · simp only [go_sem]
      generalize hq : ((inB ns.length (es.getD i default).src && inB ns.length (es.getD i default).dst) && _) = q
      cases q
      · intro h; cases h
      · intro _
        simp only [and_iff, inB, leI_iff, ltI_iff] at hq
        omega
    · intro h; cases h
end Go.SX.T52

/-
Chapter 52, plain: small inputs, sorts, sorts exchanged.
-/
set_option linter.unusedVariables false
set_option linter.unusedSimpArgs false
set_option linter.unusedSectionVars false
namespace Go.SX.T52
open Go.SX

/-! ### Small inputs -/
structure Ge where
  ty : Int
  src : Int
  dst : Int
  deriving Inhabited
abbrev intsD (l : List Int) : D := .list (l.map D.int)
abbrev Ge.d (e : Ge) : D := .agg [.int e.ty, .int e.src, .int e.dst]
abbrev gesD (l : List Ge) : D := .list (l.map Ge.d)
abbrev valsD (l : List (List Int)) : D := .list (l.map intsD)
/-- As long as lists come. -/
abbrev Len (n : Nat) : Prop := n ≤ 1152921504606846976
def Q (l : Nat) (ds : List D) (p : Prop) : Prop := ∃ b : Bool, ev l ds = some [.bool b] ∧ (b = true → p)
theorem Q.no {l : Nat} {ds : List D} {p : Prop} (h : ev l ds = some [.bool false]) : Q l ds p := ⟨false, h, fun h => by cases h⟩
theorem Q.imp {l l' : Nat} {ds ds' : List D} {p q : Prop} (h : Q l ds p) (he : ev l' ds' = ev l ds) (hi : p → q) : Q l' ds' q := by
  obtain ⟨b, h1, h2⟩ := h
  exact ⟨b, he.trans h1, fun hb => hi (h2 hb)⟩
def FewS (l : List ByteArray) (i : Nat) : Prop := ∀ j, i ≤ j → j < l.length → (l.getD j default).size ≤ 40
def FewA (a : At) : Prop := a.name.size ≤ 40 ∧ a.names.length ≤ 25 ∧ FewS a.names 0
def FewN (n : Nd) : Prop := n.name.size ≤ 40 ∧ n.attrs.length ≤ 30 ∧ ∀ k, k < n.attrs.length → FewA (n.attrs.getD k default)
def LenA (a : At) : Prop := Len a.name.size ∧ Len a.names.length ∧ ∀ s, s ∈ a.names → Len s.size
def LenN (n : Nd) : Prop := Len n.name.size ∧ Len n.attrs.length ∧ ∀ a, a ∈ n.attrs → LenA a
def LenT (ns : List Nd) (es : List Ed) : Prop := Len ns.length ∧ Len es.length ∧ (∀ n, n ∈ ns → LenN n) ∧ ∀ e, e ∈ es → Len e.name.size
theorem e7207 {es : List Ed} (hl : Len es.length) (a b c d : D) : ∀ i, i ≤ es.length → Q 7207 [a, edsD es, b, c, d, .int i] (∀ j, i ≤ j → j < es.length → (es.getD j default).name.size ≤ 40) := by
  refine down ?_ fun i hi ih => ?_
  · refine ⟨true, ?_, fun _ j h1 h2 => by omega⟩
    refine ev_by u7207 ?_
    simp only [t7207, go_sem, List.length_map, ltI_irr]
  · have hin : (leI 0 i && ltI i es.length) = true := by rw [and_iff, leI_iff, ltI_iff]; omega
    by_cases h : (es.getD i default).name.size ≤ 40
    · refine ih.imp ?_ fun hp j h1 h2 => ?_
      · rw [ev_eq u7207 rfl]
        simp only [t7207, go_sem, List.length_map, idx_map _ _ _ hi, hin, wrapS i (by omega)]
        rw [cond_lt (by omega), cond_nlt (by omega)]
      · by_cases hji : j = i
        · rw [hji]; exact h
        · exact hp j (by omega) h2
    · refine Q.no ?_
      refine ev_by u7207 ?_
      simp only [t7207, go_sem, List.length_map, idx_map _ _ _ hi, hin]
      rw [cond_lt (by omega), cond_lt (by omega)]
theorem e7205 {l : List ByteArray} (hl : Len l.length) {a b c d e g h i : D} {P : Prop} (k : Nat) (hk : k ≤ 4611686018427387904) (K : Q 7203 [a, b, c, d, e, .int (k + 1 : Nat)] P) : ∀ j, j ≤ l.length → Q 7205 [a, b, c, d, e, .int k, .int j, g, h, i, strsD l] (P ∧ FewS l j) := by
  refine down ?_ fun j hj ih => ?_
  · refine K.imp ?_ fun hp => ⟨hp, fun q h1 h2 => by omega⟩
    rw [ev_eq u7205 rfl]
    simp only [t7205, go_sem, List.length_map, ltI_irr, wrapS k hk]
  · have hin : (leI 0 j && ltI j l.length) = true := by rw [and_iff, leI_iff, ltI_iff]; omega
    by_cases hs : (l.getD j default).size ≤ 40
    · refine ih.imp ?_ fun hp => ⟨hp.1, fun q h1 h2 => ?_⟩
      · rw [ev_eq u7205 rfl]
        simp only [t7205, go_sem, List.length_map, idx_map _ _ _ hj, hin, wrapS j (by omega)]
        rw [cond_lt (by omega), cond_nlt (by omega)]
      · by_cases hji : q = j
        · rw [hji]; exact hs
        · exact hp.2 q (by omega) h2
    · refine Q.no ?_
      refine ev_by u7205 ?_
      simp only [t7205, go_sem, List.length_map, idx_map _ _ _ hj, hin]
      rw [cond_lt (by omega), cond_lt (by omega)]
theorem e7203 {ns : List Nd} (hl : Len ns.length) (hn : ∀ n, n ∈ ns → LenN n) {es : List Ed} {b : D} (sum : Int) {i : Nat} (hi : i < ns.length) {P : Prop} (K : Q 7201 [ndsD ns, edsD es, b, .int sum, .int (i + 1 : Nat)] P) :
    ∀ k, k ≤ (ns.getD i default).attrs.length → Q 7203 [ndsD ns, edsD es, b, .int sum, .int i, .int k] (P ∧ ∀ q, k ≤ q → q < (ns.getD i default).attrs.length → FewA ((ns.getD i default).attrs.getD q default)) := by
  have ho := hn _ (getD_mem hi)
  have hal := ho.2.1
  have hin : (leI 0 i && ltI i ns.length) = true := by rw [and_iff, leI_iff, ltI_iff]; omega
  refine down ?_ fun k hk ih => ?_
  · refine K.imp ?_ fun hp => ⟨hp, fun q h1 h2 => by omega⟩
    rw [ev_eq u7203 rfl]
    simp only [t7203, go_sem, List.length_map, idx_map _ _ _ hi, hin, ltI_irr, wrapS i (by omega)]
  · have hkn : (leI 0 k && ltI k (ns.getD i default).attrs.length) = true := by rw [and_iff, leI_iff, ltI_iff]; omega
    have ha := ho.2.2 _ (getD_mem hk)
    by_cases h1 : ((ns.getD i default).attrs.getD k default).name.size ≤ 40
    · by_cases h2 : ((ns.getD i default).attrs.getD k default).names.length ≤ 25
      · refine (e7205 ha.2.1 (g := .str ((ns.getD i default).attrs.getD k default).name) (h := .int ((ns.getD i default).attrs.getD k default).low) (i := .int ((ns.getD i default).attrs.getD k default).high) k (by omega) ih 0 (by omega)).imp ?_ fun hp => ⟨hp.1.1, fun q g1 g2 => ?_⟩
        · rw [ev_eq u7203 rfl]
          simp only [t7203, go_sem, List.length_map, idx_map _ _ _ hi, idx_map _ _ _ hk, hin, hkn]
          rw [cond_lt (by omega), cond_nlt (by omega), cond_nlt (by omega)]
          rfl
        · by_cases hqk : q = k
          · rw [hqk]; exact ⟨h1, h2, hp.2⟩
          · exact hp.1.2 q (by omega) g2
      · refine Q.no ?_
        refine ev_by u7203 ?_
        simp only [t7203, go_sem, List.length_map, idx_map _ _ _ hi, idx_map _ _ _ hk, hin, hkn]
        rw [cond_lt (by omega), cond_nlt (by omega), cond_lt (by omega)]
    · refine Q.no ?_
      refine ev_by u7203 ?_
      simp only [t7203, go_sem, List.length_map, idx_map _ _ _ hi, idx_map _ _ _ hk, hin, hkn]
      rw [cond_lt (by omega), cond_lt (by omega)]
theorem e7201 {ns : List Nd} {es : List Ed} (ht : LenT ns es) {b : D} : ∀ i, i ≤ ns.length → ∀ sum : Int, 0 ≤ sum → sum ≤ 30 → Q 7201 [ndsD ns, edsD es, b, .int sum, .int i] ((∀ j, i ≤ j → j < ns.length → FewN (ns.getD j default)) ∧ ∀ j, j < es.length → (es.getD j default).name.size ≤ 40) := by
  have hl := ht.1
  refine down ?_ fun i hi ih => ?_
  · intro sum h0 h1
    refine (e7207 ht.2.1 (ndsD ns) b (.int sum) (.int ns.length) 0 (by omega)).imp ?_ fun hp => ⟨fun j g1 g2 => by omega, fun j hj => hp j (by omega) hj⟩
    rw [ev_eq u7201 rfl]
    simp only [t7201, go_sem, List.length_map, ltI_irr]
    rfl
  · intro sum h0 h1
    have ho := ht.2.2.1 _ (getD_mem hi)
    have hal := ho.2.1
    have hin : (leI 0 i && ltI i ns.length) = true := by rw [and_iff, leI_iff, ltI_iff]; omega
    by_cases h2 : sum + (ns.getD i default).attrs.length ≤ 30
    · by_cases h3 : (ns.getD i default).name.size ≤ 40
      · refine (e7203 hl ht.2.2.1 (sum + (ns.getD i default).attrs.length) hi (ih (sum + (ns.getD i default).attrs.length) (by omega) h2) 0 (by omega)).imp ?_ fun hp => ⟨fun j g1 g2 => ?_, hp.1.2⟩
        · rw [ev_eq u7201 rfl]
          simp only [t7201, go_sem, List.length_map, idx_map _ _ _ hi, hin, nowrap (n := sum + (ns.getD i default).attrs.length) (by omega) (by omega)]
          rw [cond_lt (by omega), cond_nlt (by omega), cond_nlt (by omega)]
          rfl
        · by_cases hji : j = i
          · rw [hji]; exact ⟨h3, by omega, fun k hk => hp.2 k (by omega) hk⟩
          · exact hp.1.1 j (by omega) g2
      · refine Q.no ?_
        refine ev_by u7201 ?_
        simp only [t7201, go_sem, List.length_map, idx_map _ _ _ hi, hin, nowrap (n := sum + (ns.getD i default).attrs.length) (by omega) (by omega)]
        rw [cond_lt (by omega), cond_nlt (by omega), cond_lt (by omega)]
    · refine Q.no ?_
      refine ev_by u7201 ?_
      simp only [t7201, go_sem, List.length_map, idx_map _ _ _ hi, hin, nowrap (n := sum + (ns.getD i default).attrs.length) (by omega) (by omega)]
      rw [cond_lt (by omega), cond_lt (by omega)]
theorem mem_getD {α : Type} [Inhabited α] {l : List α} {x : α} (h : x ∈ l) : ∃ i, i < l.length ∧ l.getD i default = x := by
  obtain ⟨i, hi, rfl⟩ := List.getElem_of_mem h
  exact ⟨i, hi, by rw [List.getD_eq_getElem?_getD, List.getElem?_eq_getElem hi]; rfl⟩
theorem FewN.ok {n : Nd} (h : FewN n) : OkN n := by
  refine ⟨by have := h.1; unfold Short; omega, by have := h.2.1; omega, fun a ha => ?_⟩
  obtain ⟨k, hk, rfl⟩ := mem_getD ha
  obtain ⟨g1, g2, g3⟩ := h.2.2 k hk
  refine ⟨by unfold Short; omega, by omega, fun s hs => ?_⟩
  obtain ⟨j, hj, rfl⟩ := mem_getD hs
  have := g3 j (by omega) hj
  unfold Short
  omega
theorem e7200 {ns : List Nd} {es : List Ed} (ht : LenT ns es) : Q 7200 [ndsD ns, edsD es] (ns.length ≤ 20 ∧ es.length ≤ 30 ∧ OkT ns es) := by
  by_cases h1 : ns.length ≤ 20
  · by_cases h2 : es.length ≤ 30
    · refine (e7201 ht (b := .bool false) 0 (by omega) 0 (by omega) (by omega)).imp ?_ fun hp => ⟨h1, h2, by omega, by omega, fun n hn => ?_, fun e he => ?_⟩
      · rw [ev_eq u7200 rfl]
        simp only [t7200, go_sem, List.length_map]
        rw [cond_nlt (by omega), cond_nlt (by omega)]
        rfl
      · obtain ⟨k, hk, rfl⟩ := mem_getD hn
        exact (hp.1 k (by omega) hk).ok
      · obtain ⟨k, hk, rfl⟩ := mem_getD he
        have := hp.2 k hk
        unfold Short
        omega
    · refine Q.no ?_
      refine ev_by u7200 ?_
      simp only [t7200, go_sem, List.length_map]
      rw [cond_nlt (by omega), cond_lt (by omega)]
  · refine Q.no ?_
    refine ev_by u7200 ?_
    simp only [t7200, go_sem, List.length_map]
    rw [cond_lt (by omega)]
theorem e7300 {a b : List Int} (ha : Len a.length) (hb : Len b.length) : Q 7300 [intsD a, intsD b] (a.length + b.length ≤ 50) := by
  refine ⟨leI ((a.length : Int) + b.length) 50, ?_, fun h => by rw [leI_iff] at h; omega⟩
  refine ev_by u7300 ?_
  simp only [t7300, go_sem, List.length_map, nowrap (n := (a.length : Int) + b.length) (by omega) (by omega)]
theorem e7500 (a : List Int) (b : List Ge) : Q 7500 [intsD a, gesD b] (a.length ≤ 45 ∧ b.length ≤ 90) := by
  refine ⟨leI a.length 45 && leI b.length 90, ?_, fun h => by rw [and_iff, leI_iff, leI_iff] at h; omega⟩
  refine ev_by u7500 ?_
  simp only [t7500, go_sem, List.length_map]
  cases leI a.length 45 <;> rfl
theorem e7401 {vs : List (List Int)} (hl : Len vs.length) (a b c : D) : ∀ i, i ≤ vs.length → Q 7401 [a, b, valsD vs, c, .int i] (∀ j, i ≤ j → j < vs.length → (vs.getD j default).length ≤ 12) := by
  refine down ?_ fun i hi ih => ?_
  · refine ⟨true, ?_, fun _ j h1 h2 => by omega⟩
    refine ev_by u7401 ?_
    simp only [t7401, go_sem, List.length_map, ltI_irr]
  · have hin : (leI 0 i && ltI i vs.length) = true := by rw [and_iff, leI_iff, ltI_iff]; omega
    by_cases h : (vs.getD i default).length ≤ 12
    · refine ih.imp ?_ fun hp j h1 h2 => ?_
      · rw [ev_eq u7401 rfl]
        simp only [t7401, go_sem, List.length_map, idx_map _ _ _ hi, hin, wrapS i (by omega)]
        rw [cond_lt (by omega), cond_nlt (by omega)]
      · by_cases hji : j = i
        · rw [hji]; exact h
        · exact hp j (by omega) h2
    · refine Q.no ?_
      refine ev_by u7401 ?_
      simp only [t7401, go_sem, List.length_map, idx_map _ _ _ hi, hin]
      rw [cond_lt (by omega), cond_lt (by omega)]
def FewH (gn : List Int) (ge : List Ge) (vs : List (List Int)) : Prop := gn.length ≤ 45 ∧ ge.length ≤ 90 ∧ vs.length ≤ 45 ∧ ∀ j, j < vs.length → (vs.getD j default).length ≤ 12
theorem e7400 {gn : List Int} {ge : List Ge} {vs : List (List Int)} (hv : Len vs.length) : Q 7400 [intsD gn, gesD ge, valsD vs] (FewH gn ge vs) := by
  obtain ⟨b, h1, h2⟩ := e7500 gn ge
  cases b
  · refine Q.no ?_
    refine ev_by u7400 ?_
    simp only [t7400, go_sem, h1]
  · obtain ⟨g1, g2⟩ := h2 rfl
    by_cases h3 : vs.length ≤ 45
    · refine (e7401 hv (intsD gn) (gesD ge) (.bool false) 0 (by omega)).imp ?_ fun hp => ⟨g1, g2, h3, fun j hj => hp j (by omega) hj⟩
      rw [ev_eq u7400 rfl]
      simp only [t7400, go_sem, h1, List.length_map]
      rw [cond_nlt (by omega)]
      rfl
    · refine Q.no ?_
      refine ev_by u7400 ?_
      simp only [t7400, go_sem, h1, List.length_map]
      rw [cond_lt (by omega)]
theorem e7100 {ns : List Nd} {es : List Ed} (ht : LenT ns es) {sn se : List Int} (hsn : Len sn.length) (hse : Len se.length) {gn : List Int} {ge : List Ge} {vs : List (List Int)} (hv : Len vs.length) :
    Q 7100 [ndsD ns, edsD es, intsD sn, intsD se, intsD gn, gesD ge, valsD vs] (ns.length ≤ 20 ∧ es.length ≤ 30 ∧ OkT ns es ∧ sn.length + se.length ≤ 50 ∧ FewH gn ge vs) := by
  obtain ⟨b1, h1, p1⟩ := e7200 ht
  obtain ⟨b2, h2, p2⟩ := e7300 hsn hse
  obtain ⟨b3, h3, p3⟩ := e7400 (gn := gn) (ge := ge) hv
  refine ⟨b1 && (b2 && b3), ?_, fun h => ?_⟩
  · refine ev_by u7100 ?_
    simp only [t7100, go_sem, h1, h2, h3]
    cases b1 <;> cases b2 <;> cases b3 <;> rfl
  · simp only [Bool.and_eq_true] at h
    obtain ⟨q1, q2, q3⟩ := p1 h.1
    exact ⟨q1, q2, q3, p2 h.2.1, p3 h.2.2⟩

/-! ### Sorts -/
def sortB (n : Int) : Bool := leI 1 n && leI n 3
def nodeSort (ns : List Nd) (sn : List Int) (i : Nat) : Int := bif sortB (sn.getD i default) then (bif leI 0 (ns.getD i default).parent then (bif eqI (sn.getD (ns.getD i default).parent.toNat default) (sn.getD i default) then 0 else 13) else 0) else 6
def edgeSort (es : List Ed) (sn se : List Int) (i : Nat) : Int := bif sortB (se.getD i default) then
    (bif eqI (sn.getD (es.getD i default).src.toNat default) (se.getD i default) then
      (bif eqI (sn.getD (es.getD i default).dst.toNat default) (se.getD i default) == eqI (se.getD i default) 2 then 13 else 0) else 13) else 6
def sortsErr (ns : List Nd) (es : List Ed) (sn se : List Int) : Int := thenE (typesErr ns es) (if sn.length = ns.length then (if se.length = es.length then thenE (scan (nodeSort ns sn) ns.length 0) (scan (edgeSort es sn se) es.length 0) else 20) else 20)
theorem e4100 (n : Int) : ev 4100 [.int n] = some [.bool (sortB n)] := by
  refine ev_by u4100 ?_
  simp only [t4100, go_sem, sortB]
  cases leI 1 n <;> rfl
theorem e9600 (n : Int) : ev 9600 [.int n] = some [.bool (sortB n)] := by
  refine ev_by u9600 ?_
  simp only [t9600, go_sem, sortB]
  cases leI 1 n <;> rfl
section
variable {ns : List Nd} {es : List Ed} {sn se : List Int} (ht : OkT ns es) (hv : typesErr ns es = 0) (h1 : sn.length = ns.length) (h2 : se.length = es.length)
include ht hv h1 h2
theorem e4200 {i : Nat} (hi : i < es.length) : ev 4200 [ndsD ns, edsD es, intsD sn, intsD se, .int i] = some [.int (edgeSort es sn se i)] := by
  have hl := ht.2.1
  obtain ⟨hlt, _, _, hnv, hev⟩ := typesErr_ok hv
  obtain ⟨r1, r2, r3, r4⟩ := edgeErr_in (hev i hi)
  have hin : (leI 0 i && ltI i es.length) = true := by rw [and_iff, leI_iff, ltI_iff]; omega
  have hf : (leI 0 (es.getD i default).src && ltI (es.getD i default).src ns.length) = true := by rw [and_iff, leI_iff, ltI_iff]; omega
  have hg : (leI 0 (es.getD i default).dst && ltI (es.getD i default).dst ns.length) = true := by rw [and_iff, leI_iff, ltI_iff]; omega
  refine ev_by u4200 ?_
  simp only [t4200, go_sem, List.length_map, h1, h2, idx_map _ _ _ hi, idx_map _ se i (by omega), hin, e4100, hf, hg, idx_map _ sn (es.getD i default).src.toNat (by omega), idx_map _ sn (es.getD i default).dst.toNat (by omega)]
  unfold edgeSort
  cases sortB (se.getD i default)
  · rfl
  · cases eqI (sn.getD (es.getD i default).src.toNat default) (se.getD i default)
    · rfl
    · cases eqI (sn.getD (es.getD i default).dst.toNat default) (se.getD i default) <;> cases eqI (se.getD i default) 2 <;> rfl
theorem e603 (a b c d e f g h : D) : ∀ i, i ≤ es.length → ev 603 [a, b, c, d, e, f, g, h, .int se.length, .int i, ndsD ns, edsD es, intsD sn, intsD se] = some [.int (scan (edgeSort es sn se) (es.length - i) i)] := by
  have hl := ht.2.1
  refine down ?_ fun i hi ih => ?_
  · refine ev_by u603 ?_
    simp only [t603, go_sem, h2, scan_end, ltI_irr]
  · rw [h2] at ih ⊢
    refine ev_by u603 ?_
    simp only [t603, go_sem, e4200 ht hv h1 h2 hi, wrapS i (by omega), ih]
    rw [scan_step _ hi, cond_lt (by omega)]
    by_cases h0 : edgeSort es sn se i = 0
    · rw [cond_eq h0, if_pos h0]
    · rw [cond_ne h0, if_neg h0]
theorem e601 (a b : D) : ∀ i, i ≤ ns.length → ev 601 [ndsD ns, edsD es, intsD sn, intsD se, a, b, .int sn.length, .int i] = some [.int (thenE (scan (nodeSort ns sn) (ns.length - i) i) (scan (edgeSort es sn se) es.length 0))] := by
  have hl := ht.1
  obtain ⟨hlt, _, _, hnv, hev⟩ := typesErr_ok hv
  refine down ?_ fun i hi ih => ?_
  · rw [h1, scan_end]
    refine ev_by u601 ?_
    simp only [t601, go_sem, ltI_irr, List.length_map]
    exact e603 ht hv h1 h2 _ _ _ _ _ _ _ _ 0 (by omega)
  · rw [h1] at ih ⊢
    have hin : (leI 0 i && ltI i ns.length) = true := by rw [and_iff, leI_iff, ltI_iff]; omega
    obtain ⟨p1, p2⟩ := nodeErr_parent (hnv i hi)
    rw [scan_step _ hi]
    have hns : nodeSort ns sn i = bif sortB (sn.getD i default) then (bif leI 0 (ns.getD i default).parent then (bif eqI (sn.getD (ns.getD i default).parent.toNat default) (sn.getD i default) then 0 else 13) else 0) else 6 := rfl
    refine ev_by u601 ?_
    simp only [t601, go_sem, List.length_map, h1, idx_map _ _ _ hi, idx_map _ sn i (by omega), hin, e4100, wrapS i (by omega), ih]
    rw [cond_lt (by omega), hns]
    cases sortB (sn.getD i default)
    · rfl
    · cases hp : leI 0 (ns.getD i default).parent
      · rfl
      · rw [leI_iff] at hp
        have hpn : ltI (ns.getD i default).parent ns.length = true := by rw [ltI_iff]; omega
        simp only [go_sem, hpn, Bool.true_and, idx_map _ sn (ns.getD i default).parent.toNat (by omega)]
        cases eqI (sn.getD (ns.getD i default).parent.toNat default) (sn.getD i default) <;> rfl
theorem e7803 (a b c d e : D) : ∀ i, i ≤ es.length → ev 7803 [ndsD ns, edsD es, a, b, c, d, e, .int i, intsD sn, intsD se] = some [.int (scan (edgeSort es sn se) (es.length - i) i)] := by
  have hl := ht.2.1
  obtain ⟨hlt, _, _, hnv, hev⟩ := typesErr_ok hv
  refine down ?_ fun i hi ih => ?_
  · refine ev_by u7803 ?_
    simp only [t7803, go_sem, List.length_map, scan_end, ltI_irr]
  · obtain ⟨r1, r2, r3, r4⟩ := edgeErr_in (hev i hi)
    have hin : (leI 0 i && ltI i es.length) = true := by rw [and_iff, leI_iff, ltI_iff]; omega
    have hf : (leI 0 (es.getD i default).src && ltI (es.getD i default).src ns.length) = true := by rw [and_iff, leI_iff, ltI_iff]; omega
    have hg : (leI 0 (es.getD i default).dst && ltI (es.getD i default).dst ns.length) = true := by rw [and_iff, leI_iff, ltI_iff]; omega
    refine ev_by u7803 ?_
    simp only [t7803, go_sem, List.length_map, h1, h2, idx_map _ _ _ hi, idx_map _ se i (by omega), hin, e9600, hf, hg, idx_map _ sn (es.getD i default).src.toNat (by omega), idx_map _ sn (es.getD i default).dst.toNat (by omega), wrapS i (by omega), ih]
    have hes : edgeSort es sn se i = bif sortB (se.getD i default) then
      (bif eqI (sn.getD (es.getD i default).src.toNat default) (se.getD i default) then
        (bif eqI (sn.getD (es.getD i default).dst.toNat default) (se.getD i default) == eqI (se.getD i default) 2 then 13 else 0) else 13) else 6 := rfl
    rw [scan_step _ hi, cond_lt (by omega), hes]
    cases sortB (se.getD i default)
    · rfl
    · cases eqI (sn.getD (es.getD i default).src.toNat default) (se.getD i default)
      · rfl
      · cases hq : eqI (se.getD i default) 2
        · cases eqI (sn.getD (es.getD i default).dst.toNat default) (se.getD i default) <;> rfl
        · rw [eqI_iff] at hq
          rw [hq]
          cases eqI (sn.getD (es.getD i default).dst.toNat default) 2 <;> rfl
theorem e7801 (a b c d : D) : ∀ i, i ≤ ns.length → ev 7801 [ndsD ns, edsD es, a, b, c, d, .int i, intsD sn, intsD se] = some [.int (thenE (scan (nodeSort ns sn) (ns.length - i) i) (scan (edgeSort es sn se) es.length 0))] := by
  have hl := ht.1
  obtain ⟨hlt, _, _, hnv, hev⟩ := typesErr_ok hv
  refine down ?_ fun i hi ih => ?_
  · rw [scan_end]
    refine ev_by u7801 ?_
    simp only [t7801, go_sem, ltI_irr, List.length_map]
    exact e7803 ht hv h1 h2 _ _ _ _ _ 0 (by omega)
  · have hin : (leI 0 i && ltI i ns.length) = true := by rw [and_iff, leI_iff, ltI_iff]; omega
    obtain ⟨p1, p2⟩ := nodeErr_parent (hnv i hi)
    rw [scan_step _ hi]
    have hns : nodeSort ns sn i = bif sortB (sn.getD i default) then (bif leI 0 (ns.getD i default).parent then (bif eqI (sn.getD (ns.getD i default).parent.toNat default) (sn.getD i default) then 0 else 13) else 0) else 6 := rfl
    refine ev_by u7801 ?_
    simp only [t7801, go_sem, List.length_map, h1, idx_map _ _ _ hi, idx_map _ sn i (by omega), hin, e9600, wrapS i (by omega), ih]
    rw [cond_lt (by omega), hns]
    cases sortB (sn.getD i default)
    · rfl
    · cases hp : leI 0 (ns.getD i default).parent
      · rfl
      · rw [leI_iff] at hp
        have hpn : ltI (ns.getD i default).parent ns.length = true := by rw [ltI_iff]; omega
        simp only [go_sem, hpn, Bool.true_and, idx_map _ sn (ns.getD i default).parent.toNat (by omega)]
        cases eqI (sn.getD (ns.getD i default).parent.toNat default) (sn.getD i default) <;> rfl
end
theorem e600 {ns : List Nd} {es : List Ed} {sn se : List Int} (ht : OkT ns es) : ev 600 [ndsD ns, edsD es, intsD sn, intsD se] = some [.int (sortsErr ns es sn se)] := by
  obtain ⟨s, h⟩ := e700 ht
  refine ev_by u600 ?_
  simp only [t600, go_sem, h, List.length_map]
  unfold sortsErr
  by_cases hv : typesErr ns es = 0
  · rw [cond_eq hv]
    unfold thenE
    rw [if_pos hv]
    by_cases h1 : sn.length = ns.length
    · rw [cond_eq (by omega), if_pos h1]
      by_cases h2 : se.length = es.length
      · rw [cond_eq (by omega), if_pos h2]
        exact e601 ht hv h1 h2 _ _ 0 (by omega)
      · rw [cond_ne (by omega), if_neg h2]
    · rw [cond_ne (by omega), if_neg h1]
  · rw [cond_ne hv]
    unfold thenE
    rw [if_neg hv]
theorem e7800 {ns : List Nd} {es : List Ed} {sn se : List Int} (ht : OkT ns es) : ev 7800 [ndsD ns, edsD es, intsD sn, intsD se] = some [.int (sortsErr ns es sn se)] := by
  obtain ⟨s, h⟩ := e7900 ht
  refine ev_by u7800 ?_
  simp only [t7800, go_sem, h, List.length_map]
  unfold sortsErr
  by_cases hv : typesErr ns es = 0
  · rw [cond_eq hv]
    unfold thenE
    rw [if_pos hv]
    by_cases h1 : sn.length = ns.length
    · rw [cond_eq (by omega), if_pos h1]
      by_cases h2 : se.length = es.length
      · rw [cond_eq (by omega), if_pos h2]
        exact e7801 ht hv h1 h2 _ _ _ _ 0 (by omega)
      · rw [cond_ne (by omega), if_neg h2]
    · rw [cond_ne (by omega), if_neg h1]
  · rw [cond_ne hv]
    unfold thenE
    rw [if_neg hv]
end Go.SX.T52

/-
Chapter 52, plain: sorts exchanged; arguments as they come.
-/
set_option linter.unusedVariables false
set_option linter.unusedSimpArgs false
set_option linter.unusedSectionVars false
namespace Go.SX.T52
open Go.SX

/-! ### 1 and 3 exchanged -/
def turn (l : List Int) : List Int := l.map (4 - ·)
theorem e11100 {l : List Int} (hl : l.length ≤ 1000000) : ev 11100 [intsD l] = some [intsD l] := by
  refine ev_by u11100 ?_
  unfold t11100
  have h1 : (T.ck (.o2 .le (.o1 .len (.v 0)) (.i 1073741824)) (.ret [.v 0])).go ev [intsD l] = some [intsD l] := by
    simp only [go_sem, List.length_map]
    rw [cond_le (by omega)]
  rw [go_am_eq]
  · exact h1
  · intro h0
    have h0' : l.map D.int = [] := h0
    rw [h1]
    show some [D.list []] = some [D.list (l.map D.int)]
    rw [h0']
theorem e11001 (x : D) : ∀ n : Nat, n ≤ 1000000 → ∀ i, i ≤ n → ∀ l : List Int, l.length = n → (∀ y, y ∈ l → 0 ≤ y ∧ y ≤ 4) → ev 11001 [x, .int n, .int i, intsD l] = some [intsD (l.take i ++ turn (l.drop i))] := by
  intro n hn
  refine down ?_ fun i hi ih => ?_
  · intro l hl hb
    refine ev_by u11001 ?_
    simp only [t11001, go_sem, ltI_irr]
    rw [← hl, List.drop_length, List.take_length]
    simp [turn]
  · intro l hl hb
    have hin : (leI 0 i && ltI i l.length) = true := by rw [and_iff, leI_iff, ltI_iff]; omega
    have hi' : i < l.length := by omega
    obtain ⟨b1, b2⟩ := hb _ (getD_mem hi')
    have h2 := ih (l.set i (4 - l.getD i default)) (by simp [hl]) (fun y hy => by
      rcases List.mem_or_eq_of_mem_set hy with h | h
      · exact hb y h
      · rw [h]; omega)
    refine ev_by u11001 ?_
    simp only [t11001, go_sem, List.length_map, idx_map _ _ _ hi', hin, nowrap (n := 4 - l.getD i default) (by omega) (by omega), wrapS i (by omega)]
    rw [cond_lt (by omega)]
    have e1 : (l.map D.int).set i (.int (4 - l.getD i default)) = (l.set i (4 - l.getD i default)).map D.int := by rw [List.map_set]
    rw [e1]
    refine h2.trans ?_
    congr 3
    have e2 : l.drop i = l.getD i default :: l.drop (i + 1) := by
      rw [List.drop_eq_getElem_cons hi', List.getD_eq_getElem?_getD, List.getElem?_eq_getElem hi']
      rfl
    have e3 : (l.set i (4 - l.getD i default)).take (i + 1) = l.take i ++ [4 - l.getD i default] := by
      rw [List.take_add_one, List.take_set_of_le (Nat.le_refl i), List.getElem?_set_self hi']
      rfl
    have e4 : (l.set i (4 - l.getD i default)).drop (i + 1) = l.drop (i + 1) := List.drop_set_of_lt (by omega)
    rw [e3, e4, e2]
    simp [turn]
theorem e11000 {l : List Int} (hl : l.length ≤ 1000000) (hb : ∀ y, y ∈ l → 0 ≤ y ∧ y ≤ 4) : ev 11000 [intsD l] = some [intsD (turn l)] := by
  refine ev_by u11000 ?_
  simp only [t11000, go_sem, e11100 hl, List.length_map]
  have := e11001 (intsD l) l.length hl 0 (by omega) l rfl hb
  simpa using this
theorem e11301 (l : List Int) (hl : l.length ≤ 1000000) (hb : ∀ y, y ∈ l → 0 ≤ y ∧ y ≤ 4) : ∀ i, i ≤ l.length → ∀ o : List Int, o.length = i → ev 11301 [intsD l, .int i, intsD o] = some [intsD (o ++ turn (l.drop i))] := by
  refine down ?_ fun i hi ih => ?_
  · intro o ho
    refine ev_by u11301 ?_
    simp only [t11301, go_sem, List.length_map, ltI_irr]
    simp [turn]
  · intro o ho
    have hin : (leI 0 i && ltI i l.length) = true := by rw [and_iff, leI_iff, ltI_iff]; omega
    obtain ⟨b1, b2⟩ := hb _ (getD_mem hi)
    have h2 := ih (o ++ [4 - l.getD i default]) (by simp [ho])
    refine ev_by u11301 ?_
    simp only [t11301, go_sem, List.length_map, idx_map _ _ _ hi, hin, nowrap (n := 4 - l.getD i default) (by omega) (by omega), wrapS i (by omega)]
    rw [cond_lt (by omega), cond_le (by omega)]
    have e1 : o.map D.int ++ [.int (4 - l.getD i default)] = (o ++ [4 - l.getD i default]).map D.int := by simp
    rw [e1]
    refine h2.trans ?_
    have e2 : l.drop i = l.getD i default :: l.drop (i + 1) := by
      rw [List.drop_eq_getElem_cons hi, List.getD_eq_getElem?_getD, List.getElem?_eq_getElem hi]
      rfl
    rw [e2]
    simp [turn]
theorem e11300 {l : List Int} (hl : l.length ≤ 1000000) (hb : ∀ y, y ∈ l → 0 ≤ y ∧ y ≤ 4) : ev 11300 [intsD l] = some [intsD (turn l)] := by
  refine ev_by u11300 ?_
  simp only [t11300, go_sem]
  exact e11301 l hl hb 0 (by omega) [] rfl
theorem turn_turn (l : List Int) : turn (turn l) = l := by
  unfold turn
  rw [List.map_map]
  conv => rhs; rw [← List.map_id l]
  apply List.map_congr_left
  intro x _
  show 4 - (4 - x) = id x
  simp
  omega
theorem turn_get {l : List Int} {i : Nat} (h : i < l.length) : (turn l).getD i default = 4 - l.getD i default := by
  simp [turn, List.getD_eq_getElem?_getD, h]
theorem sortB_turn (s : Int) : sortB (4 - s) = sortB s := by
  unfold sortB
  rw [Bool.eq_iff_iff]
  simp only [and_iff, leI_iff]
  omega
theorem eqI_turn (a b : Int) : eqI (4 - a) (4 - b) = eqI a b := by
  rw [Bool.eq_iff_iff, eqI_iff, eqI_iff]
  omega
theorem eqI_turn2 (a : Int) : eqI (4 - a) 2 = eqI a 2 := by
  rw [Bool.eq_iff_iff, eqI_iff, eqI_iff]
  omega
theorem sortsErr_ok {ns : List Nd} {es : List Ed} {sn se : List Int} (h : sortsErr ns es sn se = 0) : typesErr ns es = 0 ∧ sn.length = ns.length ∧ se.length = es.length ∧ (∀ j, j < ns.length → nodeSort ns sn j = 0) ∧ ∀ j, j < es.length → edgeSort es sn se j = 0 := by
  unfold sortsErr thenE at h
  split at h
  · rename_i h0
    split at h
    · rename_i h1
      split at h
      · rename_i h2
        split at h
        · rename_i h3
          exact ⟨h0, h1, h2, fun j hj => scan_zero _ _ h3 j (by omega) (by omega), fun j hj => scan_zero _ _ h j (by omega) (by omega)⟩
        · rename_i h3; exact absurd h h3
      · cases h
    · cases h
  · rename_i h0; exact absurd h h0
theorem nodeSort_in {ns : List Nd} {sn : List Int} {i : Nat} (h : nodeSort ns sn i = 0) : 1 ≤ sn.getD i default ∧ sn.getD i default ≤ 3 := by
  unfold nodeSort at h
  revert h
  cases hs : sortB (sn.getD i default)
  · intro h; cases h
  · intro _
    simp only [sortB, and_iff, leI_iff] at hs
    exact hs
theorem edgeSort_in {es : List Ed} {sn se : List Int} {i : Nat} (h : edgeSort es sn se i = 0) : 1 ≤ se.getD i default ∧ se.getD i default ≤ 3 := by
  unfold edgeSort at h
  revert h
  cases hs : sortB (se.getD i default)
  · intro h; cases h
  · intro _
    simp only [sortB, and_iff, leI_iff] at hs
    exact hs
theorem sorts_small {ns : List Nd} {es : List Ed} {sn se : List Int} (h : sortsErr ns es sn se = 0) : (∀ y, y ∈ sn → 1 ≤ y ∧ y ≤ 3) ∧ ∀ y, y ∈ se → 1 ≤ y ∧ y ≤ 3 := by
  obtain ⟨_, h1, h2, h3, h4⟩ := sortsErr_ok h
  constructor
  · intro y hy
    obtain ⟨i, hi, rfl⟩ := mem_getD hy
    exact nodeSort_in (h3 i (by omega))
  · intro y hy
    obtain ⟨i, hi, rfl⟩ := mem_getD hy
    exact edgeSort_in (h4 i (by omega))
theorem sortsErr_turn {ns : List Nd} {es : List Ed} {sn se : List Int} (h : sortsErr ns es sn se = 0) : sortsErr ns es (turn sn) (turn se) = 0 := by
  obtain ⟨h0, h1, h2, h3, h4⟩ := sortsErr_ok h
  obtain ⟨_, _, _, hn, he⟩ := typesErr_ok h0
  unfold sortsErr thenE
  have l1 : (turn sn).length = ns.length := by simp [turn, h1]
  have l2 : (turn se).length = es.length := by simp [turn, h2]
  have e1 : scan (nodeSort ns (turn sn)) ns.length 0 = scan (nodeSort ns sn) ns.length 0 := by
    refine scan_congr _ _ fun j _ hj _ => ?_
    have hj' : j < sn.length := by omega
    obtain ⟨p1, p2⟩ := nodeErr_parent (hn j (by omega))
    unfold nodeSort
    rw [turn_get hj', sortB_turn]
    cases hp : leI 0 (ns.getD j default).parent
    · rfl
    · rw [leI_iff] at hp
      rw [turn_get (by omega), eqI_turn]
  have e2 : scan (edgeSort es (turn sn) (turn se)) es.length 0 = scan (edgeSort es sn se) es.length 0 := by
    refine scan_congr _ _ fun j _ hj _ => ?_
    have hj' : j < se.length := by omega
    obtain ⟨r1, r2, r3, r4⟩ := edgeErr_in (he j (by omega))
    unfold edgeSort
    rw [turn_get hj', turn_get (by omega), turn_get (by omega), sortB_turn, eqI_turn, eqI_turn, eqI_turn2]
  rw [if_pos h0, if_pos l1, if_pos l2, e1, e2]
  unfold sortsErr thenE at h
  rw [if_pos h0, if_pos h1, if_pos h2] at h
  exact h

/-! ### Sorts are equal to themselves -/
theorem e11501 (l : List Int) (hl : Len l.length) (x : D) : ∀ i, i ≤ l.length → ev 11501 [intsD l, intsD l, x, .int i] = some [.bool true] := by
  refine down ?_ fun i hi ih => ?_
  · refine ev_by u11501 ?_
    simp only [t11501, go_sem, List.length_map, ltI_irr]
  · have hin : (leI 0 i && ltI i l.length) = true := by rw [and_iff, leI_iff, ltI_iff]; omega
    refine ev_by u11501 ?_
    simp only [t11501, go_sem, List.length_map, idx_map _ _ _ hi, hin, wrapS i (by omega), ih]
    rw [cond_lt (by omega), cond_eq rfl]
theorem e11500 (l : List Int) (hl : Len l.length) : ev 11500 [intsD l, intsD l] = some [.bool true] := by
  refine ev_by u11500 ?_
  simp only [t11500, go_sem, List.length_map]
  rw [cond_eq rfl]
  exact e11501 l hl _ 0 (by omega)
theorem e11400 (a b : List Int) (ha : Len a.length) (hb : Len b.length) : ev 11400 [intsD a, intsD b, intsD a, intsD b] = some [.bool true] := by
  refine ev_by u11400 ?_
  simp only [t11400, go_sem, e11500 a ha, e11500 b hb]

/-! ### Swap -/
def swapRes (ns : List Nd) (es : List Ed) (sn se : List Int) : List D := if sortsErr ns es sn se = 0 then [intsD (turn sn), intsD (turn se), .int 0] else [intsD [], intsD [], .int (sortsErr ns es sn se)]
theorem e10900 {ns : List Nd} {es : List Ed} {sn se : List Int} (ht : OkT ns es) : ev 10900 [ndsD ns, edsD es, intsD sn, intsD se] = some (swapRes ns es sn se) := by
  unfold swapRes
  by_cases h : sortsErr ns es sn se = 0
  · obtain ⟨b1, b2⟩ := sorts_small h
    obtain ⟨_, l1, l2, _, _⟩ := sortsErr_ok h
    have hl := ht.1
    have hl2 := ht.2.1
    refine ev_by u10900 ?_
    simp only [t10900, go_sem, e600 ht, e11000 (l := sn) (by omega) (fun y hy => by have := b1 y hy; omega), e11000 (l := se) (by omega) (fun y hy => by have := b2 y hy; omega)]
    rw [cond_eq h, if_pos h]
  · refine ev_by u10900 ?_
    simp only [t10900, go_sem, e600 ht]
    rw [cond_ne h, if_neg h]
    rfl
theorem e11200 {ns : List Nd} {es : List Ed} {sn se : List Int} (ht : OkT ns es) : ev 11200 [ndsD ns, edsD es, intsD sn, intsD se] = some (swapRes ns es sn se) := by
  unfold swapRes
  by_cases h : sortsErr ns es sn se = 0
  · obtain ⟨b1, b2⟩ := sorts_small h
    obtain ⟨_, l1, l2, _, _⟩ := sortsErr_ok h
    have hl := ht.1
    have hl2 := ht.2.1
    refine ev_by u11200 ?_
    simp only [t11200, go_sem, e7800 ht, e11300 (l := sn) (by omega) (fun y hy => by have := b1 y hy; omega), e11300 (l := se) (by omega) (fun y hy => by have := b2 y hy; omega)]
    rw [cond_eq h, if_pos h]
  · refine ev_by u11200 ?_
    simp only [t11200, go_sem, e7800 ht]
    rw [cond_ne h, if_neg h]
    rfl
theorem e10800 {ns : List Nd} {es : List Ed} {sn se : List Int} (hl : LenT ns es) (h1 : Len sn.length) (h2 : Len se.length) : ev 10800 [ndsD ns, edsD es, intsD sn, intsD se] = some [.bool true] := by
  obtain ⟨b, hb, hp⟩ := e7100 hl h1 h2 (gn := []) (ge := []) (vs := []) (by simp [Len])
  have hb' : ev 7100 [ndsD ns, edsD es, intsD sn, intsD se, .list [], .list [], .list []] = some [.bool b] := hb
  cases b
  · refine ev_by u10800 ?_
    simp only [t10800, go_sem, awake_ok, hb']
  · obtain ⟨_, _, ht, hsz, _⟩ := hp rfl
    have s1 := e10900 (sn := sn) (se := se) ht
    have s2 := e11200 (sn := sn) (se := se) ht
    by_cases h : sortsErr ns es sn se = 0
    · have e : swapRes ns es sn se = [intsD (turn sn), intsD (turn se), .int 0] := if_pos h
      have e' : swapRes ns es (turn sn) (turn se) = [intsD (turn (turn sn)), intsD (turn (turn se)), .int 0] := if_pos (sortsErr_turn h)
      have s3 := e10900 (sn := turn sn) (se := turn se) ht
      rw [e', turn_turn, turn_turn] at s3
      rw [e] at s1 s2
      have hz : eqI 0 0 = true := by decide
      refine ev_by u10800 ?_
      simp only [t10800, go_sem, awake_ok, hb', s1, s2, hz, s3, e11400 (turn sn) (turn se) (by simp [turn, Len]; omega) (by simp [turn, Len]; omega), e11400 sn se h1 h2]
    · have e : swapRes ns es sn se = [intsD [], intsD [], .int (sortsErr ns es sn se)] := if_neg h
      rw [e] at s1 s2
      have hz : eqI (sortsErr ns es sn se) (sortsErr ns es sn se) = true := by rw [eqI_iff]
      have hz' : eqI (sortsErr ns es sn se) 0 = false := by rw [eqI_false]; exact h
      refine ev_by u10800 ?_
      simp only [t10800, go_sem, awake_ok, hb', s1, s2, hz, hz', e11400 [] [] (by simp [Len]) (by simp [Len])]

/-! ### Arguments -/
theorem dec_int {ti : TypeId → TI} {k : IntKind} {d : D} (h : WK ti (.int k) d) : ∃ n, d = .int n ∧ (Lit.int k n).wf = true := by
  cases h with
  | int hw => exact ⟨_, rfl, hw⟩
theorem dec_bool {ti : TypeId → TI} {d : D} (h : WK ti .bool d) : ∃ b, d = .bool b := by
  cases h with
  | bool b => exact ⟨_, rfl⟩
theorem dec_str {ti : TypeId → TI} {d : D} (h : WK ti .str d) : ∃ s, d = .str s ∧ Len s.size := by
  cases h with
  | str s hs => exact ⟨_, rfl, Nat.le_trans hs (by decide)⟩
theorem list_of {α : Type} {f : α → D} {p : α → Prop} : ∀ {xs : List D}, (∀ x, x ∈ xs → ∃ a, x = f a ∧ p a) → ∃ l : List α, xs = l.map f ∧ ∀ a, a ∈ l → p a
  | [], _ => ⟨[], rfl, fun a h => by cases h⟩
  | x :: xs, h => by
    obtain ⟨l, h1, h2⟩ := list_of (xs := xs) fun y hy => h y (by simp [hy])
    obtain ⟨a, h3, h4⟩ := h x (by simp)
    refine ⟨a :: l, by rw [h3, h1]; rfl, fun b hb => ?_⟩
    rcases List.mem_cons.1 hb with rfl | hb
    · exact h4
    · exact h2 b hb
theorem dec_list {ti : TypeId → TI} {t e : TypeId} {agg : Bool} {lv : List K} (ht : ti t = .sl e agg lv) {d : D} (h : WK ti (.sl t) d) {α : Type} {f : α → D} {p : α → Prop}
    (hx : ∀ x, (agg = true → ∃ l, x = .agg l ∧ l.length = lv.length) → (∀ (c : Nat) k, lv[c]? = some k → WK ti k (cellD agg c x)) → ∃ a, x = f a ∧ p a) : ∃ l : List α, d = .list (l.map f) ∧ Len l.length ∧ ∀ a, a ∈ l → p a := by
  cases h with
  | sl ht' hl h1 h2 =>
    rw [ht] at ht'
    cases ht'
    obtain ⟨l, e1, e2⟩ := list_of fun x hm => hx x (h1 x hm) (h2 x hm)
    refine ⟨l, by rw [e1], ?_, e2⟩
    rw [e1, List.length_map] at hl
    exact Nat.le_trans hl (by decide)
theorem ti105 : env.ti 105 = .sl 9 false [.str] := by kernel_rfl
theorem ti95 : env.ti 95 = .sl 107 true [.str, .int .i64, .int .i64, .sl 105] := by kernel_rfl
theorem ti22 : env.ti 22 = .sl 97 true [.str, .int .i64, .bool, .sl 95] := by kernel_rfl
theorem ti23 : env.ti 23 = .sl 99 true [.str, .int .i64, .int .i64, .int .i64, .int .i64, .int .i64, .int .i64] := by kernel_rfl
theorem ti26 : env.ti 26 = .sl 3 false [.int .i64] := by kernel_rfl
theorem ti31 : env.ti 31 = .sl 73 true [.int .i64, .int .i64, .int .i64] := by kernel_rfl
theorem ti34 : env.ti 34 = .sl 26 false [.sl 26] := by kernel_rfl
abbrev In64 (n : Int) : Prop := -9223372036854775808 ≤ n ∧ n ≤ 9223372036854775807
theorem wf_in64 {n : Int} (h : (Lit.int .i64 n).wf = true) : In64 n := by
  simp [Lit.wf, IntKind.min, IntKind.max, IntKind.signed, IntKind.bits] at h
  exact h
theorem dec_ints {d : D} (h : WK env.ti (.sl 26) d) : ∃ l : List Int, d = intsD l ∧ Len l.length ∧ ∀ n, n ∈ l → In64 n :=
  dec_list ti26 h (f := D.int) (p := In64) fun x _ hc => by
    obtain ⟨n, h1, h2⟩ := dec_int (hc 0 _ rfl)
    exact ⟨n, h1, wf_in64 h2⟩
theorem dec_strs {d : D} (h : WK env.ti (.sl 105) d) : ∃ l : List ByteArray, d = strsD l ∧ Len l.length ∧ ∀ s, s ∈ l → Len s.size :=
  dec_list ti105 h (f := D.str) (p := fun s => Len s.size) fun x _ hc => dec_str (hc 0 _ rfl)
theorem dec_ats {d : D} (h : WK env.ti (.sl 95) d) : ∃ l : List At, d = atsD l ∧ Len l.length ∧ ∀ a, a ∈ l → LenA a :=
  dec_list ti95 h (f := At.d) (p := LenA) fun x hs hc => by
    obtain ⟨l, rfl, hl⟩ := hs rfl
    match l, hl with
    | [a, b, c, d], _ =>
      obtain ⟨s, rfl, h1⟩ := dec_str (hc 0 _ rfl)
      obtain ⟨m, e2, _⟩ := dec_int (hc 1 _ rfl)
      obtain ⟨n, e3, _⟩ := dec_int (hc 2 _ rfl)
      obtain ⟨u, e4, h4, h5⟩ := dec_strs (hc 3 _ rfl)
      have e2' : b = .int m := e2
      have e3' : c = .int n := e3
      have e4' : d = strsD u := e4
      exact ⟨⟨s, m, n, u⟩, by rw [e2', e3', e4'], h1, h4, h5⟩
theorem dec_nds {d : D} (h : WK env.ti (.sl 22) d) : ∃ l : List Nd, d = ndsD l ∧ Len l.length ∧ ∀ a, a ∈ l → LenN a :=
  dec_list ti22 h (f := Nd.d) (p := LenN) fun x hs hc => by
    obtain ⟨l, rfl, hl⟩ := hs rfl
    match l, hl with
    | [a, b, c, d], _ =>
      obtain ⟨s, e1, h1⟩ := dec_str (hc 0 _ rfl)
      obtain ⟨m, e2, _⟩ := dec_int (hc 1 _ rfl)
      obtain ⟨n, e3⟩ := dec_bool (hc 2 _ rfl)
      obtain ⟨u, e4, h4, h5⟩ := dec_ats (hc 3 _ rfl)
      have e1' : a = .str s := e1
      have e2' : b = .int m := e2
      have e3' : c = .bool n := e3
      have e4' : d = atsD u := e4
      exact ⟨⟨s, m, n, u⟩, by rw [e1', e2', e3', e4'], h1, h4, h5⟩
theorem dec_eds {d : D} (h : WK env.ti (.sl 23) d) : ∃ l : List Ed, d = edsD l ∧ Len l.length ∧ ∀ a, a ∈ l → Len a.name.size :=
  dec_list ti23 h (f := Ed.d) (p := fun a => Len a.name.size) fun x hs hc => by
    obtain ⟨l, rfl, hl⟩ := hs rfl
    match l, hl with
    | [a, b, c, d, e, f, g], _ =>
      obtain ⟨s, e1, h1⟩ := dec_str (hc 0 _ rfl)
      obtain ⟨n1, e2, _⟩ := dec_int (hc 1 _ rfl)
      obtain ⟨n2, e3, _⟩ := dec_int (hc 2 _ rfl)
      obtain ⟨n3, e4, _⟩ := dec_int (hc 3 _ rfl)
      obtain ⟨n4, e5, _⟩ := dec_int (hc 4 _ rfl)
      obtain ⟨n5, e6, _⟩ := dec_int (hc 5 _ rfl)
      obtain ⟨n6, e7, _⟩ := dec_int (hc 6 _ rfl)
      have e1' : a = .str s := e1
      have e2' : b = .int n1 := e2
      have e3' : c = .int n2 := e3
      have e4' : d = .int n3 := e4
      have e5' : e = .int n4 := e5
      have e6' : f = .int n5 := e6
      have e7' : g = .int n6 := e7
      exact ⟨⟨s, n1, n2, n3, n4, n5, n6⟩, by rw [e1', e2', e3', e4', e5', e6', e7'], h1⟩
theorem kinds30 : [30].flatMap (kindsOf env.ti) = [.sl 22, .sl 23, .sl 26, .sl 26] := by kernel_rfl
theorem all2_4 {R : K → D → Prop} {a b c d : K} {ν : List D} (h : All2 R [a, b, c, d] ν) : ∃ w x y z, ν = [w, x, y, z] ∧ R a w ∧ R b x ∧ R c y ∧ R d z := by
  cases h with
  | cons h1 h => cases h with
    | cons h2 h => cases h with
      | cons h3 h => cases h with
        | cons h4 h => cases h with
          | nil => exact ⟨_, _, _, _, rfl, h1, h2, h3, h4⟩
theorem tripleSwap_pure (ν : List D) (h : All2 (WK env.ti) ([30].flatMap (kindsOf env.ti)) ν) : Ev tree prim (108 * 100) ν [.bool true] := by
  rw [kinds30] at h
  obtain ⟨w, x, y, z, rfl, h1, h2, h3, h4⟩ := all2_4 h
  obtain ⟨ns, rfl, a1, a2⟩ := dec_nds h1
  obtain ⟨es, rfl, b1, b2⟩ := dec_eds h2
  obtain ⟨sn, rfl, c1, _⟩ := dec_ints h3
  obtain ⟨se, rfl, d1, _⟩ := dec_ints h4
  exact (evr_iff primDet).1 (e10800 ⟨a1, b1, a2, b2⟩ c1 d1)
end Go.SX.T52

/-
Chapter 52, plain: graphs and hosts, by the program and by the specification.
-/
set_option linter.unusedVariables false
set_option linter.unusedSimpArgs false
set_option linter.unusedSectionVars false
namespace Go.SX.T52
open Go.SX

/-! ### Graphs -/
def kindB (p : Int) : Bool := leI 0 p && leI p 99
def rightB (n : Nat) (e : Ge) : Bool := kindB e.ty && (inB n e.src && inB n e.dst)
def graphErr (gn : List Int) (ge : List Ge) : Int := if 40 < gn.length then 3 else if 80 < ge.length then 3 else
  bif anyK (fun j => !kindB (gn.getD j default)) gn.length 0 then 6 else bif anyK (fun j => !rightB gn.length (ge.getD j default)) ge.length 0 then 6 else 0
theorem e4700 (p : Int) : ev 4700 [.int p] = some [.bool (!kindB p)] := by
  have h : ev 4800 [.int p, .int 99] = some [.bool (kindB p)] := by
    refine ev_by u4800 ?_
    simp only [t4800, go_sem, kindB]
    cases leI 0 p <;> rfl
  refine ev_by u4700 ?_
  simp only [t4700, go_sem, h]
theorem e4601 (l : List Int) (hl : l.length ≤ 1000000) (x : D) : ∀ i, i ≤ l.length → ev 4601 [intsD l, x, .int l.length, .int i] = some [.int (findK (fun j => !kindB (l.getD j default)) (l.length - i) i)] := by
  refine down ?_ fun i hi ih => ?_
  · refine ev_by u4601 ?_
    simp only [t4601, go_sem, findK_end, ltI_irr]
  · have hin : (leI 0 i && ltI i l.length) = true := by rw [and_iff, leI_iff, ltI_iff]; omega
    refine ev_by u4601 ?_
    simp only [t4601, go_sem, List.length_map, idx_map _ _ _ hi, hin, e4700, wrapS i (by omega), ih]
    rw [findK_step _ hi, cond_lt (by omega)]
    cases kindB (l.getD i default) <;> rfl
theorem e4500 (l : List Int) (hl : l.length ≤ 1000000) : ev 4500 [intsD l] = some [.bool (anyK (fun j => !kindB (l.getD j default)) l.length 0)] := by
  have h : ev 4600 [intsD l] = some [.int (findK (fun j => !kindB (l.getD j default)) l.length 0)] := by
    refine ev_by u4600 ?_
    simp only [t4600, go_sem, List.length_map]
    exact e4601 l hl _ 0 (by omega)
  refine ev_by u4500 ?_
  simp only [t4500, go_sem, h, leI_find]
theorem e4800p (p : Int) (n : Nat) : ev 4800 [.int p, .int ((n : Int) - 1)] = some [.bool (inB n p)] := by
  refine ev_by u4800 ?_
  simp only [t4800, go_sem]
  rw [← leI_pred]
  cases leI 0 p <;> rfl
theorem e5100 (e : Ge) (gn : List Int) (hl : gn.length ≤ 1000000) (x : D) : ev 5100 [.int e.ty, .int e.src, .int e.dst, intsD gn, x] = some [.bool (!rightB gn.length e)] := by
  have h0 : ev 4800 [.int e.ty, .int 99] = some [.bool (kindB e.ty)] := by
    refine ev_by u4800 ?_
    simp only [t4800, go_sem, kindB]
    cases leI 0 e.ty <;> rfl
  have h : ev 5200 [.int e.ty, .int e.src, .int e.dst, .int gn.length] = some [.bool (rightB gn.length e)] := by
    refine ev_by u5200 ?_
    simp only [t5200, go_sem, h0, nowrap (n := (gn.length : Int) - 1) (by omega) (by omega), e4800p]
    unfold rightB
    cases kindB e.ty <;> cases inB gn.length e.src <;> rfl
  refine ev_by u5100 ?_
  simp only [t5100, go_sem, List.length_map, h]
theorem e5001 (l : List Ge) (hl : l.length ≤ 1000000) (gn : List Int) (hg : gn.length ≤ 1000000) (x y : D) : ∀ i, i ≤ l.length → ev 5001 [gesD l, intsD gn, x, y, .int l.length, .int i] = some [.int (findK (fun j => !rightB gn.length (l.getD j default)) (l.length - i) i)] := by
  refine down ?_ fun i hi ih => ?_
  · refine ev_by u5001 ?_
    simp only [t5001, go_sem, findK_end, ltI_irr]
  · have hin : (leI 0 i && ltI i l.length) = true := by rw [and_iff, leI_iff, ltI_iff]; omega
    refine ev_by u5001 ?_
    simp only [t5001, go_sem, List.length_map, idx_map _ _ _ hi, hin, e5100 _ gn hg, wrapS i (by omega), ih]
    rw [findK_step _ hi, cond_lt (by omega)]
    cases rightB gn.length (l.getD i default) <;> rfl
theorem e4900 (l : List Ge) (hl : l.length ≤ 1000000) (gn : List Int) (hg : gn.length ≤ 1000000) (x : D) : ev 4900 [gesD l, intsD gn, x] = some [.bool (anyK (fun j => !rightB gn.length (l.getD j default)) l.length 0)] := by
  have h : ev 5000 [gesD l, intsD gn, x] = some [.int (findK (fun j => !rightB gn.length (l.getD j default)) l.length 0)] := by
    refine ev_by u5000 ?_
    simp only [t5000, go_sem, List.length_map]
    exact e5001 l hl gn hg _ _ 0 (by omega)
  refine ev_by u4900 ?_
  simp only [t4900, go_sem, h, leI_find]
theorem e4400 (gn : List Int) (ge : List Ge) (h1 : gn.length ≤ 1000000) (h2 : ge.length ≤ 1000000) : ev 4400 [intsD gn, gesD ge] = some [.int (graphErr gn ge)] := by
  refine ev_by u4400 ?_
  simp only [t4400, go_sem, List.length_map, e4500 gn h1, e4900 ge h2 gn h1]
  unfold graphErr
  split
  · rw [cond_lt (by omega)]
  · rw [cond_nlt (by omega)]
    split
    · rw [cond_lt (by omega)]
    · rw [cond_nlt (by omega)]
      generalize anyK _ gn.length 0 = q
      generalize anyK _ ge.length 0 = q'
      cases q <;> cases q' <;> rfl
theorem e9900 (p : Int) : ev 9900 [.int p] = some [.bool (kindB p)] := by
  refine ev_by u9900 ?_
  simp only [t9900, go_sem, kindB]
  cases leI 0 p <;> rfl
theorem e10000 (e : Ge) (n : Nat) : ev 10000 [.int e.ty, .int e.src, .int e.dst, .int n] = some [.bool (rightB n e)] := by
  refine ev_by u10000 ?_
  simp only [t10000, go_sem, e9900]
  unfold rightB inB
  cases kindB e.ty <;> cases leI 0 e.src <;> cases ltI e.src n <;> cases leI 0 e.dst <;> rfl
theorem e9803 (gn : List Int) (ge : List Ge) (h2 : ge.length ≤ 1000000) (a b c d : D) : ∀ i, i ≤ ge.length → ev 9803 [a, b, c, d, .int i, intsD gn, gesD ge] = some [.int (bif anyK (fun j => !rightB gn.length (ge.getD j default)) (ge.length - i) i then 6 else 0)] := by
  refine down ?_ fun i hi ih => ?_
  · refine ev_by u9803 ?_
    simp only [t9803, go_sem, List.length_map, anyK_end, ltI_irr]
  · have hin : (leI 0 i && ltI i ge.length) = true := by rw [and_iff, leI_iff, ltI_iff]; omega
    refine ev_by u9803 ?_
    simp only [t9803, go_sem, List.length_map, idx_map _ _ _ hi, hin, e10000, wrapS i (by omega), ih]
    rw [anyK_step _ hi, cond_lt (by omega)]
    cases rightB gn.length (ge.getD i default) <;> rfl
theorem e9801 (gn : List Int) (ge : List Ge) (h1 : gn.length ≤ 1000000) (h2 : ge.length ≤ 1000000) (a b c : D) : ∀ i, i ≤ gn.length → ev 9801 [a, b, c, .int i, intsD gn, gesD ge] = some [.int (bif anyK (fun j => !kindB (gn.getD j default)) (gn.length - i) i then 6 else bif anyK (fun j => !rightB gn.length (ge.getD j default)) ge.length 0 then 6 else 0)] := by
  refine down ?_ fun i hi ih => ?_
  · refine ev_by u9801 ?_
    simp only [t9801, go_sem, List.length_map, anyK_end, ltI_irr]
    exact e9803 gn ge h2 _ _ _ _ 0 (by omega)
  · have hin : (leI 0 i && ltI i gn.length) = true := by rw [and_iff, leI_iff, ltI_iff]; omega
    refine ev_by u9801 ?_
    simp only [t9801, go_sem, List.length_map, idx_map _ _ _ hi, hin, e9900, wrapS i (by omega), ih]
    rw [anyK_step _ hi, cond_lt (by omega)]
    cases kindB (gn.getD i default) <;> rfl
theorem e9800 (gn : List Int) (ge : List Ge) (h1 : gn.length ≤ 1000000) (h2 : ge.length ≤ 1000000) : ev 9800 [intsD gn, gesD ge] = some [.int (graphErr gn ge)] := by
  refine ev_by u9800 ?_
  simp only [t9800, go_sem, List.length_map]
  unfold graphErr
  split
  · rw [cond_lt (by omega)]
  · rw [cond_nlt (by omega)]
    split
    · rw [cond_lt (by omega)]
    · rw [cond_nlt (by omega)]
      exact e9801 gn ge h1 h2 _ _ _ 0 (by omega)
theorem anyK_false {p : Nat → Bool} : ∀ (k i : Nat), anyK p k i = false → ∀ j, i ≤ j → j < i + k → p j = false
  | 0, i, _, j, h1, h2 => by omega
  | k + 1, i, h, j, h1, h2 => by
    simp only [anyK, Bool.or_eq_false_iff] at h
    by_cases hji : j = i
    · rw [hji]; exact h.1
    · exact anyK_false k (i + 1) h.2 j (by omega) (by omega)
theorem anyK_true {p : Nat → Bool} : ∀ (k i : Nat), anyK p k i = true → ∃ j, i ≤ j ∧ j < i + k ∧ p j = true
  | 0, i, h => by cases h
  | k + 1, i, h => by
    simp only [anyK, Bool.or_eq_true] at h
    rcases h with h | h
    · exact ⟨i, Nat.le_refl _, by omega, h⟩
    · obtain ⟨j, h1, h2, h3⟩ := anyK_true k (i + 1) h
      exact ⟨j, by omega, by omega, h3⟩
theorem anyK_of {p : Nat → Bool} {k i j : Nat} (h1 : i ≤ j) (h2 : j < i + k) (h : p j = true) : anyK p k i = true := by
  cases hq : anyK p k i
  · rw [anyK_false k i hq j h1 h2] at h; cases h
  · rfl
theorem graphErr_ok {gn : List Int} {ge : List Ge} (h : graphErr gn ge = 0) : gn.length ≤ 40 ∧ ge.length ≤ 80 ∧ (∀ j, j < gn.length → 0 ≤ gn.getD j default) ∧
    ∀ j, j < ge.length → 0 ≤ (ge.getD j default).ty ∧ 0 ≤ (ge.getD j default).src ∧ (ge.getD j default).src < gn.length ∧ 0 ≤ (ge.getD j default).dst ∧ (ge.getD j default).dst < gn.length := by
  unfold graphErr at h
  split at h
  · cases h
  · split at h
    · cases h
    · revert h
      cases h1 : anyK (fun j => !kindB (gn.getD j default)) gn.length 0
      · cases h2 : anyK (fun j => !rightB gn.length (ge.getD j default)) ge.length 0
        · intro _
          refine ⟨by omega, by omega, fun j hj => ?_, fun j hj => ?_⟩
          · have := anyK_false _ _ h1 j (by omega) (by omega)
            simp only [Bool.not_eq_false', kindB, and_iff, leI_iff] at this
            omega
          · have := anyK_false _ _ h2 j (by omega) (by omega)
            simp only [Bool.not_eq_false', rightB, kindB, inB, and_iff, leI_iff, ltI_iff] at this
            omega
        · intro h; cases h
      · intro h; cases h

/-! ### Types of nodes -/
theorem Par_of {ns : List Nd} {es : List Ed} (hv : typesErr ns es = 0) : Par ns ns.length := fun j hj => (nodeErr_parent ((typesErr_ok hv).2.2.2.1 j hj)).2
theorem set_self {α β : Type} [Inhabited α] (f : α → β) (l : List α) {i : Nat} (h : i < l.length) : (l.map f).set i (f (l.getD i default)) = l.map f := by
  apply List.ext_getElem?
  intro j
  by_cases hji : i = j
  · subst hji
    rw [List.getElem?_set_self (by simpa using h), List.getElem?_map, List.getElem?_eq_getElem h, List.getD_eq_getElem?_getD, List.getElem?_eq_getElem h]
    rfl
  · rw [List.getElem?_set_ne hji]
theorem e5900 {l : List ByteArray} (hl : l.length ≤ 1000000) : ev 5900 [strsD l] = some [strsD l] := by
  refine ev_by u5900 ?_
  unfold t5900
  have h1 : (T.ck (.o2 .le (.o1 .len (.v 0)) (.i 1073741824)) (.ret [.v 0])).go ev [strsD l] = some [strsD l] := by
    simp only [go_sem, List.length_map]
    rw [cond_le (by omega)]
  rw [go_am_eq]
  · exact h1
  · intro h0
    have h0' : l.map D.str = [] := h0
    rw [h1]
    show some [D.list []] = some [D.list (l.map D.str)]
    rw [h0']
theorem e5401 (all : List At) (h : ∀ a, a ∈ all → OkA a) (hl : all.length ≤ 1000000) (a b c d : D) : ∀ i, i ≤ all.length → ev 5401 [a, b, c, d, .int all.length, .int i, atsD all] = some [atsD all, .int 0] := by
  refine down ?_ fun i hi ih => ?_
  · refine ev_by u5401 ?_
    simp only [t5401, go_sem, ltI_irr]
  · have hin : (leI 0 i && ltI i all.length) = true := by rw [and_iff, leI_iff, ltI_iff]; omega
    have ho := (h _ (getD_mem hi)).2.1
    refine ev_by u5401 ?_
    simp only [t5401, go_sem, List.length_map, idx_map _ _ _ hi, hin, e5900 (l := (all.getD i default).names) (by omega), wrapS i (by omega)]
    rw [cond_lt (by omega), set_self At.d all hi]
    exact ih
section
variable {ns : List Nd} {es : List Ed} (ht : OkT ns es) (hv : typesErr ns es = 0)
include ht hv
theorem e5800 (p : Int) (h1 : 0 ≤ p) (h2 : p < ns.length) (x : D) : ev 5800 [.int p, ndsD ns, x] = some [.bool false] := by
  refine ev_by u5800 ?_
  simp only [t5800, go_sem, List.length_map]
  rw [cond_nlt (by omega)]
  congr 2
  congr 1
  rw [leI_false]
  omega
theorem e5701 (l : List Int) (hl : l.length ≤ 1000000) (hb : ∀ p, p ∈ l → 0 ≤ p ∧ p < ns.length) (x y : D) : ∀ i, i ≤ l.length → ev 5701 [intsD l, ndsD ns, x, y, .int l.length, .int i] = some [.int (-1)] := by
  refine down ?_ fun i hi ih => ?_
  · refine ev_by u5701 ?_
    simp only [t5701, go_sem, ltI_irr]
  · have hin : (leI 0 i && ltI i l.length) = true := by rw [and_iff, leI_iff, ltI_iff]; omega
    obtain ⟨p1, p2⟩ := hb _ (getD_mem hi)
    refine ev_by u5701 ?_
    simp only [t5701, go_sem, List.length_map, idx_map _ _ _ hi, hin, e5800 ht hv _ p1 p2, wrapS i (by omega), ih]
    rw [cond_lt (by omega)]
theorem e5500 (l : List Int) (hl : l.length ≤ 1000000) (hb : ∀ p, p ∈ l → 0 ≤ p ∧ p < ns.length) : ev 5500 [ndsD ns, edsD es, intsD l] = some [.int 0] := by
  obtain ⟨s, h⟩ := e700 ht
  rw [hv] at h
  have h2 : ev 5700 [intsD l, ndsD ns, edsD es] = some [.int (-1)] := by
    refine ev_by u5700 ?_
    simp only [t5700, go_sem, List.length_map]
    exact e5701 ht hv l hl hb _ _ 0 (by omega)
  have hm : leI 0 (-1) = false := by decide
  have h3 : ev 5600 [intsD l, ndsD ns, edsD es] = some [.bool false] := by
    refine ev_by u5600 ?_
    simp only [t5600, go_sem, h2, hm]
  have h00 : eqI 0 0 = true := by decide
  refine ev_by u5500 ?_
  simp only [t5500, go_sem, h, h00, h3]
theorem e5400 {t : Nat} (h : t < ns.length) : ev 5400 [ndsD ns, edsD es, .int t] = some [atsD (attrsN ns (t + 1) t), .int 0] := by
  have hl := ht.1
  obtain ⟨hb, hok⟩ := attrsN_ok ht.2.2.1 (Nat.le_refl _) (Par_of hv) (t + 1) t (by omega) h
  have h1 := e5500 ht hv [(t : Int)] (by simp) (fun p hp => by simp only [List.mem_singleton] at hp; omega)
  have h1' : ev 5500 [ndsD ns, edsD es, .list [.int t]] = some [.int 0] := h1
  have h00 : eqI 0 0 = true := by decide
  refine ev_by u5400 ?_
  simp only [t5400, go_sem, h1', h00, e2900 hl ht.2.2.1 (Nat.le_refl _) (Par_of hv) (edsD es) (t + 1) t (by omega) (by omega) h, List.length_map]
  exact e5401 _ hok (by omega) _ _ _ _ 0 (by omega)
theorem e10300 {a b : Int} (h1 : 0 ≤ a) (h2 : a < ns.length) (h3 : 0 ≤ b) (h4 : b < ns.length) : ev 10300 [ndsD ns, edsD es, .int a, .int b] = some [.int 0] := by
  obtain ⟨s, h⟩ := e7900 ht
  have hl := ht.1
  rw [hv] at h
  have h00 : eqI 0 0 = true := by decide
  have ha : inB ns.length a = true := by simp only [inB, and_iff, leI_iff, ltI_iff]; omega
  have hb : inB ns.length b = true := by simp only [inB, and_iff, leI_iff, ltI_iff]; omega
  refine ev_by u10300 ?_
  simp only [t10300, go_sem, h, h00, List.length_map, e9000, nowrap (n := (ns.length : Int) - 1) (by omega) (by omega), leI_pred, ha, hb]
theorem e10201 (all : List At) (h : ∀ a, a ∈ all → OkA a) (hl : all.length ≤ 1000000) (a b c d : D) : ∀ i, i ≤ all.length → ev 10201 [a, b, c, d, .int i, atsD (all.take i), atsD all] = some [atsD all, .int 0] := by
  refine down ?_ fun i hi ih => ?_
  · refine ev_by u10201 ?_
    simp only [t10201, go_sem, List.length_map, ltI_irr, List.take_length]
  · have hin : (leI 0 i && ltI i all.length) = true := by rw [and_iff, leI_iff, ltI_iff]; omega
    have ho := (h _ (getD_mem hi)).2.1
    refine ev_by u10201 ?_
    simp only [t10201, go_sem, List.length_map, idx_map _ _ _ hi, hin, wrapS i (by omega), length_take' (Nat.le_of_lt hi)]
    rw [cond_lt (by omega), cond_le (by omega), cond_le (by omega)]
    have e1 : (all.take i).map At.d ++ [At.d (all.getD i default)] = (all.take (i + 1)).map At.d := by
      rw [List.take_add_one, List.getElem?_eq_getElem hi, List.map_append, List.getD_eq_getElem?_getD, List.getElem?_eq_getElem hi]
      rfl
    rw [e1]
    exact ih
theorem e10200 {t : Nat} (h : t < ns.length) : ev 10200 [ndsD ns, edsD es, .int t] = some [atsD (attrsN ns (t + 1) t), .int 0] := by
  have hl := ht.1
  obtain ⟨hb, hok⟩ := attrsN_ok ht.2.2.1 (Nat.le_refl _) (Par_of hv) (t + 1) t (by omega) h
  have h00 : eqI 0 0 = true := by decide
  refine ev_by u10200 ?_
  simp only [t10200, go_sem, e10300 ht hv (a := t) (b := t) (by omega) (by omega) (by omega) (by omega), h00, e9100 hl ht.2.2.1 (Nat.le_refl _) (Par_of hv) (edsD es) (t + 1) t (by omega) (by omega) h]
  exact e10201 ht hv _ hok (by omega) _ _ _ _ 0 (by omega)
end

/-! ### Values -/
def valErr (all : List At) (vs : List Int) (j : Nat) : Int := bif ltI (vs.getD j default) (all.getD j default).low then 6 else bif ltI (all.getD j default).high (vs.getD j default) then 6 else 0
def nodeVErr (ns : List Nd) (t : Int) (vs : List Int) : Int := bif leI ns.length t then 6 else bif (ns.getD t.toNat default).abs then 13 else
  (if vs.length = (attrsN ns (t.toNat + 1) t.toNat).length then scan (valErr (attrsN ns (t.toNat + 1) t.toNat) vs) (attrsN ns (t.toNat + 1) t.toNat).length 0 else 20)
theorem e5301 (all : List At) (vs : List Int) (hl : all.length ≤ 1000000) (he : vs.length = all.length) (a b c d : D) : ∀ i, i ≤ all.length → ev 5301 [a, b, c, intsD vs, d, .int all.length, .int i, atsD all] = some [.int (scan (valErr all vs) (all.length - i) i)] := by
  refine down ?_ fun i hi ih => ?_
  · refine ev_by u5301 ?_
    simp only [t5301, go_sem, scan_end, ltI_irr]
  · have hin : (leI 0 i && ltI i all.length) = true := by rw [and_iff, leI_iff, ltI_iff]; omega
    refine ev_by u5301 ?_
    simp only [t5301, go_sem, List.length_map, he, idx_map _ _ _ hi, idx_map _ vs i (by omega), hin, wrapS i (by omega), ih]
    rw [scan_step _ hi, cond_lt (by omega)]
    unfold valErr
    cases ltI (vs.getD i default) (all.getD i default).low <;> cases ltI (all.getD i default).high (vs.getD i default) <;> rfl
theorem e10101 (all : List At) (vs : List Int) (hl : all.length ≤ 1000000) (he : vs.length = all.length) (a b c d : D) : ∀ i, i ≤ all.length → ev 10101 [a, b, c, intsD vs, d, .int i, atsD all] = some [.int (scan (valErr all vs) (all.length - i) i)] := by
  refine down ?_ fun i hi ih => ?_
  · refine ev_by u10101 ?_
    simp only [t10101, go_sem, List.length_map, scan_end, ltI_irr]
  · have hin : (leI 0 i && ltI i all.length) = true := by rw [and_iff, leI_iff, ltI_iff]; omega
    refine ev_by u10101 ?_
    simp only [t10101, go_sem, List.length_map, he, idx_map _ _ _ hi, idx_map _ vs i (by omega), hin, wrapS i (by omega), ih]
    rw [scan_step _ hi, cond_lt (by omega)]
    unfold valErr
    cases ltI (vs.getD i default) (all.getD i default).low <;> cases ltI (all.getD i default).high (vs.getD i default) <;> rfl
section
variable {ns : List Nd} {es : List Ed} (ht : OkT ns es) (hv : typesErr ns es = 0)
include ht hv
theorem e5300 {t : Int} (h0 : 0 ≤ t) (vs : List Int) : ev 5300 [ndsD ns, edsD es, .int t, intsD vs] = some [.int (nodeVErr ns t vs)] := by
  have hl := ht.1
  unfold nodeVErr
  cases hc : leI ns.length t
  · rw [leI_false] at hc
    have hin : (leI 0 t && ltI t ns.length) = true := by rw [and_iff, leI_iff, ltI_iff]; omega
    have htn : t.toNat < ns.length := by omega
    have hte : ((t.toNat : Nat) : Int) = t := by omega
    obtain ⟨hb, hok⟩ := attrsN_ok ht.2.2.1 (Nat.le_refl _) (Par_of hv) (t.toNat + 1) t.toNat (by omega) htn
    have h1 := e5400 ht hv htn
    rw [hte] at h1
    refine ev_by u5300 ?_
    simp only [t5300, go_sem, List.length_map, idx_map _ _ _ htn, hin, h1]
    rw [cond_nle (by omega)]
    cases (ns.getD t.toNat default).abs
    · simp only [go_sem]
      split
      · rename_i he
        rw [cond_eq (by omega)]
        exact e5301 _ vs (by omega) he _ _ _ _ 0 (by omega)
      · rename_i he
        rw [cond_ne (by omega)]
    · rfl
  · refine ev_by u5300 ?_
    simp only [t5300, go_sem, List.length_map, hc]
theorem e10100 {t : Int} (h0 : 0 ≤ t) (vs : List Int) : ev 10100 [ndsD ns, edsD es, .int t, intsD vs] = some [.int (nodeVErr ns t vs)] := by
  have hl := ht.1
  unfold nodeVErr
  cases hc : leI ns.length t
  · rw [leI_false] at hc
    have hin : (leI 0 t && ltI t ns.length) = true := by rw [and_iff, leI_iff, ltI_iff]; omega
    have htn : t.toNat < ns.length := by omega
    have hte : ((t.toNat : Nat) : Int) = t := by omega
    obtain ⟨hb, hok⟩ := attrsN_ok ht.2.2.1 (Nat.le_refl _) (Par_of hv) (t.toNat + 1) t.toNat (by omega) htn
    have h1 := e10200 ht hv htn
    rw [hte] at h1
    refine ev_by u10100 ?_
    simp only [t10100, go_sem, List.length_map, idx_map _ _ _ htn, hin, h1]
    rw [cond_nle (by omega)]
    cases (ns.getD t.toNat default).abs
    · simp only [go_sem]
      split
      · rename_i he
        rw [cond_eq (by omega)]
        exact e10101 _ vs (by omega) he _ _ _ _ 0 (by omega)
      · rename_i he
        rw [cond_ne (by omega)]
    · rfl
  · refine ev_by u10100 ?_
    simp only [t10100, go_sem, List.length_map, hc]
end
theorem nodeVErr_in {ns : List Nd} {t : Int} {vs : List Int} (h : nodeVErr ns t vs = 0) : t < ns.length := by
  unfold nodeVErr at h
  revert h
  cases hc : leI ns.length t
  · rw [leI_false] at hc
    exact fun _ => hc
  · intro h; cases h

/-! ### Supertypes -/
def hasI (l : List Int) (b : Int) : Bool := anyK (fun j => eqI b (l.getD j default)) l.length 0
theorem hasI_iff {l : List Int} {b : Int} : hasI l b = true ↔ b ∈ l := by
  unfold hasI
  constructor
  · intro h
    obtain ⟨j, _, h2, h3⟩ := anyK_true _ _ h
    rw [eqI_iff] at h3
    rw [h3]
    exact getD_mem (by omega)
  · intro h
    obtain ⟨j, hj, hje⟩ := mem_getD h
    exact anyK_of (j := j) (by omega) (by omega) (by rw [eqI_iff]; exact hje.symm)
theorem e6501 (l : List Int) (hl : l.length ≤ 1000000) (b : Int) (x : D) : ∀ i, i ≤ l.length → ev 6501 [intsD l, .int b, x, .int l.length, .int i] = some [.int (findK (fun j => eqI b (l.getD j default)) (l.length - i) i)] := by
  refine down ?_ fun i hi ih => ?_
  · refine ev_by u6501 ?_
    simp only [t6501, go_sem, findK_end, ltI_irr]
  · have hin : (leI 0 i && ltI i l.length) = true := by rw [and_iff, leI_iff, ltI_iff]; omega
    refine ev_by u6501 ?_
    simp only [t6501, go_sem, List.length_map, idx_map _ _ _ hi, hin, wrapS i (by omega), ih]
    rw [findK_step _ hi, cond_lt (by omega)]
    cases eqI b (l.getD i default) <;> rfl
theorem e6400 (l : List Int) (hl : l.length ≤ 1000000) (b : Int) : ev 6400 [intsD l, .int b] = some [.bool (hasI l b)] := by
  have h : ev 6500 [intsD l, .int b] = some [.int (findK (fun j => eqI b (l.getD j default)) l.length 0)] := by
    refine ev_by u6500 ?_
    simp only [t6500, go_sem, List.length_map]
    exact e6501 l hl b _ 0 (by omega)
  refine ev_by u6400 ?_
  simp only [t6400, go_sem, h, leI_find]
  rfl
theorem swap_mem {l : List Int} {i j : Nat} (hi : i < l.length) (hj : j < l.length) (b : Int) : b ∈ (l.set i (l.getD j default)).set j (l.getD i default) ↔ b ∈ l := by
  have ei : l.getD i default = l[i] := by simp [List.getD_eq_getElem?_getD, hi]
  have ej : l.getD j default = l[j] := by simp [List.getD_eq_getElem?_getD, hj]
  rw [ei, ej]
  exact (List.set_set_perm hi hj).mem_iff
theorem e6301 : ∀ (k : Nat) (i : Nat) (j : Int) (l : List Int), l.length ≤ 1000000 → j < l.length → -1 ≤ j → j - i ≤ k → ∃ l' : List Int, ev 6301 [.int i, .int j, intsD l] = some [intsD l'] ∧ l'.length = l.length ∧ ∀ b, b ∈ l' ↔ b ∈ l := by
  intro k
  induction k with
  | zero =>
    intro i j l hl h1 h2 h3
    refine ⟨l, ?_, rfl, fun b => Iff.rfl⟩
    refine ev_by u6301 ?_
    simp only [t6301, go_sem]
    rw [cond_nlt (by omega)]
  | succ k ih =>
    intro i j l hl h1 h2 h3
    by_cases hij : (i : Int) < j
    · have hi : i < l.length := by omega
      have hj : j.toNat < l.length := by omega
      have hie : (leI 0 i && ltI i l.length) = true := by rw [and_iff, leI_iff, ltI_iff]; omega
      have hje : (leI 0 j && ltI j l.length) = true := by rw [and_iff, leI_iff, ltI_iff]; omega
      obtain ⟨l', g1, g2, g3⟩ := ih (i + 1) (j - 1) ((l.set i (l.getD j.toNat default)).set j.toNat (l.getD i default)) (by simpa using hl) (by simp only [List.length_set]; omega) (by omega) (by omega)
      refine ⟨l', ?_, by rw [g2]; simp, fun b => by rw [g3 b, swap_mem hi hj]⟩
      have e1 : ((l.map D.int).set i (.int (l.getD j.toNat default))).set j.toNat (.int (l.getD i default)) = ((l.set i (l.getD j.toNat default)).set j.toNat (l.getD i default)).map D.int := by rw [List.map_set, List.map_set]
      refine ev_by u6301 ?_
      simp only [t6301, go_sem, List.length_map, List.length_set, idx_map _ _ _ hi, idx_map _ _ _ hj, hie, hje, wrapS i (by omega), nowrap (n := j - 1) (by omega) (by omega), e1]
      rw [cond_lt hij]
      exact g1
    · refine ⟨l, ?_, rfl, fun b => Iff.rfl⟩
      refine ev_by u6301 ?_
      simp only [t6301, go_sem]
      rw [cond_nlt (by omega)]
theorem e6300 (l : List Int) (hl : l.length ≤ 1000000) : ∃ l' : List Int, ev 6300 [intsD l] = some [intsD l'] ∧ l'.length = l.length ∧ ∀ b, b ∈ l' ↔ b ∈ l := by
  obtain ⟨l', h1, h2, h3⟩ := e6301 l.length 0 ((l.length : Int) - 1) l hl (by omega) (by omega) (by omega)
  refine ⟨l', ?_, h2, h3⟩
  refine ev_by u6300 ?_
  simp only [t6300, go_sem, List.length_map, nowrap (n := (l.length : Int) - 1) (by omega) (by omega)]
  exact h1
def chainN (ns : List Nd) : Nat → Nat → List Int
  | 0, _ => []
  | k + 1, a => (a : Int) :: (bif leI 0 (ns.getD a default).parent then chainN ns k (ns.getD a default).parent.toNat else [])
theorem chainN_len (ns : List Nd) : ∀ (k a : Nat), (chainN ns k a).length ≤ k
  | 0, a => by simp [chainN]
  | k + 1, a => by
    unfold chainN
    cases leI 0 (ns.getD a default).parent
    · simp
    · have := chainN_len ns k (ns.getD a default).parent.toNat
      simp only [go_sem, List.length_cons]
      omega
def isB (ns : List Nd) (a b : Int) : Bool := hasI (chainN ns (a.toNat + 1) a.toNat) b
theorem e6201n (ns : List Nd) (x : D) (p : Int) (hp : p < 0) (l : List Int) (hl : l.length ≤ 1000000) : ∃ l' : List Int, ev 6201 [ndsD ns, x, .int p, intsD l] = some [intsD l'] ∧ l'.length = l.length ∧ ∀ b, b ∈ l' ↔ b ∈ l := by
  obtain ⟨l', h1, h2, h3⟩ := e6300 l hl
  refine ⟨l', ?_, h2, h3⟩
  refine ev_by u6201 ?_
  simp only [t6201, go_sem, h1]
  rw [cond_nle hp]
theorem e6201 {ns : List Nd} (hl : ns.length ≤ 1000) (hp : Par ns ns.length) (x : D) : ∀ (k a : Nat), a < k → a < ns.length → k ≤ 1001 → ∀ l : List Int, l.length + k ≤ 1000000 → ∃ l' : List Int, ev 6201 [ndsD ns, x, .int a, intsD l] = some [intsD l'] ∧ l'.length = l.length + (chainN ns k a).length ∧ ∀ b, b ∈ l' ↔ b ∈ l ++ chainN ns k a
  | 0, a, h, _, _, l, _ => by omega
  | k + 1, a, h, ha, hk, l, hll => by
    have hin : (leI 0 a && ltI a ns.length) = true := by rw [and_iff, leI_iff, ltI_iff]; omega
    have e1 : l.map D.int ++ [.int a] = (l ++ [(a : Int)]).map D.int := by simp
    unfold chainN
    cases hq : leI 0 (ns.getD a default).parent
    · rw [leI_false] at hq
      obtain ⟨l', g1, g2, g3⟩ := e6201n ns x (ns.getD a default).parent hq (l ++ [(a : Int)]) (by simp; omega)
      refine ⟨l', ?_, by rw [g2]; simp, fun b => by rw [g3 b]; simp⟩
      refine ev_by u6201 ?_
      simp only [t6201, go_sem, List.length_map, idx_map _ _ a ha, hin, e1, g1]
      rw [cond_le (by omega), cond_le (by omega)]
    · obtain ⟨h1, h2⟩ := hp.lt ha hq
      obtain ⟨l', g1, g2, g3⟩ := e6201 hl hp x k (ns.getD a default).parent.toNat (by omega) (by omega) (by omega) (l ++ [(a : Int)]) (by simp; omega)
      rw [h2] at g1
      refine ⟨l', ?_, by rw [g2]; simp; omega, fun b => by rw [g3 b]; simp⟩
      refine ev_by u6201 ?_
      simp only [t6201, go_sem, List.length_map, idx_map _ _ a ha, hin, e1, g1]
      rw [cond_le (by omega), cond_le (by omega)]
theorem e6100 {ns : List Nd} (hl : ns.length ≤ 1000) (hp : Par ns ns.length) (x : D) {a : Int} (h0 : 0 ≤ a) (h1 : a < ns.length) (b : Int) : ev 6100 [ndsD ns, x, .int a, .int b] = some [.bool (isB ns a b)] := by
  have hae : ((a.toNat : Nat) : Int) = a := by omega
  obtain ⟨l', g1, g2, g3⟩ := e6201 hl hp x (a.toNat + 1) a.toNat (by omega) (by omega) (by omega) [] (by simp; omega)
  have hc := chainN_len ns (a.toNat + 1) a.toNat
  rw [hae] at g1
  have h6 : ev 6200 [ndsD ns, x, .int a] = some [intsD l'] := by
    refine ev_by u6200 ?_
    simp only [t6200, go_sem]
    exact g1
  refine ev_by u6100 ?_
  simp only [t6100, go_sem, h6, e6400 l' (by rw [g2]; simp; omega) b]
  refine some_bool ?_
  unfold isB
  rw [Bool.eq_iff_iff, hasI_iff, hasI_iff, g3 b]
  simp
theorem e10500n (ns x : D) (p b : Int) (hp : p < 0) (hb : 0 ≤ b) : ev 10500 [ns, x, .int p, .int b] = some [.bool false] := by
  refine ev_by u10500 ?_
  simp only [t10500, go_sem]
  rw [cond_ne (by omega), cond_nle hp]
theorem hasI_cons (a : Int) (l : List Int) (b : Int) : hasI (a :: l) b = (eqI a b || hasI l b) := by
  rw [Bool.eq_iff_iff, Bool.or_eq_true, hasI_iff, hasI_iff, eqI_iff, List.mem_cons]
  constructor
  · rintro (h | h)
    · exact .inl h.symm
    · exact .inr h
  · rintro (h | h)
    · exact .inl h.symm
    · exact .inr h
theorem e10500 {ns : List Nd} (hl : ns.length ≤ 1000) (hp : Par ns ns.length) (x : D) {b : Int} (hb : 0 ≤ b) : ∀ (k a : Nat), a < k → a < ns.length → ev 10500 [ndsD ns, x, .int a, .int b] = some [.bool (hasI (chainN ns k a) b)]
  | 0, a, h, _ => by omega
  | k + 1, a, h, ha => by
    have hin : (leI 0 a && ltI a ns.length) = true := by rw [and_iff, leI_iff, ltI_iff]; omega
    unfold chainN
    rw [hasI_cons]
    cases hq : leI 0 (ns.getD a default).parent
    · rw [leI_false] at hq
      refine ev_by u10500 ?_
      simp only [t10500, go_sem, List.length_map, idx_map _ _ a ha, hin, e10500n _ _ _ b hq hb]
      rw [cond_le (by omega)]
      cases eqI (a : Int) b <;> rfl
    · obtain ⟨h1, h2⟩ := hp.lt ha hq
      have ih := e10500 hl hp x hb k (ns.getD a default).parent.toNat (by omega) (by omega)
      rw [h2] at ih
      refine ev_by u10500 ?_
      simp only [t10500, go_sem, List.length_map, idx_map _ _ a ha, hin, ih]
      rw [cond_le (by omega)]
      cases eqI (a : Int) b <;> rfl
theorem e10500' {ns : List Nd} (hl : ns.length ≤ 1000) (hp : Par ns ns.length) (x : D) {a : Int} (h0 : 0 ≤ a) (h1 : a < ns.length) {b : Int} (hb : 0 ≤ b) : ev 10500 [ndsD ns, x, .int a, .int b] = some [.bool (isB ns a b)] := by
  have := e10500 hl hp x hb (a.toNat + 1) a.toNat (by omega) (by omega)
  rw [show ((a.toNat : Nat) : Int) = a by omega] at this
  exact this
def fitsB (ns : List Nd) (es : List Ed) (ty a b : Int) : Bool := inB es.length ty && (isB ns a (es.getD ty.toNat default).src && isB ns b (es.getD ty.toNat default).dst)
section
variable {ns : List Nd} {es : List Ed} (ht : OkT ns es) (hv : typesErr ns es = 0) {a b ty : Int} (h1 : 0 ≤ a) (h2 : a < ns.length) (h3 : 0 ≤ b) (h4 : b < ns.length)
include ht hv h1 h2 h3 h4
theorem e6000 : ev 6000 [ndsD ns, edsD es, .int ty, .int a, .int b] = some [.bool (fitsB ns es ty a b)] := by
  have hl := ht.1
  have hg := e5500 ht hv [a, b] (by simp) (fun p hp => by simp only [List.mem_cons, List.not_mem_nil, or_false] at hp; omega)
  have hg' : ev 5500 [ndsD ns, edsD es, .list [.int a, .int b]] = some [.int 0] := hg
  have h00 : eqI 0 0 = true := by decide
  unfold fitsB inB
  by_cases c1 : ty < 0
  · refine ev_by u6000 ?_
    simp only [t6000, go_sem, hg', h00]
    rw [cond_lt c1]
    refine some_bool ?_
    rw [show leI 0 ty = false by rw [leI_false]; omega]
    rfl
  · by_cases c2 : (es.length : Int) ≤ ty
    · refine ev_by u6000 ?_
      simp only [t6000, go_sem, hg', h00, List.length_map]
      rw [cond_nlt (by omega), cond_le c2]
      refine some_bool ?_
      rw [show ltI ty es.length = false by rw [ltI_false]; omega]
      cases leI 0 ty <;> rfl
    · have hin : (leI 0 ty && ltI ty es.length) = true := by rw [and_iff, leI_iff, ltI_iff]; omega
      have htn : ty.toNat < es.length := by omega
      refine ev_by u6000 ?_
      simp only [t6000, go_sem, hg', h00, List.length_map, hin, idx_map _ _ _ htn, e6100 hl (Par_of hv) _ h1 h2, e6100 hl (Par_of hv) _ h3 h4]
      rw [cond_nlt (by omega), cond_nle (by omega)]
      cases isB ns a (es.getD ty.toNat default).src <;> rfl
theorem e10400 : ev 10400 [ndsD ns, edsD es, .int ty, .int a, .int b] = some [.bool (fitsB ns es ty a b)] := by
  have hl := ht.1
  have hl2 := ht.2.1
  have h00 : eqI 0 0 = true := by decide
  unfold fitsB
  cases hc : inB es.length ty
  · refine ev_by u10400 ?_
    simp only [t10400, go_sem, e10300 ht hv h1 h2 h3 h4, h00, List.length_map, e9000, nowrap (n := (es.length : Int) - 1) (by omega) (by omega), leI_pred, hc]
    rfl
  · have hc' := hc
    simp only [inB, and_iff, leI_iff, ltI_iff] at hc'
    have hin : (leI 0 ty && ltI ty es.length) = true := hc
    have htn : ty.toNat < es.length := by omega
    obtain ⟨r1, r2, r3, r4⟩ := edgeErr_in ((typesErr_ok hv).2.2.2.2 ty.toNat htn)
    refine ev_by u10400 ?_
    simp only [t10400, go_sem, e10300 ht hv h1 h2 h3 h4, h00, List.length_map, e9000, nowrap (n := (es.length : Int) - 1) (by omega) (by omega), leI_pred, hc, hin, idx_map _ _ _ htn, e10500' hl (Par_of hv) _ h1 h2 r1, e10500' hl (Par_of hv) _ h3 h4 r3]
    cases isB ns a (es.getD ty.toNat default).src <;> rfl
end

/-! ### Hosts -/
def edgeV (ns : List Nd) (es : List Ed) (gn : List Int) (ge : List Ge) (i : Nat) : Int := bif leI es.length (ge.getD i default).ty then 6 else
  bif fitsB ns es (ge.getD i default).ty (gn.getD (ge.getD i default).src.toNat default) (gn.getD (ge.getD i default).dst.toNat default) then 0 else 13
def hostErr (ns : List Nd) (es : List Ed) (gn : List Int) (ge : List Ge) (vs : List (List Int)) : Int := thenE (typesErr ns es) (thenE (graphErr gn ge)
  (if vs.length = gn.length then thenE (scan (fun i => nodeVErr ns (gn.getD i default) (vs.getD i default)) gn.length 0) (scan (edgeV ns es gn ge) ge.length 0) else 20))
def Tells (l : Nat) (ds : List D) (e : Int) : Prop := ∃ n : Int, ev l ds = some [.int n, .int e]
section
variable {ns : List Nd} {es : List Ed} (ht : OkT ns es) (hv : typesErr ns es = 0) {gn : List Int} {ge : List Ge} {vs : List (List Int)} (hg : graphErr gn ge = 0) (hl : vs.length = gn.length)
include ht hv hg hl
theorem e4303 (hn : ∀ i, i < gn.length → nodeVErr ns (gn.getD i default) (vs.getD i default) = 0) (a b c d e f g h i j k x : D) : ∀ q, q ≤ ge.length → Tells 4303 [a, b, c, d, e, f, g, h, i, j, k, gesD ge, .int ge.length, .int q, ndsD ns, edsD es, intsD gn, gesD ge, x] (scan (edgeV ns es gn ge) (ge.length - q) q) := by
  obtain ⟨l1, l2, gk, gr⟩ := graphErr_ok hg
  refine down ?_ fun q hq ih => ?_
  · refine ⟨-1, ?_⟩
    refine ev_by u4303 ?_
    simp only [t4303, go_sem, scan_end, ltI_irr]
  · obtain ⟨n, ih⟩ := ih
    have hin : (leI 0 q && ltI q ge.length) = true := by rw [and_iff, leI_iff, ltI_iff]; omega
    obtain ⟨r0, r1, r2, r3, r4⟩ := gr q hq
    have hs : (leI 0 (ge.getD q default).src && ltI (ge.getD q default).src gn.length) = true := by rw [and_iff, leI_iff, ltI_iff]; omega
    have hd : (leI 0 (ge.getD q default).dst && ltI (ge.getD q default).dst gn.length) = true := by rw [and_iff, leI_iff, ltI_iff]; omega
    have n1 := nodeVErr_in (hn (ge.getD q default).src.toNat (by omega))
    have n2 := nodeVErr_in (hn (ge.getD q default).dst.toNat (by omega))
    have k1 := gk (ge.getD q default).src.toNat (by omega)
    have k2 := gk (ge.getD q default).dst.toNat (by omega)
    rw [scan_step _ hq]
    have hee : edgeV ns es gn ge q = bif leI es.length (ge.getD q default).ty then 6 else
      bif fitsB ns es (ge.getD q default).ty (gn.getD (ge.getD q default).src.toNat default) (gn.getD (ge.getD q default).dst.toNat default) then 0 else 13 := rfl
    rw [hee]
    cases hc : leI es.length (ge.getD q default).ty
    · cases hf : fitsB ns es (ge.getD q default).ty (gn.getD (ge.getD q default).src.toNat default) (gn.getD (ge.getD q default).dst.toNat default)
      · refine ⟨q, ?_⟩
        refine ev_by u4303 ?_
        simp only [t4303, go_sem, List.length_map, idx_map _ _ _ hq, hin, hc, hs, hd, idx_map _ gn (ge.getD q default).src.toNat (by omega), idx_map _ gn (ge.getD q default).dst.toNat (by omega), e6000 ht hv k1 n1 k2 n2, hf]
        rw [cond_lt (by omega)]
        rfl
      · refine ⟨n, ?_⟩
        refine ev_by u4303 ?_
        simp only [t4303, go_sem, List.length_map, idx_map _ _ _ hq, hin, hc, hs, hd, idx_map _ gn (ge.getD q default).src.toNat (by omega), idx_map _ gn (ge.getD q default).dst.toNat (by omega), e6000 ht hv k1 n1 k2 n2, hf, wrapS q (by omega), ih]
        rw [cond_lt (by omega)]
        rfl
    · refine ⟨q, ?_⟩
      refine ev_by u4303 ?_
      simp only [t4303, go_sem, List.length_map, idx_map _ _ _ hq, hin, hc]
      rw [cond_lt (by omega)]
      rfl
theorem e4301 (a b c d : D) : ∀ q, q ≤ gn.length → (∀ i, i < q → nodeVErr ns (gn.getD i default) (vs.getD i default) = 0) → Tells 4301 [ndsD ns, edsD es, intsD gn, gesD ge, valsD vs, a, b, c, d, .int gn.length, .int q, ndsD ns, edsD es, intsD gn, gesD ge, valsD vs] (thenE (scan (fun i => nodeVErr ns (gn.getD i default) (vs.getD i default)) (gn.length - q) q) (scan (edgeV ns es gn ge) ge.length 0)) := by
  obtain ⟨l1, l2, gk, gr⟩ := graphErr_ok hg
  refine down ?_ fun q hq ih => ?_
  · intro hn
    obtain ⟨n, h⟩ := e4303 ht hv hg hl hn (ndsD ns) (edsD es) (intsD gn) (gesD ge) (valsD vs) a b c d (.int gn.length) (.int gn.length) (valsD vs) 0 (by omega)
    refine ⟨n, ?_⟩
    rw [scan_end]
    refine ev_by u4301 ?_
    simp only [t4301, go_sem, List.length_map, ltI_irr]
    exact h
  · intro hn
    have hin : (leI 0 q && ltI q gn.length) = true := by rw [and_iff, leI_iff, ltI_iff]; omega
    rw [scan_step _ hq]
    by_cases h0 : nodeVErr ns (gn.getD q default) (vs.getD q default) = 0
    · obtain ⟨n, ih⟩ := ih fun i hi => by
        by_cases hiq : i = q
        · rw [hiq]; exact h0
        · exact hn i (by omega)
      refine ⟨n, ?_⟩
      refine ev_by u4301 ?_
      simp only [t4301, go_sem, List.length_map, hl, idx_map _ _ _ hq, idx_map _ vs q (by omega), hin, e5300 ht hv (gk q hq), wrapS q (by omega), ih]
      rw [cond_lt (by omega), cond_eq h0, if_pos h0]
    · refine ⟨q, ?_⟩
      refine ev_by u4301 ?_
      simp only [t4301, go_sem, List.length_map, hl, idx_map _ _ _ hq, idx_map _ vs q (by omega), hin, e5300 ht hv (gk q hq)]
      rw [cond_lt (by omega), cond_ne h0, if_neg h0]
      unfold thenE
      rw [if_neg h0]
theorem e9703 (hn : ∀ i, i < gn.length → nodeVErr ns (gn.getD i default) (vs.getD i default) = 0) (a b c d e f g h i j x : D) : ∀ q, q ≤ ge.length → Tells 9703 [a, b, c, d, e, f, g, h, i, j, .int q, ndsD ns, edsD es, intsD gn, gesD ge, x] (scan (edgeV ns es gn ge) (ge.length - q) q) := by
  obtain ⟨l1, l2, gk, gr⟩ := graphErr_ok hg
  refine down ?_ fun q hq ih => ?_
  · refine ⟨-1, ?_⟩
    refine ev_by u9703 ?_
    simp only [t9703, go_sem, List.length_map, scan_end, ltI_irr]
  · obtain ⟨n, ih⟩ := ih
    have hin : (leI 0 q && ltI q ge.length) = true := by rw [and_iff, leI_iff, ltI_iff]; omega
    obtain ⟨r0, r1, r2, r3, r4⟩ := gr q hq
    have hs : (leI 0 (ge.getD q default).src && ltI (ge.getD q default).src gn.length) = true := by rw [and_iff, leI_iff, ltI_iff]; omega
    have hd : (leI 0 (ge.getD q default).dst && ltI (ge.getD q default).dst gn.length) = true := by rw [and_iff, leI_iff, ltI_iff]; omega
    have n1 := nodeVErr_in (hn (ge.getD q default).src.toNat (by omega))
    have n2 := nodeVErr_in (hn (ge.getD q default).dst.toNat (by omega))
    have k1 := gk (ge.getD q default).src.toNat (by omega)
    have k2 := gk (ge.getD q default).dst.toNat (by omega)
    rw [scan_step _ hq]
    have hee : edgeV ns es gn ge q = bif leI es.length (ge.getD q default).ty then 6 else
      bif fitsB ns es (ge.getD q default).ty (gn.getD (ge.getD q default).src.toNat default) (gn.getD (ge.getD q default).dst.toNat default) then 0 else 13 := rfl
    rw [hee]
    cases hc : leI es.length (ge.getD q default).ty
    · cases hf : fitsB ns es (ge.getD q default).ty (gn.getD (ge.getD q default).src.toNat default) (gn.getD (ge.getD q default).dst.toNat default)
      · refine ⟨q, ?_⟩
        refine ev_by u9703 ?_
        simp only [t9703, go_sem, List.length_map, idx_map _ _ _ hq, hin, hc, hs, hd, idx_map _ gn (ge.getD q default).src.toNat (by omega), idx_map _ gn (ge.getD q default).dst.toNat (by omega), e10400 ht hv k1 n1 k2 n2, hf]
        rw [cond_lt (by omega)]
        rfl
      · refine ⟨n, ?_⟩
        refine ev_by u9703 ?_
        simp only [t9703, go_sem, List.length_map, idx_map _ _ _ hq, hin, hc, hs, hd, idx_map _ gn (ge.getD q default).src.toNat (by omega), idx_map _ gn (ge.getD q default).dst.toNat (by omega), e10400 ht hv k1 n1 k2 n2, hf, wrapS q (by omega), ih]
        rw [cond_lt (by omega)]
        rfl
    · refine ⟨q, ?_⟩
      refine ev_by u9703 ?_
      simp only [t9703, go_sem, List.length_map, idx_map _ _ _ hq, hin, hc]
      rw [cond_lt (by omega)]
      rfl
theorem e9701 (a b c d e f g h i : D) : ∀ q, q ≤ gn.length → (∀ i, i < q → nodeVErr ns (gn.getD i default) (vs.getD i default) = 0) → Tells 9701 [a, b, c, d, e, f, g, h, i, .int q, ndsD ns, edsD es, intsD gn, gesD ge, valsD vs] (thenE (scan (fun i => nodeVErr ns (gn.getD i default) (vs.getD i default)) (gn.length - q) q) (scan (edgeV ns es gn ge) ge.length 0)) := by
  obtain ⟨l1, l2, gk, gr⟩ := graphErr_ok hg
  refine down ?_ fun q hq ih => ?_
  · intro hn
    obtain ⟨n, h⟩ := e9703 ht hv hg hl hn a b c d e f g h i (.int gn.length) (valsD vs) 0 (by omega)
    refine ⟨n, ?_⟩
    rw [scan_end]
    refine ev_by u9701 ?_
    simp only [t9701, go_sem, List.length_map, ltI_irr]
    exact h
  · intro hn
    have hin : (leI 0 q && ltI q gn.length) = true := by rw [and_iff, leI_iff, ltI_iff]; omega
    rw [scan_step _ hq]
    by_cases h0 : nodeVErr ns (gn.getD q default) (vs.getD q default) = 0
    · obtain ⟨n, ih⟩ := ih fun i hi => by
        by_cases hiq : i = q
        · rw [hiq]; exact h0
        · exact hn i (by omega)
      refine ⟨n, ?_⟩
      refine ev_by u9701 ?_
      simp only [t9701, go_sem, List.length_map, hl, idx_map _ _ _ hq, idx_map _ vs q (by omega), hin, e10100 ht hv (gk q hq), wrapS q (by omega), ih]
      rw [cond_lt (by omega), cond_eq h0, if_pos h0]
    · refine ⟨q, ?_⟩
      refine ev_by u9701 ?_
      simp only [t9701, go_sem, List.length_map, hl, idx_map _ _ _ hq, idx_map _ vs q (by omega), hin, e10100 ht hv (gk q hq)]
      rw [cond_lt (by omega), cond_ne h0, if_neg h0]
      unfold thenE
      rw [if_neg h0]
end
section
variable {ns : List Nd} {es : List Ed} (ht : OkT ns es) {gn : List Int} {ge : List Ge} {vs : List (List Int)} (hg1 : gn.length ≤ 1000) (hg2 : ge.length ≤ 1000)
include ht hg1 hg2
theorem e4300 : Tells 4300 [ndsD ns, edsD es, intsD gn, gesD ge, valsD vs] (hostErr ns es gn ge vs) := by
  obtain ⟨s, h⟩ := e700 ht
  unfold hostErr
  by_cases hv : typesErr ns es = 0
  · rw [hv] at h ⊢
    have h00 : eqI 0 0 = true := by decide
    by_cases hg : graphErr gn ge = 0
    · rw [hg]
      unfold thenE
      rw [if_pos rfl, if_pos rfl]
      by_cases hl : vs.length = gn.length
      · rw [if_pos hl]
        obtain ⟨n, hn⟩ := e4301 ht hv hg hl (.int 0) (.int 0) (.int 0) (.int 0) 0 (by omega) (fun i hi => by omega)
        refine ⟨n, ?_⟩
        refine ev_by u4300 ?_
        simp only [t4300, go_sem, h, h00, e4400 gn ge (by omega) (by omega), hg, List.length_map]
        rw [cond_eq (by omega)]
        exact hn
      · rw [if_neg hl]
        refine ⟨-1, ?_⟩
        refine ev_by u4300 ?_
        simp only [t4300, go_sem, h, h00, e4400 gn ge (by omega) (by omega), hg, List.length_map]
        rw [cond_ne (by omega)]
    · unfold thenE
      rw [if_pos rfl, if_neg hg]
      refine ⟨-1, ?_⟩
      refine ev_by u4300 ?_
      simp only [t4300, go_sem, h, h00, e4400 gn ge (by omega) (by omega)]
      rw [cond_ne hg]
  · unfold thenE
    rw [if_neg hv]
    refine ⟨-1, ?_⟩
    refine ev_by u4300 ?_
    simp only [t4300, go_sem, h]
    rw [cond_ne hv]
theorem e9700 : Tells 9700 [ndsD ns, edsD es, intsD gn, gesD ge, valsD vs] (hostErr ns es gn ge vs) := by
  obtain ⟨s, h⟩ := e7900 ht
  unfold hostErr
  by_cases hv : typesErr ns es = 0
  · rw [hv] at h ⊢
    have h00 : eqI 0 0 = true := by decide
    by_cases hg : graphErr gn ge = 0
    · rw [hg]
      unfold thenE
      rw [if_pos rfl, if_pos rfl]
      by_cases hl : vs.length = gn.length
      · rw [if_pos hl]
        obtain ⟨n, hn⟩ := e9701 ht hv hg hl (ndsD ns) (edsD es) (intsD gn) (gesD ge) (valsD vs) (.int 0) (.int 0) (.int 0) (.int 0) 0 (by omega) (fun i hi => by omega)
        refine ⟨n, ?_⟩
        refine ev_by u9700 ?_
        simp only [t9700, go_sem, h, h00, e9800 gn ge (by omega) (by omega), hg, List.length_map]
        rw [cond_eq (by omega)]
        exact hn
      · rw [if_neg hl]
        refine ⟨-1, ?_⟩
        refine ev_by u9700 ?_
        simp only [t9700, go_sem, h, h00, e9800 gn ge (by omega) (by omega), hg, List.length_map]
        rw [cond_ne (by omega)]
    · unfold thenE
      rw [if_pos rfl, if_neg hg]
      refine ⟨-1, ?_⟩
      refine ev_by u9700 ?_
      simp only [t9700, go_sem, h, h00, e9800 gn ge (by omega) (by omega)]
      rw [cond_ne hg]
  · unfold thenE
    rw [if_neg hv]
    refine ⟨-1, ?_⟩
    refine ev_by u9700 ?_
    simp only [t9700, go_sem, h]
    rw [cond_ne hv]
def validErr (ns : List Nd) (es : List Ed) (sn se gn : List Int) (ge : List Ge) (vs : List (List Int)) : Int := thenE (sortsErr ns es sn se) (hostErr ns es gn ge vs)
theorem e500 (sn se : List Int) : ev 500 [ndsD ns, edsD es, intsD sn, intsD se, intsD gn, gesD ge, valsD vs] = some [.int (validErr ns es sn se gn ge vs)] := by
  obtain ⟨n, h⟩ := e4300 ht hg1 hg2 (vs := vs)
  refine ev_by u500 ?_
  simp only [t500, go_sem, e600 ht, h]
  unfold validErr thenE
  split
  · rename_i h0; rw [cond_eq h0]
  · rename_i h0; rw [cond_ne h0]
theorem e7700 (sn se : List Int) : ev 7700 [ndsD ns, edsD es, intsD sn, intsD se, intsD gn, gesD ge, valsD vs] = some [.int (validErr ns es sn se gn ge vs)] := by
  obtain ⟨n, h⟩ := e9700 ht hg1 hg2 (vs := vs)
  refine ev_by u7700 ?_
  simp only [t7700, go_sem, e7800 ht, h]
  unfold validErr thenE
  split
  · rename_i h0; rw [cond_eq h0]
  · rename_i h0; rw [cond_ne h0]
end
end Go.SX.T52

/-
Chapter 52, plain: the elements of a sort, pairs of hosts, hosts compared with themselves.
-/
set_option linter.unusedVariables false
set_option linter.unusedSimpArgs false
set_option linter.unusedSectionVars false
namespace Go.SX.T52
open Go.SX

/-! ### Valid triples -/
structure VH (sn se gn : List Int) (ge : List Ge) (vs : List (List Int)) : Prop where
  nk : ∀ j, j < gn.length → 0 ≤ gn.getD j default ∧ gn.getD j default < sn.length
  ek : ∀ j, j < ge.length → 0 ≤ (ge.getD j default).ty ∧ (ge.getD j default).ty < se.length ∧ 0 ≤ (ge.getD j default).src ∧ (ge.getD j default).src < gn.length ∧ 0 ≤ (ge.getD j default).dst ∧ (ge.getD j default).dst < gn.length
  l1 : gn.length ≤ 40
  l2 : ge.length ≤ 80
  lv : vs.length = gn.length
theorem thenE_ok {a b : Int} (h : thenE a b = 0) : a = 0 ∧ b = 0 := by
  unfold thenE at h
  split at h
  · rename_i h0; exact ⟨h0, h⟩
  · rename_i h0; exact absurd h h0
theorem edgeV_in {ns : List Nd} {es : List Ed} {gn : List Int} {ge : List Ge} {i : Nat} (h : edgeV ns es gn ge i = 0) : (ge.getD i default).ty < es.length := by
  unfold edgeV at h
  revert h
  cases hc : leI es.length (ge.getD i default).ty
  · rw [leI_false] at hc
    exact fun _ => hc
  · intro h; cases h
theorem hostErr_ok {ns : List Nd} {es : List Ed} {gn : List Int} {ge : List Ge} {vs : List (List Int)} (h : hostErr ns es gn ge vs = 0) : typesErr ns es = 0 ∧ graphErr gn ge = 0 ∧ vs.length = gn.length ∧
    (∀ j, j < gn.length → nodeVErr ns (gn.getD j default) (vs.getD j default) = 0) ∧ ∀ j, j < ge.length → edgeV ns es gn ge j = 0 := by
  unfold hostErr at h
  obtain ⟨h1, h⟩ := thenE_ok h
  obtain ⟨h2, h⟩ := thenE_ok h
  split at h
  · rename_i h3
    obtain ⟨h4, h5⟩ := thenE_ok h
    exact ⟨h1, h2, h3, fun j hj => scan_zero _ _ h4 j (by omega) (by omega), fun j hj => scan_zero _ _ h5 j (by omega) (by omega)⟩
  · cases h
theorem validErr_ok {ns : List Nd} {es : List Ed} {sn se gn : List Int} {ge : List Ge} {vs : List (List Int)} (h : validErr ns es sn se gn ge vs = 0) : sortsErr ns es sn se = 0 ∧ hostErr ns es gn ge vs = 0 ∧ VH sn se gn ge vs := by
  unfold validErr at h
  obtain ⟨h1, h2⟩ := thenE_ok h
  obtain ⟨_, a1, a2, _, _⟩ := sortsErr_ok h1
  obtain ⟨_, g0, b1, b2, b3⟩ := hostErr_ok h2
  obtain ⟨c1, c2, c3, c4⟩ := graphErr_ok g0
  exact ⟨h1, h2, ⟨fun j hj => ⟨c3 j hj, by rw [a1]; exact nodeVErr_in (b2 j hj)⟩, fun j hj => ⟨(c4 j hj).1, by rw [a2]; exact edgeV_in (b3 j hj), (c4 j hj).2⟩, c1, c2, b1⟩⟩

/-! ### The elements of a sort -/
def idxK (p : Nat → Bool) : Nat → Nat → List Int
  | 0, _ => []
  | k + 1, i => (bif p i then [(i : Int)] else []) ++ idxK p k (i + 1)
theorem idxK_end (p : Nat → Bool) (n : Nat) : idxK p (n - n) n = [] := by rw [Nat.sub_self]; rfl
theorem idxK_step (p : Nat → Bool) {n i : Nat} (h : i < n) : idxK p (n - i) i = (bif p i then [(i : Int)] else []) ++ idxK p (n - (i + 1)) (i + 1) := by
  rw [show n - i = (n - (i + 1)) + 1 by omega]
  rfl
theorem idxK_len (p : Nat → Bool) : ∀ (k i : Nat), (idxK p k i).length ≤ k
  | 0, i => by simp [idxK]
  | k + 1, i => by
    have := idxK_len p k (i + 1)
    unfold idxK
    cases p i <;> simp <;> omega
theorem idxK_mem {p : Nat → Bool} : ∀ {k i : Nat} {x : Int}, x ∈ idxK p k i ↔ ∃ j : Nat, x = j ∧ i ≤ j ∧ j < i + k ∧ p j = true
  | 0, i, x => by
    simp only [idxK, List.not_mem_nil, false_iff]
    rintro ⟨j, _, h1, h2, _⟩
    omega
  | k + 1, i, x => by
    unfold idxK
    rw [List.mem_append, idxK_mem]
    constructor
    · rintro (h | ⟨j, h1, h2, h3, h4⟩)
      · cases hp : p i
        · rw [hp] at h; cases h
        · rw [hp] at h
          simp only [go_sem, List.mem_singleton] at h
          exact ⟨i, h, by omega, by omega, hp⟩
      · exact ⟨j, h1, by omega, by omega, h4⟩
    · rintro ⟨j, h1, h2, h3, h4⟩
      by_cases hji : j = i
      · subst hji
        rw [h4]
        exact .inl (by simp [h1])
      · exact .inr ⟨j, h1, by omega, by omega, h4⟩
def partV (sn gn : List Int) (s : Int) : List Int := idxK (fun j => eqI (sn.getD (gn.getD j default).toNat default) s) gn.length 0
def partE (se : List Int) (ge : List Ge) (s : Int) : List Int := idxK (fun j => eqI (se.getD (ge.getD j default).ty.toNat default) s) ge.length 0
theorem app_one (o : List Int) (i : Int) : o.map D.int ++ [.int i] = (o ++ [i]).map D.int := by simp
section
variable {sn se gn : List Int} {ge : List Ge} {vs : List (List Int)} (h : VH sn se gn ge vs) (s : Int)
include h
theorem e11903 {e : D} (a b c d : D) : ∀ i, i ≤ ge.length → ∀ o : List Int, o.length ≤ i → ev 11903 [a, intsD se, b, gesD ge, .int s, c, d, .int ge.length, .int i, e, intsD o] = some [e, intsD (o ++ idxK (fun j => eqI (se.getD (ge.getD j default).ty.toNat default) s) (ge.length - i) i)] := by
  have hl := h.l2
  refine down ?_ fun i hi ih => ?_
  · intro o ho
    refine ev_by u11903 ?_
    simp only [t11903, go_sem, ltI_irr, idxK_end, List.append_nil]
  · intro o ho
    have hin : (leI 0 i && ltI i ge.length) = true := by rw [and_iff, leI_iff, ltI_iff]; omega
    obtain ⟨k1, k2, _⟩ := h.ek i hi
    have hk : (leI 0 (ge.getD i default).ty && ltI (ge.getD i default).ty se.length) = true := by rw [and_iff, leI_iff, ltI_iff]; omega
    refine ev_by u11903 ?_
    simp only [t11903, go_sem, List.length_map, idx_map _ _ _ hi, hin, hk, idx_map _ se (ge.getD i default).ty.toNat (by omega), wrapS i (by omega), app_one]
    rw [cond_lt (by omega), cond_le (by omega), idxK_step _ hi]
    cases eqI (se.getD (ge.getD i default).ty.toNat default) s
    · exact ih o (by omega)
    · have := ih (o ++ [(i : Int)]) (by simp; omega)
      simp only [go_sem, this, List.append_assoc]
theorem e11901 : ∀ i, i ≤ gn.length → ∀ o : List Int, o.length ≤ i → ev 11901 [intsD sn, intsD se, intsD gn, gesD ge, .int s, .int gn.length, .int i, intsD o, intsD []] = some [intsD (o ++ idxK (fun j => eqI (sn.getD (gn.getD j default).toNat default) s) (gn.length - i) i), intsD (partE se ge s)] := by
  have hl := h.l1
  refine down ?_ fun i hi ih => ?_
  · intro o ho
    refine ev_by u11901 ?_
    simp only [t11901, go_sem, List.length_map, ltI_irr, idxK_end, List.append_nil]
    exact e11903 h s _ _ _ _ 0 (by omega) [] (by simp)
  · intro o ho
    have hin : (leI 0 i && ltI i gn.length) = true := by rw [and_iff, leI_iff, ltI_iff]; omega
    obtain ⟨k1, k2⟩ := h.nk i hi
    have hk : (leI 0 (gn.getD i default) && ltI (gn.getD i default) sn.length) = true := by rw [and_iff, leI_iff, ltI_iff]; omega
    refine ev_by u11901 ?_
    simp only [t11901, go_sem, List.length_map, idx_map _ _ _ hi, hin, hk, idx_map _ sn (gn.getD i default).toNat (by omega), wrapS i (by omega), app_one]
    rw [cond_lt (by omega), cond_le (by omega), idxK_step _ hi]
    cases eqI (sn.getD (gn.getD i default).toNat default) s
    · exact ih o (by omega)
    · have := ih (o ++ [(i : Int)]) (by simp; omega)
      rw [List.append_assoc] at this
      exact this
theorem e11900 : ev 11900 [intsD sn, intsD se, intsD gn, gesD ge, .int s] = some [intsD (partV sn gn s), intsD (partE se ge s)] := by
  refine ev_by u11900 ?_
  simp only [t11900, go_sem, List.length_map]
  exact e11901 h s 0 (by omega) [] (by simp)
theorem e10603 {e : D} (a b c : D) : ∀ i, i ≤ ge.length → ∀ o : List Int, o.length ≤ i → ev 10603 [a, intsD se, b, gesD ge, .int s, c, .int i, e, intsD o] = some [e, intsD (o ++ idxK (fun j => eqI (se.getD (ge.getD j default).ty.toNat default) s) (ge.length - i) i)] := by
  have hl := h.l2
  refine down ?_ fun i hi ih => ?_
  · intro o ho
    refine ev_by u10603 ?_
    simp only [t10603, go_sem, List.length_map, ltI_irr, idxK_end, List.append_nil]
  · intro o ho
    have hin : (leI 0 i && ltI i ge.length) = true := by rw [and_iff, leI_iff, ltI_iff]; omega
    obtain ⟨k1, k2, _⟩ := h.ek i hi
    have hk : (leI 0 (ge.getD i default).ty && ltI (ge.getD i default).ty se.length) = true := by rw [and_iff, leI_iff, ltI_iff]; omega
    refine ev_by u10603 ?_
    simp only [t10603, go_sem, List.length_map, idx_map _ _ _ hi, hin, hk, idx_map _ se (ge.getD i default).ty.toNat (by omega), wrapS i (by omega), app_one]
    rw [cond_lt (by omega), cond_le (by omega), idxK_step _ hi]
    cases eqI (se.getD (ge.getD i default).ty.toNat default) s
    · exact ih o (by omega)
    · have := ih (o ++ [(i : Int)]) (by simp; omega)
      simp only [go_sem, this, List.append_assoc]
theorem e10601 : ∀ i, i ≤ gn.length → ∀ o : List Int, o.length ≤ i → ev 10601 [intsD sn, intsD se, intsD gn, gesD ge, .int s, .int i, intsD o, intsD []] = some [intsD (o ++ idxK (fun j => eqI (sn.getD (gn.getD j default).toNat default) s) (gn.length - i) i), intsD (partE se ge s)] := by
  have hl := h.l1
  refine down ?_ fun i hi ih => ?_
  · intro o ho
    refine ev_by u10601 ?_
    simp only [t10601, go_sem, List.length_map, ltI_irr, idxK_end, List.append_nil]
    exact e10603 h s _ _ _ 0 (by omega) [] (by simp)
  · intro o ho
    have hin : (leI 0 i && ltI i gn.length) = true := by rw [and_iff, leI_iff, ltI_iff]; omega
    obtain ⟨k1, k2⟩ := h.nk i hi
    have hk : (leI 0 (gn.getD i default) && ltI (gn.getD i default) sn.length) = true := by rw [and_iff, leI_iff, ltI_iff]; omega
    refine ev_by u10601 ?_
    simp only [t10601, go_sem, List.length_map, idx_map _ _ _ hi, hin, hk, idx_map _ sn (gn.getD i default).toNat (by omega), wrapS i (by omega), app_one]
    rw [cond_lt (by omega), cond_le (by omega), idxK_step _ hi]
    cases eqI (sn.getD (gn.getD i default).toNat default) s
    · exact ih o (by omega)
    · have := ih (o ++ [(i : Int)]) (by simp; omega)
      rw [List.append_assoc] at this
      exact this
theorem e10600 : ev 10600 [intsD sn, intsD se, intsD gn, gesD ge, .int s] = some [intsD (partV sn gn s), intsD (partE se ge s)] := by
  refine ev_by u10600 ?_
  simp only [t10600, go_sem]
  exact e10601 h s 0 (by omega) [] (by simp)
def onlyB (sn se gn : List Int) (ge : List Ge) (s : Int) : Bool := eqI (partV sn gn s).length gn.length && eqI (partE se ge s).length ge.length
theorem e11800 : ev 11800 [intsD sn, intsD se, intsD gn, gesD ge, .int s] = some [.bool (onlyB sn se gn ge s)] := by
  refine ev_by u11800 ?_
  simp only [t11800, go_sem, e11900 h s, List.length_map]
  unfold onlyB
  cases eqI (partV sn gn s).length gn.length <;> rfl
theorem e12600 : ev 12600 [intsD sn, intsD se, intsD gn, gesD ge, .int s] = some [.bool (onlyB sn se gn ge s)] := by
  refine ev_by u12600 ?_
  simp only [t12600, go_sem, e10600 h s, List.length_map]
  unfold onlyB
  cases eqI (partV sn gn s).length gn.length <;> rfl
end

/-! ### Lists put together -/
theorem e12100 {n : Nat} (hn : n ≤ 1000000) : ev 12100 [.int n] = some [intsD []] := by
  have z : IntKind.i64.wrap (0 - 0) = 0 := by decide
  have z2 : (n : Int) - 0 = n := by omega
  refine ev_by u12100 ?_
  simp only [t12100, go_sem, z, z2, nowrap (n := (n : Int)) (by omega) (by omega), List.take_zero, List.length_replicate, Int.toNat_natCast]
  rw [cond_nlt (by omega)]
  by_cases h : 0 < n
  · rw [cond_lt (by omega), cond_le (by omega), cond_le (by omega), cond_le (by omega)]
    rfl
  · rw [cond_nlt (by omega)]
    rfl
theorem e12000 (a b : List Int) (ha : a.length ≤ 1000) (hb : b.length ≤ 1000) : ev 12000 [.list [intsD a, intsD b]] = some [intsD (a ++ b)] := by
  have c0 : IntKind.i64.wrap (0 + (a.length : Int)) = ((a.length : Nat) : Int) := by rw [nowrap (by omega) (by omega)]; omega
  have c1 : IntKind.i64.wrap ((a.length : Int) + (b.length : Int)) = ((a.length + b.length : Nat) : Int) := by rw [nowrap (by omega) (by omega)]; omega
  have w0 : IntKind.i64.wrap (0 + 1) = 1 := by decide
  have w1 : IntKind.i64.wrap (1 + 1) = 2 := by decide
  have l01 : (leI 0 0 && ltI 0 2) = true := by decide
  have l11 : (leI 0 1 && ltI 1 2) = true := by decide
  have s3 : ∀ (x y z : D), ev 12003 [.list [intsD a, intsD b], x, y, z, .int 2, .int 2, intsD (a ++ b)] = some [intsD (a ++ b)] := by
    intro x y z
    refine ev_by u12003 ?_
    simp only [t12003, go_sem, ltI_irr]
  have s2 : ∀ (x y z : D), ev 12003 [.list [intsD a, intsD b], x, y, z, .int 2, .int 1, intsD a] = some [intsD (a ++ b)] := by
    intro x y z
    refine ev_by u12003 ?_
    simp only [t12003, go_sem, List.length_map, List.length_cons, List.length_nil, l11, w1, ← List.map_append]
    rw [cond_lt (by decide), cond_in (by decide) (by decide), cond_le (by omega), cond_le (by omega)]
    exact s3 x y z
  have s1 : ∀ (x y z : D), ev 12003 [.list [intsD a, intsD b], x, y, z, .int 2, .int 0, intsD []] = some [intsD (a ++ b)] := by
    intro x y z
    refine ev_by u12003 ?_
    simp only [t12003, go_sem, List.length_map, List.length_cons, List.length_nil, l01, w0]
    rw [cond_lt (by decide), cond_in (by decide) (by decide), cond_le (by decide), cond_le (by omega)]
    exact s2 x y z
  have r2 : ev 12001 [.list [intsD a, intsD b], .int ((a.length + b.length : Nat) : Int), .int 2, .int 2] = some [intsD (a ++ b)] := by
    refine ev_by u12001 ?_
    simp only [t12001, go_sem, ltI_irr, e12100 (n := a.length + b.length) (by omega)]
    exact s1 _ _ _
  have r1 : ev 12001 [.list [intsD a, intsD b], .int (a.length : Int), .int 2, .int 1] = some [intsD (a ++ b)] := by
    refine ev_by u12001 ?_
    simp only [t12001, go_sem, List.length_map, List.length_cons, List.length_nil, l11, w1, c1]
    rw [cond_lt (by decide), cond_in (by decide) (by decide), cond_nlt (by omega)]
    exact r2
  have r0 : ev 12001 [.list [intsD a, intsD b], .int 0, .int 2, .int 0] = some [intsD (a ++ b)] := by
    refine ev_by u12001 ?_
    simp only [t12001, go_sem, List.length_map, List.length_cons, List.length_nil, l01, w0, c0]
    rw [cond_lt (by decide), cond_in (by decide) (by decide), cond_nlt (by omega)]
    exact r1
  refine ev_by u12000 ?_
  simp only [t12000, go_sem, List.length_cons, List.length_nil]
  exact r0
theorem e12400 {n : Nat} (hn : n ≤ 1000000) : ev 12400 [.int n] = some [valsD []] := by
  have z : IntKind.i64.wrap (0 - 0) = 0 := by decide
  have z2 : (n : Int) - 0 = n := by omega
  refine ev_by u12400 ?_
  simp only [t12400, go_sem, z, z2, nowrap (n := (n : Int)) (by omega) (by omega), List.take_zero, List.length_replicate, Int.toNat_natCast]
  rw [cond_nlt (by omega)]
  by_cases h : 0 < n
  · rw [cond_lt (by omega), cond_le (by omega), cond_le (by omega), cond_le (by omega)]
    rfl
  · rw [cond_nlt (by omega)]
    rfl
theorem e12300 (a b : List (List Int)) (ha : a.length ≤ 1000) (hb : b.length ≤ 1000) : ev 12300 [.list [valsD a, valsD b]] = some [valsD (a ++ b)] := by
  have c0 : IntKind.i64.wrap (0 + (a.length : Int)) = ((a.length : Nat) : Int) := by rw [nowrap (by omega) (by omega)]; omega
  have c1 : IntKind.i64.wrap ((a.length : Int) + (b.length : Int)) = ((a.length + b.length : Nat) : Int) := by rw [nowrap (by omega) (by omega)]; omega
  have w0 : IntKind.i64.wrap (0 + 1) = 1 := by decide
  have w1 : IntKind.i64.wrap (1 + 1) = 2 := by decide
  have l01 : (leI 0 0 && ltI 0 2) = true := by decide
  have l11 : (leI 0 1 && ltI 1 2) = true := by decide
  have s3 : ∀ (x y z : D), ev 12303 [.list [valsD a, valsD b], x, y, z, .int 2, .int 2, valsD (a ++ b)] = some [valsD (a ++ b)] := by
    intro x y z
    refine ev_by u12303 ?_
    simp only [t12303, go_sem, ltI_irr]
  have s2 : ∀ (x y z : D), ev 12303 [.list [valsD a, valsD b], x, y, z, .int 2, .int 1, valsD a] = some [valsD (a ++ b)] := by
    intro x y z
    refine ev_by u12303 ?_
    simp only [t12303, go_sem, List.length_map, List.length_cons, List.length_nil, l11, w1, ← List.map_append]
    rw [cond_lt (by decide), cond_in (by decide) (by decide), cond_le (by omega), cond_le (by omega)]
    exact s3 x y z
  have s1 : ∀ (x y z : D), ev 12303 [.list [valsD a, valsD b], x, y, z, .int 2, .int 0, valsD []] = some [valsD (a ++ b)] := by
    intro x y z
    refine ev_by u12303 ?_
    simp only [t12303, go_sem, List.length_map, List.length_cons, List.length_nil, l01, w0]
    rw [cond_lt (by decide), cond_in (by decide) (by decide), cond_le (by decide), cond_le (by omega)]
    exact s2 x y z
  have r2 : ev 12301 [.list [valsD a, valsD b], .int ((a.length + b.length : Nat) : Int), .int 2, .int 2] = some [valsD (a ++ b)] := by
    refine ev_by u12301 ?_
    simp only [t12301, go_sem, ltI_irr, e12400 (n := a.length + b.length) (by omega)]
    exact s1 _ _ _
  have r1 : ev 12301 [.list [valsD a, valsD b], .int (a.length : Int), .int 2, .int 1] = some [valsD (a ++ b)] := by
    refine ev_by u12301 ?_
    simp only [t12301, go_sem, List.length_map, List.length_cons, List.length_nil, l11, w1, c1]
    rw [cond_lt (by decide), cond_in (by decide) (by decide), cond_nlt (by omega)]
    exact r2
  have r0 : ev 12301 [.list [valsD a, valsD b], .int 0, .int 2, .int 0] = some [valsD (a ++ b)] := by
    refine ev_by u12301 ?_
    simp only [t12301, go_sem, List.length_map, List.length_cons, List.length_nil, l01, w0, c0]
    rw [cond_lt (by decide), cond_in (by decide) (by decide), cond_nlt (by omega)]
    exact r1
  refine ev_by u12300 ?_
  simp only [t12300, go_sem, List.length_cons, List.length_nil]
  exact r0
theorem e12200 {l : List Ge} (hl : l.length ≤ 1000000) : ev 12200 [gesD l] = some [gesD l] := by
  refine ev_by u12200 ?_
  unfold t12200
  have h1 : (T.ck (.o2 .le (.o1 .len (.v 0)) (.i 1073741824)) (.ret [.v 0])).go ev [gesD l] = some [gesD l] := by
    simp only [go_sem, List.length_map]
    rw [cond_le (by omega)]
  rw [go_am_eq]
  · exact h1
  · intro h0
    have h0' : l.map Ge.d = [] := h0
    rw [h1]
    show some [D.list []] = some [D.list (l.map Ge.d)]
    rw [h0']

/-! ### Pairs -/
def moveE (n : Nat) (e : Ge) : Ge := ⟨e.ty, e.src + n, e.dst + n⟩
def move (n : Nat) (l : List Ge) : List Ge := l.map (moveE n)
theorem drop_cons {α : Type} [Inhabited α] {l : List α} {i : Nat} (hi : i < l.length) : l.drop i = l.getD i default :: l.drop (i + 1) := by
  rw [List.drop_eq_getElem_cons hi, List.getD_eq_getElem?_getD, List.getElem?_eq_getElem hi]
  rfl
theorem e11704 (vs : List (List Int)) (hl : vs.length ≤ 1000) (hs : ∀ j, j < vs.length → (vs.getD j default).length ≤ 12) (a b c d e f g h i j k l m n o p q : D) : ∀ y, y ≤ vs.length → ∀ z : List (List Int), z.length ≤ y →
    ev 11704 [a, b, c, d, e, f, g, h, i, j, k, l, m, n, o, .int vs.length, .int y, valsD vs, p, q, valsD z] = some [p, q, valsD (z ++ vs.drop y), .int 0] := by
  refine down ?_ fun y hy ih => ?_
  · intro z hz
    refine ev_by u11704 ?_
    simp only [t11704, go_sem, ltI_irr, List.drop_length, List.append_nil]
  · intro z hz
    have hin : (leI 0 y && ltI y vs.length) = true := by rw [and_iff, leI_iff, ltI_iff]; omega
    have h12 := hs y hy
    have e1 : z.map intsD ++ [intsD (vs.getD y default)] = (z ++ [vs.getD y default]).map intsD := by simp
    have := ih (z ++ [vs.getD y default]) (by simp; omega)
    refine ev_by u11704 ?_
    simp only [t11704, go_sem, List.length_map, idx_map _ _ _ hy, hin, e11100 (l := vs.getD y default) (by omega), wrapS y (by omega), e1, this]
    rw [cond_lt (by omega), cond_le (by omega), drop_cons hy, List.append_assoc]
    rfl
theorem e11702 {ge' : List Ge} (hl : ge'.length ≤ 1000) (n : Nat) (hn : n ≤ 1000) (hb : ∀ j, j < ge'.length → 0 ≤ (ge'.getD j default).src ∧ (ge'.getD j default).src ≤ 1000 ∧ 0 ≤ (ge'.getD j default).dst ∧ (ge'.getD j default).dst ≤ 1000)
    (vs vs' : List (List Int)) (hv : vs.length ≤ 400) (hv' : vs'.length ≤ 400) (hs : ∀ j, j < vs.length → (vs.getD j default).length ≤ 12) (hs' : ∀ j, j < vs'.length → (vs'.getD j default).length ≤ 12) (a b c d e f h i j : D) (p : D) :
    ∀ y, y ≤ ge'.length → ∀ o : List Ge, o.length ≤ 1000 + y → ev 11702 [a, b, c, d, e, f, valsD vs, h, gesD ge', valsD vs', i, j, .int n, .int ge'.length, .int y, p, gesD o, valsD []] = some [p, gesD (o ++ move n (ge'.drop y)), valsD (vs ++ vs'), .int 0] := by
  refine down ?_ fun y hy ih => ?_
  · intro o ho
    have hcat := e12300 vs vs' (by omega) (by omega)
    have h4 := e11704 (vs ++ vs') (by simp; omega) (fun q hq => by
      have hm : (vs ++ vs').getD q default ∈ vs ++ vs' := getD_mem hq
      rcases List.mem_append.1 hm with hm | hm
      · obtain ⟨r, hr, he⟩ := mem_getD hm
        rw [← he]; exact hs r hr
      · obtain ⟨r, hr, he⟩ := mem_getD hm
        rw [← he]; exact hs' r hr) a b c d e f (valsD vs) h (gesD ge') (valsD vs') i j (.int n) (.int ge'.length) (.int ge'.length) p (gesD o) 0 (by omega) [] (by simp)
    refine ev_by u11702 ?_
    simp only [t11702, go_sem, ltI_irr, hcat, List.length_map, List.drop_length]
    refine h4.trans ?_
    simp [move]
  · intro o ho
    have hin : (leI 0 y && ltI y ge'.length) = true := by rw [and_iff, leI_iff, ltI_iff]; omega
    obtain ⟨b1, b2, b3, b4⟩ := hb y hy
    have e1 : o.map Ge.d ++ [.agg [.int (ge'.getD y default).ty, .int ((ge'.getD y default).src + n), .int ((ge'.getD y default).dst + n)]] = (o ++ [moveE n (ge'.getD y default)]).map Ge.d := by simp [moveE]
    have := ih (o ++ [moveE n (ge'.getD y default)]) (by simp; omega)
    refine ev_by u11702 ?_
    simp only [t11702, go_sem, List.length_map, idx_map _ _ _ hy, hin, wrapS y (by omega), nowrap (n := (ge'.getD y default).src + n) (by omega) (by omega), nowrap (n := (ge'.getD y default).dst + n) (by omega) (by omega), e1, this]
    rw [cond_lt (by omega), cond_le (by omega), drop_cons hy, List.append_assoc]
    rfl
theorem e12701 {vs : List (List Int)} (hl : vs.length ≤ 1000) (hs : ∀ j, j < vs.length → (vs.getD j default).length ≤ 12) (a b c d : D) : ∀ y, y ≤ vs.length → ∀ o : List (List Int), o.length ≤ y → ev 12701 [a, b, valsD vs, .int y, c, d, valsD o] = some [c, d, valsD (o ++ vs.drop y)] := by
  refine down ?_ fun y hy ih => ?_
  · intro o ho
    refine ev_by u12701 ?_
    simp only [t12701, go_sem, List.length_map, ltI_irr, List.drop_length, List.append_nil]
  · intro o ho
    have hin : (leI 0 y && ltI y vs.length) = true := by rw [and_iff, leI_iff, ltI_iff]; omega
    have h12 := hs y hy
    have e1 : o.map intsD ++ [intsD (vs.getD y default)] = (o ++ [vs.getD y default]).map intsD := by simp
    have e2 : D.list ((vs.getD y default).map D.int) = intsD (vs.getD y default) := rfl
    have := ih (o ++ [vs.getD y default]) (by simp; omega)
    refine ev_by u12701 ?_
    simp only [t12701, go_sem, List.length_map, idx_map _ _ _ hy, hin, wrapS y (by omega), e1, this]
    rw [cond_lt (by omega), cond_le (by omega), cond_le (by omega), drop_cons hy, List.append_assoc]
    rfl
theorem e12700 {gn : List Int} {ge : List Ge} {vs : List (List Int)} (h1 : gn.length ≤ 1000) (h2 : ge.length ≤ 1000) (hl : vs.length ≤ 1000) (hs : ∀ j, j < vs.length → (vs.getD j default).length ≤ 12) : ev 12700 [intsD gn, gesD ge, valsD vs] = some [intsD gn, gesD ge, valsD vs] := by
  have h : ev 12800 [intsD gn, gesD ge] = some [intsD gn, gesD ge] := by
    refine ev_by u12800 ?_
    simp only [t12800, go_sem, List.length_map]
    rw [cond_le (by omega), cond_le (by omega)]
  refine ev_by u12700 ?_
  simp only [t12700, go_sem, h]
  exact e12701 hl hs _ _ _ _ 0 (by omega) [] (by simp)
theorem e12501 {ge' : List Ge} (hl : ge'.length ≤ 1000) (n : Nat) (hn : n ≤ 1000) (hb : ∀ j, j < ge'.length → 0 ≤ (ge'.getD j default).src ∧ (ge'.getD j default).src ≤ 1000 ∧ 0 ≤ (ge'.getD j default).dst ∧ (ge'.getD j default).dst ≤ 1000)
    (a b c d e f g h i j k l p q r s : D) : ∀ y, y ≤ ge'.length → ∀ o : List Ge, o.length ≤ 1000 + y → ev 12501 [a, b, c, d, e, f, g, h, i, j, k, l, .int n, .int y, p, gesD o, q, r, gesD ge', s] = some [p, gesD (o ++ move n (ge'.drop y)), q, .int 0] := by
  refine down ?_ fun y hy ih => ?_
  · intro o ho
    refine ev_by u12501 ?_
    simp only [t12501, go_sem, List.length_map, ltI_irr, List.drop_length]
    simp [move]
  · intro o ho
    have hin : (leI 0 y && ltI y ge'.length) = true := by rw [and_iff, leI_iff, ltI_iff]; omega
    obtain ⟨b1, b2, b3, b4⟩ := hb y hy
    have e1 : o.map Ge.d ++ [.agg [.int (ge'.getD y default).ty, .int ((ge'.getD y default).src + n), .int ((ge'.getD y default).dst + n)]] = (o ++ [moveE n (ge'.getD y default)]).map Ge.d := by simp [moveE]
    have := ih (o ++ [moveE n (ge'.getD y default)]) (by simp; omega)
    refine ev_by u12501 ?_
    simp only [t12501, go_sem, List.length_map, idx_map _ _ _ hy, hin, wrapS y (by omega), nowrap (n := (ge'.getD y default).src + n) (by omega) (by omega), nowrap (n := (ge'.getD y default).dst + n) (by omega) (by omega), e1, this]
    rw [cond_lt (by omega), cond_le (by omega), drop_cons hy, List.append_assoc]
    rfl
def hostD (gn : List Int) (ge : List Ge) (vs : List (List Int)) (e : Int) : List D := [intsD gn, gesD ge, valsD vs, .int e]
def pairRes (ns : List Nd) (es : List Ed) (sn se gn : List Int) (ge : List Ge) (vs : List (List Int)) (gn' : List Int) (ge' : List Ge) (vs' : List (List Int)) : List D :=
  if validErr ns es sn se gn ge vs = 0 then (if validErr ns es sn se gn' ge' vs' = 0 then
    (bif onlyB sn se gn ge 1 && onlyB sn se gn' ge' 3 then
      (if 40 < gn.length + gn'.length ∨ 80 < ge.length + ge'.length then hostD [] [] [] 3 else hostD (gn ++ gn') (ge ++ move gn.length ge') (vs ++ vs') 0)
    else hostD [] [] [] 1)
    else hostD [] [] [] (validErr ns es sn se gn' ge' vs')) else hostD [] [] [] (validErr ns es sn se gn ge vs)
section
variable {ns : List Nd} {es : List Ed} (ht : OkT ns es) {sn se gn gn' : List Int} {ge ge' : List Ge} {vs vs' : List (List Int)} (hf : FewH gn ge vs) (hf' : FewH gn' ge' vs')
include ht hf hf'
theorem e11700 : ev 11700 [ndsD ns, edsD es, intsD sn, intsD se, intsD gn, gesD ge, valsD vs, intsD gn', gesD ge', valsD vs'] = some (pairRes ns es sn se gn ge vs gn' ge' vs') := by
  obtain ⟨f1, f2, f3, f4⟩ := hf
  obtain ⟨f1', f2', f3', f4'⟩ := hf'
  have hv := e500 ht (gn := gn) (ge := ge) (vs := vs) (by omega) (by omega) sn se
  have hv' := e500 ht (gn := gn') (ge := ge') (vs := vs') (by omega) (by omega) sn se
  unfold pairRes
  by_cases h1 : validErr ns es sn se gn ge vs = 0
  · rw [if_pos h1]
    by_cases h2 : validErr ns es sn se gn' ge' vs' = 0
    · rw [if_pos h2]
      obtain ⟨_, _, V⟩ := validErr_ok h1
      obtain ⟨_, _, V'⟩ := validErr_ok h2
      have o1 := e11800 V 1
      have o2 := e11800 V' 3
      rw [h1] at hv
      rw [h2] at hv'
      have h00 : eqI 0 0 = true := by decide
      have m1 := V.l1
      have m2 := V.l2
      have m1' := V'.l1
      have m2' := V'.l2
      have hcat := e12000 gn gn' (by omega) (by omega)
      refine ev_by u11700 ?_
      simp only [t11700, go_sem, hv, hv', h00, o1, o2, List.length_map, nowrap (n := (gn.length : Int) + gn'.length) (by omega) (by omega), nowrap (n := (ge.length : Int) + ge'.length) (by omega) (by omega), hcat, e12200 (l := ge) (by omega)]
      cases onlyB sn se gn ge 1
      · rfl
      · cases onlyB sn se gn' ge' 3
        · rfl
        · simp only [go_sem, Bool.and_self]
          split
          · rename_i hc
            by_cases hc1 : 40 < gn.length + gn'.length
            · rw [cond_lt (by omega)]; rfl
            · rw [cond_nlt (by omega), cond_lt (by omega)]; rfl
          · rename_i hc
            rw [cond_nlt (by omega), cond_nlt (by omega)]
            exact e11702 (ge' := ge') (by omega) gn.length (by omega) (fun j hj => by have := V'.ek j hj; omega) vs vs' (by omega) (by omega) f4 f4' _ _ _ _ _ _ _ _ _ _ 0 (by omega) ge (by omega)
    · rw [if_neg h2]
      rw [h1] at hv
      have h00 : eqI 0 0 = true := by decide
      refine ev_by u11700 ?_
      simp only [t11700, go_sem, hv, hv', h00]
      rw [cond_ne h2]
      rfl
  · rw [if_neg h1]
    refine ev_by u11700 ?_
    simp only [t11700, go_sem, hv]
    rw [cond_ne h1]
    rfl
theorem e12500 : ev 12500 [ndsD ns, edsD es, intsD sn, intsD se, intsD gn, gesD ge, valsD vs, intsD gn', gesD ge', valsD vs'] = some (pairRes ns es sn se gn ge vs gn' ge' vs') := by
  obtain ⟨f1, f2, f3, f4⟩ := hf
  obtain ⟨f1', f2', f3', f4'⟩ := hf'
  have hv := e7700 ht (gn := gn) (ge := ge) (vs := vs) (by omega) (by omega) sn se
  have hv' := e7700 ht (gn := gn') (ge := ge') (vs := vs') (by omega) (by omega) sn se
  unfold pairRes
  by_cases h1 : validErr ns es sn se gn ge vs = 0
  · rw [if_pos h1]
    by_cases h2 : validErr ns es sn se gn' ge' vs' = 0
    · rw [if_pos h2]
      obtain ⟨_, _, V⟩ := validErr_ok h1
      obtain ⟨_, _, V'⟩ := validErr_ok h2
      have o1 := e12600 V 1
      have o2 := e12600 V' 3
      rw [h1] at hv
      rw [h2] at hv'
      have h00 : eqI 0 0 = true := by decide
      have m1 := V.l1
      have m2 := V.l2
      have m1' := V'.l1
      have m2' := V'.l2
      have c1 := e12700 (gn := gn) (ge := ge) (vs := vs) (by omega) (by omega) (by omega) f4
      have c2 := e12700 (gn := gn') (ge := ge') (vs := vs') (by omega) (by omega) (by omega) f4'
      refine ev_by u12500 ?_
      simp only [t12500, go_sem, hv, hv', h00, o1, o2, List.length_map, nowrap (n := (gn.length : Int) + gn'.length) (by omega) (by omega), nowrap (n := (ge.length : Int) + ge'.length) (by omega) (by omega), c1, c2, ← List.map_append]
      cases onlyB sn se gn ge 1
      · rfl
      · cases onlyB sn se gn' ge' 3
        · rfl
        · simp only [go_sem, Bool.and_self]
          split
          · rename_i hc
            by_cases hc1 : 40 < gn.length + gn'.length
            · rw [cond_lt (by omega)]; rfl
            · rw [cond_nlt (by omega), cond_lt (by omega)]; rfl
          · rename_i hc
            rw [cond_nlt (by omega), cond_nlt (by omega), cond_le (by omega), cond_le (by omega), cond_le (by omega), cond_le (by omega)]
            exact e12501 (ge' := ge') (by omega) gn.length (by omega) (fun j hj => by have := V'.ek j hj; omega) _ _ _ _ _ _ _ _ _ _ _ _ _ _ _ _ 0 (by omega) ge (by omega)
    · rw [if_neg h2]
      rw [h1] at hv
      have h00 : eqI 0 0 = true := by decide
      refine ev_by u12500 ?_
      simp only [t12500, go_sem, hv, hv', h00]
      rw [cond_ne h2]
      rfl
  · rw [if_neg h1]
    refine ev_by u12500 ?_
    simp only [t12500, go_sem, hv]
    rw [cond_ne h1]
    rfl
end

/-! ### Hosts are equal to themselves -/
theorem e13001 (l : List Ge) (hl : Len l.length) (a b x : D) : ∀ i, i ≤ l.length → ev 13001 [a, gesD l, b, gesD l, x, .int i] = some [.bool true] := by
  refine down ?_ fun i hi ih => ?_
  · refine ev_by u13001 ?_
    simp only [t13001, go_sem, List.length_map, ltI_irr]
  · have hin : (leI 0 i && ltI i l.length) = true := by rw [and_iff, leI_iff, ltI_iff]; omega
    have hq : ∀ n : Int, eqI n n = true := fun n => by rw [eqI_iff]
    refine ev_by u13001 ?_
    simp only [t13001, go_sem, List.length_map, idx_map _ _ _ hi, hin, wrapS i (by omega), ih, hq, Bool.and_self]
    rw [cond_lt (by omega)]
theorem e13000 (gn : List Int) (ge : List Ge) (h1 : Len gn.length) (h2 : Len ge.length) : ev 13000 [intsD gn, gesD ge, intsD gn, gesD ge] = some [.bool true] := by
  refine ev_by u13000 ?_
  simp only [t13000, go_sem, e11500 gn h1, List.length_map]
  rw [cond_eq rfl]
  exact e13001 ge h2 _ _ _ 0 (by omega)
theorem e13101 (l : List Int) (hl : Len l.length) (x : D) : ∀ i, i ≤ l.length → ev 13101 [intsD l, intsD l, x, .int i] = some [.int 0] := by
  have z : (l.length : Int) - l.length = 0 := by omega
  refine down ?_ fun i hi ih => ?_
  · refine ev_by u13101 ?_
    simp only [t13101, go_sem, List.length_map, ltI_irr, z, nowrap (n := 0) (by omega) (by omega)]
  · have hin : (leI 0 i && ltI i l.length) = true := by rw [and_iff, leI_iff, ltI_iff]; omega
    refine ev_by u13101 ?_
    simp only [t13101, go_sem, List.length_map, idx_map _ _ _ hi, hin, wrapS i (by omega), ih]
    rw [cond_lt (by omega), cond_lt (by omega), cond_eq rfl]
theorem e13100 (l : List Int) (hl : Len l.length) : ev 13100 [intsD l, intsD l] = some [.int 0] := by
  refine ev_by u13100 ?_
  simp only [t13100, go_sem]
  exact e13101 l hl _ 0 (by omega)
theorem e12901 (vs : List (List Int)) (hl : Len vs.length) (hs : ∀ l, l ∈ vs → Len l.length) (a b c d e f g h i j k : D) : ∀ y, y ≤ vs.length → ev 12901 [a, b, c, d, e, f, g, .int y, h, i, valsD vs, j, k, valsD vs] = some [.bool true] := by
  have z : eqI 0 0 = true := by decide
  refine down ?_ fun y hy ih => ?_
  · refine ev_by u12901 ?_
    simp only [t12901, go_sem, List.length_map, ltI_irr]
  · have hin : (leI 0 y && ltI y vs.length) = true := by rw [and_iff, leI_iff, ltI_iff]; omega
    refine ev_by u12901 ?_
    simp only [t12901, go_sem, List.length_map, idx_map _ _ _ hy, hin, e13100 _ (hs _ (getD_mem hy)), z, wrapS y (by omega), ih]
    rw [cond_lt (by omega)]
theorem e12900 (gn : List Int) (ge : List Ge) (vs : List (List Int)) (h1 : Len gn.length) (h2 : Len ge.length) (hl : Len vs.length) (hs : ∀ l, l ∈ vs → Len l.length) : ev 12900 [intsD gn, gesD ge, valsD vs, intsD gn, gesD ge, valsD vs] = some [.bool true] := by
  refine ev_by u12900 ?_
  simp only [t12900, go_sem, e13000 gn ge h1 h2, List.length_map]
  rw [cond_eq rfl]
  exact e12901 vs hl hs _ _ _ _ _ _ _ _ _ _ _ 0 (by omega)
def LenH (gn : List Int) (ge : List Ge) (vs : List (List Int)) : Prop := Len gn.length ∧ Len ge.length ∧ Len vs.length ∧ ∀ l, l ∈ vs → Len l.length
theorem e11600 {ns : List Nd} {es : List Ed} {sn se gn gn' : List Int} {ge ge' : List Ge} {vs vs' : List (List Int)} (hl : LenT ns es) (h1 : Len sn.length) (h2 : Len se.length) (h3 : LenH gn ge vs) (h4 : LenH gn' ge' vs') :
    ev 11600 [ndsD ns, edsD es, intsD sn, intsD se, intsD gn, gesD ge, valsD vs, intsD gn', gesD ge', valsD vs'] = some [.bool true] := by
  obtain ⟨b, hb, hp⟩ := e7100 hl h1 h2 (gn := gn) (ge := ge) (vs := vs) h3.2.2.1
  obtain ⟨b', hb', hp'⟩ := e7100 hl h1 h2 (gn := gn') (ge := ge') (vs := vs') h4.2.2.1
  cases b
  · refine ev_by u11600 ?_
    simp only [t11600, go_sem, awake_ok, hb]
  · cases b'
    · refine ev_by u11600 ?_
      simp only [t11600, go_sem, awake_ok, hb, hb']
    · obtain ⟨_, _, ht, hsz, hf⟩ := hp rfl
      obtain ⟨_, _, _, _, hf'⟩ := hp' rfl
      have s1 := e11700 ht hf hf' (sn := sn) (se := se)
      have s2 := e12500 ht hf hf' (sn := sn) (se := se)
      obtain ⟨f1, f2, f3, f4⟩ := hf
      obtain ⟨f1', f2', f3', f4'⟩ := hf'
      have hsame : ∃ (g : List Int) (e : List Ge) (v : List (List Int)) (x : Int), pairRes ns es sn se gn ge vs gn' ge' vs' = hostD g e v x ∧ Len g.length ∧ Len e.length ∧ Len v.length ∧ ∀ l, l ∈ v → Len l.length := by
        have nil : ∀ x : Int, ∃ (g : List Int) (e : List Ge) (v : List (List Int)) (y : Int), hostD [] [] [] x = hostD g e v y ∧ Len g.length ∧ Len e.length ∧ Len v.length ∧ ∀ l, l ∈ v → Len l.length :=
          fun x => ⟨[], [], [], x, rfl, by simp [Len], by simp [Len], by simp [Len], fun l hl => by cases hl⟩
        unfold pairRes
        split
        · split
          · cases onlyB sn se gn ge 1 && onlyB sn se gn' ge' 3
            · exact nil _
            · simp only [go_sem]
              split
              · exact nil _
              · refine ⟨_, _, _, _, rfl, by simp [Len]; omega, by simp [Len, move]; omega, by simp [Len]; omega, fun l hl => ?_⟩
                rcases List.mem_append.1 hl with hl | hl
                · obtain ⟨r, hr, he⟩ := mem_getD hl
                  have := f4 r hr
                  rw [← he]; unfold Len; omega
                · obtain ⟨r, hr, he⟩ := mem_getD hl
                  have := f4' r hr
                  rw [← he]; unfold Len; omega
          · exact nil _
        · exact nil _
      obtain ⟨g, e, v, x, hr, l1, l2, l3, l4⟩ := hsame
      rw [hr] at s1 s2
      unfold hostD at s1 s2
      have hx : eqI x x = true := by rw [eqI_iff]
      refine ev_by u11600 ?_
      simp only [t11600, go_sem, awake_ok, hb, hb', s1, s2, hx, e12900 g e v l1 l2 l3 l4]
theorem dec_ges {d : D} (h : WK env.ti (.sl 31) d) : ∃ l : List Ge, d = gesD l ∧ Len l.length :=
  have ⟨l, h1, h2, _⟩ := dec_list ti31 h (f := Ge.d) (p := fun _ => True) fun x hs hc => by
    obtain ⟨l, rfl, hl⟩ := hs rfl
    match l, hl with
    | [a, b, c], _ =>
      obtain ⟨n1, e1, _⟩ := dec_int (hc 0 _ rfl)
      obtain ⟨n2, e2, _⟩ := dec_int (hc 1 _ rfl)
      obtain ⟨n3, e3, _⟩ := dec_int (hc 2 _ rfl)
      have e1' : a = .int n1 := e1
      have e2' : b = .int n2 := e2
      have e3' : c = .int n3 := e3
      exact ⟨⟨n1, n2, n3⟩, by rw [e1', e2', e3'], trivial⟩
  ⟨l, h1, h2⟩
theorem dec_vals {d : D} (h : WK env.ti (.sl 34) d) : ∃ l : List (List Int), d = valsD l ∧ Len l.length ∧ ∀ x, x ∈ l → Len x.length :=
  dec_list ti34 h (f := intsD) (p := fun x => Len x.length) fun x _ hc => by
    obtain ⟨l, h1, h2, _⟩ := dec_ints (hc 0 _ rfl)
    exact ⟨l, h1, h2⟩
theorem kinds30_36_36 : [30, 36, 36].flatMap (kindsOf env.ti) = [.sl 22, .sl 23, .sl 26, .sl 26, .sl 26, .sl 31, .sl 34, .sl 26, .sl 31, .sl 34] := by kernel_rfl
theorem all2_cons {R : K → D → Prop} {a : K} {l : List K} {ν : List D} (h : All2 R (a :: l) ν) : ∃ x r, ν = x :: r ∧ R a x ∧ All2 R l r := by
  cases h with
  | cons h1 h2 => exact ⟨_, _, rfl, h1, h2⟩
theorem all2_nil {R : K → D → Prop} {ν : List D} (h : All2 R [] ν) : ν = [] := by cases h; rfl
theorem triplePair_pure (ν : List D) (h : All2 (WK env.ti) ([30, 36, 36].flatMap (kindsOf env.ti)) ν) : Ev tree prim (116 * 100) ν [.bool true] := by
  rw [kinds30_36_36] at h
  obtain ⟨x1, r, rfl, h1, h⟩ := all2_cons h
  obtain ⟨x2, r, rfl, h2, h⟩ := all2_cons h
  obtain ⟨x3, r, rfl, h3, h⟩ := all2_cons h
  obtain ⟨x4, r, rfl, h4, h⟩ := all2_cons h
  obtain ⟨x5, r, rfl, h5, h⟩ := all2_cons h
  obtain ⟨x6, r, rfl, h6, h⟩ := all2_cons h
  obtain ⟨x7, r, rfl, h7, h⟩ := all2_cons h
  obtain ⟨x8, r, rfl, h8, h⟩ := all2_cons h
  obtain ⟨x9, r, rfl, h9, h⟩ := all2_cons h
  obtain ⟨x10, r, rfl, h10, h⟩ := all2_cons h
  obtain rfl := all2_nil h
  obtain ⟨ns, rfl, a1, a2⟩ := dec_nds h1
  obtain ⟨es, rfl, b1, b2⟩ := dec_eds h2
  obtain ⟨sn, rfl, c1, _⟩ := dec_ints h3
  obtain ⟨se, rfl, d1, _⟩ := dec_ints h4
  obtain ⟨gn, rfl, f1, _⟩ := dec_ints h5
  obtain ⟨ge, rfl, g1⟩ := dec_ges h6
  obtain ⟨vs, rfl, i1, i2⟩ := dec_vals h7
  obtain ⟨gn', rfl, j1, _⟩ := dec_ints h8
  obtain ⟨ge', rfl, k1⟩ := dec_ges h9
  obtain ⟨vs', rfl, l1, l2⟩ := dec_vals h10
  exact (evr_iff primDet).1 (e11600 ⟨a1, b1, a2, b2⟩ c1 d1 ⟨f1, g1, i1, i2⟩ ⟨j1, k1, l1, l2⟩)
end Go.SX.T52
